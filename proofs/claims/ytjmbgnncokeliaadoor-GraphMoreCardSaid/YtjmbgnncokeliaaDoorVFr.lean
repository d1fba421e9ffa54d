/- Ranges over functions: what an iterator does with a yield, what a round does to the loop's own state, the loop. -/
import Derived.Test.YtjmbgnncokeliaaDoorVTd
set_option maxRecDepth 100000
set_option linter.unusedSimpArgs false
set_option linter.unusedVariables false
set_option linter.defProp false
namespace Go.VC
open Go.RowKit Go.Proofs
/-- The yield of the loop whose record is block L. -/
def yieldV (L : Nat) : Value := .func (.yield L) #[] #[]
def yR (L : Nat) : R := .sem [] fun _ v => v = yieldV L
theorem yR_rel {β : Nat → Value} {st : Nat → Prop} {w : World} {L : Nat} : RelR β st w (yieldV L) (yR L) := .sem rfl fun _ _ => rfl
theorem yR_inv {β : Nat → Value} {st : Nat → Prop} {w : World} {L : Nat} {v : Value} (h : RelR β st w v (yR L)) : v = yieldV L := by
  unfold yR at h
  cases h with | sem h hp => exact h
/-- A loop's record, as an object. -/
def recOb (L : Nat) (r : Loop) : SemOb where
  os := []
  p := fun β st w bv => bv = .pointer (some ⟨L, 0, none⟩) ∧ w.heap[L]? = some (.loop r)
  lt := fun h b hb => by
    obtain ⟨rfl, h⟩ := h
    cases hb; exact (Array.getElem?_eq_some_iff.1 h).1
  mono := fun H h k => by
    obtain ⟨rfl, h⟩ := h
    exact ⟨rfl, (k L rfl).trans h⟩
  dep := fun _ h => h
/-- One round: the loop's own state goes on; A: yield tells true; B: it tells false. -/
def YieldOk (P : Program) (gl : Nat → Option (List D)) (L : Nat) (T : Array Value) (σ : S) (x : List A) (A' B' : S → Prop) : Prop :=
  ∀ (c : Cx) (β : Nat → Value) (a : Act) (w : World) (vs : List Value) (n : Nat), c.P = P → c.gl = gl → a.tmps = T → Sim c σ β a w → F2 (RelA (stF c σ β w) w) vs x →
    YieldAt Fence.wide n P L vs.toArray w fun e w' => ∃ σ' β', Sim c σ' β' a w' ∧ ((e = .returned (.bool true) ∧ A' σ') ∨ (e = .returned (.bool false) ∧ B' σ'))
/-- What a callee hands back of its caller's state. -/
noncomputable def S.ud (σ : S) : S := { regs := fun t => (σ.regs t).up.down, mem := fun o => if 999000000 ≤ o ∧ o < 1000000000 then none else (σ.mem o).map fun x => x.up.down }
/-- An iterator's contract: it calls yield with each of xs, until a round tells false. -/
def IterV (P : Program) (gl : Nat → Option (List D)) (g : FuncId) (caps : List D) (xs : List (List A)) : Prop :=
  FnOk P g ∧ ∀ (L : Nat) (T : Array Value) (σ : S) (Inv : Nat → S → Prop) (Done : S → Prop), (∀ i σ, Inv i σ → Inv i σ.ud) → (∀ σ, Done σ → Done σ.ud) →
    (∀ i x σ, xs[i]? = some x → Inv i σ → YieldOk P gl L T σ x (Inv (i + 1)) Done) → Inv 0 σ →
    ∀ (c : Cx) (β : Nat → Value) (a : Act) (w : World) (vs : List Value), c.P = P → c.gl = gl → a.tmps = T → Sim c σ β a w → F2 (RelR β (stF c σ β w) w) vs (yR L :: caps.map fun d => .a (.d d)) →
      Calls P g vs.toArray w fun e w' => ∃ (v : Value) (σ' : S) (β' : Nat → Value), e = .returned v ∧ Sim c σ' β' a w' ∧ (Inv xs.length σ' ∨ Done σ')

/-! ### A round, from the loop's side -/
section
variable {c : Cx} {σ : S} {β : Nat → Value} {a : Act} {w : World}
def updL (reg : Nat → R) : List Tmp → List A → Nat → R
  | p :: ps, x :: xs => updL (upd reg p (.a x)) ps xs
  | _, _ => reg
def putL (T : Array Value) : List Tmp → List Value → Array Value
  | p :: ps, v :: vs => putL (T.setIfInBounds p v) ps vs
  | _, _ => T
theorem putL_size : ∀ (ps : List Tmp) (vs : List Value) (T : Array Value), (putL T ps vs).size = T.size
  | [], vs, T => by cases vs <;> rfl
  | p :: ps, [], T => rfl
  | p :: ps, v :: vs, T => by simp only [putL, putL_size ps vs, Array.size_setIfInBounds]
theorem putL_rel {st : Nat → Prop} : ∀ (ps : List Tmp) (vs : List Value) (xs : List A) {T : Array Value} {reg : Nat → R}, (∀ p ∈ ps, p < T.size) → F2 (RelA st w) vs xs → (∀ t, RelR β st w (T.getD t undef) (reg t)) →
    ∀ t, RelR β st w ((putL T ps vs).getD t undef) (updL reg ps xs t)
  | [], vs, xs, T, reg, hp, hv, hr => by cases vs <;> cases xs <;> exact hr
  | p :: ps, vs, [], T, reg, hp, hv, hr => by rw [hv.of_nil]; exact hr
  | p :: ps, vs, x :: xs, T, reg, hp, hv, hr => by
    obtain ⟨v, vs', rfl, h1, h2⟩ := hv.of_cons
    refine putL_rel ps vs' xs (fun q hq => by rw [Array.size_setIfInBounds]; exact hp q (List.mem_cons_of_mem _ hq)) h2 fun t => ?_
    have hps := hp p (List.mem_cons_self ..)
    unfold upd
    rw [Array.getD_eq_getD_getElem?, Array.getElem?_setIfInBounds]
    by_cases e : p = t
    · subst e; rw [if_pos rfl, if_pos rfl, if_pos hps]; exact .a h1
    · rw [if_neg e, if_neg fun e' => e e'.symm, ← Array.getD_eq_getD_getElem?]; exact hr t
theorem fold_putL : ∀ (ps : List Tmp) (vs : List Value) (T : Array Value), (ps.zip vs).foldl (fun t (x : Tmp × Value) => t.setIfInBounds x.1 x.2) T = putL T ps vs
  | [], vs, T => by cases vs <;> rfl
  | p :: ps, [], T => rfl
  | p :: ps, v :: vs, T => by simp only [List.zip_cons_cons, List.foldl_cons, fold_putL ps vs, putL]
/-- The same memory, told of another activation. -/
def reC (c : Cx) (N : Nat) (df : List Deferred) (M : List Nat) (E : (Nat → Prop) → World → Prop) (hE : ∀ {st st' : Nat → Prop} {w w' : World}, (∀ b, st b → st' b ∧ w'.heap[b]? = w.heap[b]?) → E st w → E st' w') : Cx :=
  { c with N := N, df := df, M := M, E := E, hE := hE }
theorem Sim.move {N : Nat} {df : List Deferred} {M : List Nat} {E : (Nat → Prop) → World → Prop} {hE : ∀ {st st' : Nat → Prop} {w w' : World}, (∀ b, st b → st' b ∧ w'.heap[b]? = w.heap[b]?) → E st w → E st' w'}
    {σ' : S} {a' : Act} (h : Sim c σ β a w) (hm : ∀ o x, σ'.mem o = some x → σ.mem o = some x) (hN : a'.tmps.size = N) (Ds : List Nat) (hd : a'.defers = Ds.map markD ++ df) (hM : MarksOk c σ β w (Ds ++ M))
    (he : E (stF c σ β w) w) (hr : ∀ t, RelR β (stF c σ β w) w (a'.tmps.getD t undef) (σ'.regs t)) : Sim (reC c N df M E hE) σ' β a' w ∧ ∀ b, stF c σ β w b → stF (reC c N df M E hE) σ' β w b ∧ w.heap[b]? = w.heap[b]? := by
  have hst : ∀ b, stF c σ β w b → stF (reC c N df M E hE) σ' β w b ∧ w.heap[b]? = w.heap[b]? := fun b hb => ⟨⟨hb.1, hb.2.1, fun o x hx => hb.2.2.1 o x (hm o x hx), hb.2.2.2⟩, rfl⟩
  refine ⟨⟨h.keep, hN, ⟨Ds, hd, hM.nd, fun D hD => ?_⟩, hE hst he, fun o x hx => (h.obj o x (hm o x hx)).mono hst fun _ _ => rfl, fun o x b hx => h.blk o x b (hm o x hx), fun o o' x x' b hx hx' => h.dis o o' x x' b (hm o x hx) (hm o' x' hx'), fun t => (hr t).mono hst, h.env.mono hst⟩, hst⟩
  obtain ⟨h1, h2, h3⟩ := hM.ok D hD
  exact ⟨h1, h2, fun o x hx => h3 o x (hm o x hx)⟩
/-- A round's state at its start. -/
def S.rnd (σ : S) (vs : List Value) (ps : List Tmp) (xs : List A) : S := { regs := updL (killR 999996 σ.regs) ps xs, mem := (σ.newOb 999996 (.frame vs (killR 999996 σ.regs))).mem }
def frB : Option Ob → Nat → R
  | some (.frame _ rs), t => rs t
  | _, _ => .any
/-- The loop's own state behind a round. -/
def S.back (σ : S) : S := { regs := frB (σ.mem 999996), mem := fun o => if o = 999996 then none else σ.mem o }
theorem rnd_sim {ps : List Tmp} {vs : List Value} {xs : List A} {Ds : List Nat} (h : Sim c σ β a w) (hM : MarksOk c σ β w (Ds ++ c.M)) (hv : F2 (RelA (stF c σ β w) w) vs xs) (hp : ∀ p ∈ ps, p < a.tmps.size) :
    Sim (reC c a.tmps.size [] (Ds ++ c.M) c.E c.hE) (σ.rnd a.tmps.toList ps xs) (upd β 999996 undef) { tmps := putL a.tmps ps vs, defers := [] } w := by
  have hgd : ∀ t, a.tmps.toList.getD t undef = a.tmps.getD t undef := fun t => by rw [List.getD_eq_getElem?_getD, Array.getD_eq_getD_getElem?, Array.getElem?_toList]
  have T : ∀ o', o' ≠ 999996 → upd β 999996 undef o' = β o' := fun o' e => by simp [upd, e]
  have H : ∀ b, stF c σ β w b → stF c (σ.newOb 999996 (.frame a.tmps.toList (killR 999996 σ.regs))) (upd β 999996 undef) w b ∧ w.heap[b]? = w.heap[b]? := fun b hb => ⟨st_new (Nat.le_refl _) (fun _ _ => rfl) (fun b hb => by cases hb) hb, rfl⟩
  have h1 := h.new (o := 999996) (x := .frame a.tmps.toList (killR 999996 σ.regs)) (bv := undef) (w' := w) (Keep.refl _ _) (fun b hb => by cases hb) ⟨rfl, fun t => by rw [hgd]; exact ((h.reg t).mono H).turn T⟩
  have hM1 : MarksOk c (σ.newOb 999996 (.frame a.tmps.toList (killR 999996 σ.regs))) (upd β 999996 undef) w ([] ++ (Ds ++ c.M)) := hM.keep (fun _ _ _ => rfl) fun o x hx => by
    by_cases e : o = 999996
    · subst e; exact .inr fun b hb => by simp [upd, undef_own] at hb
    · simp only [S.newOb, upd, if_neg e] at hx
      obtain ⟨y, hy, _⟩ := Option.map_eq_some_iff.1 hx
      exact .inl ⟨o, y, hy, T o e⟩
  refine (h1.move (a' := { tmps := putL a.tmps ps vs, defers := [] }) (σ' := σ.rnd a.tmps.toList ps xs) (fun o x hx => hx) (putL_size _ _ _) [] rfl hM1 h1.ext fun t => ?_).1
  exact putL_rel ps vs xs hp (hv.mono fun _ _ => RelA.mono H) (fun t => h1.reg t) t
theorem back_sim {N : Nat} {df : List Deferred} {a' : Act} {Ds : List Nat}
    (h : Sim (reC c N df (Ds ++ c.M) c.E c.hE) σ β a' w) (hf : fvOf (σ.mem 999996) = some a.tmps.toList) (hsz : a.tmps.size = c.N) (hd : a.defers = Ds.map markD ++ c.df) : Sim c σ.back β a w := by
  have hgd : ∀ t, a.tmps.toList.getD t undef = a.tmps.getD t undef := fun t => by rw [List.getD_eq_getElem?_getD, Array.getD_eq_getD_getElem?, Array.getElem?_toList]
  obtain ⟨rs, hfr⟩ : ∃ rs, σ.mem 999996 = some (.frame a.tmps.toList rs) := by
    unfold fvOf at hf
    split at hf
    · rename_i vs' rs' e; cases hf; exact ⟨rs', e⟩
    · cases hf
  obtain ⟨Ds', _, hM⟩ := h.df
  have hM' : MarksOk (reC c N df (Ds ++ c.M) c.E c.hE) σ β w (Ds ++ c.M) := ⟨(List.nodup_append.1 hM.nd).2.1, fun D hD => hM.ok D (List.mem_append_right _ hD)⟩
  have := (h.move (N := c.N) (df := c.df) (M := c.M) (E := c.E) (hE := c.hE) (a' := a) (σ' := σ.back) (fun o x hx => by
    simp only [S.back] at hx
    split at hx
    · cases hx
    · exact hx) hsz Ds hd hM' h.ext fun t => ?_).1
  · exact this
  · have := (h.obj _ _ hfr).2 t
    rw [hgd] at this
    simpa [S.back, frB, hfr] using this
end
/-- How a round of a loop may end. -/
def rndQ (L : Nat) (T : List Value) (r : Loop) (A' : S → Prop) (B' : Ex → S → Prop) : Ex → S → Prop
  | e, σ => fvOf (σ.mem 999996) = some T ∧ σ.mem 999997 = some (.sem (recOb L { r with state := .busy })) ∧ (match e with
    | .normal => A' (σ.setOb 999997 (.sem (recOb L { r with state := .ready, pending := none }))).back
    | .ret => B' .ret (σ.setOb 999997 (.sem (recOb L { r with state := .done, pending := some .ret }))).back
    | .exit id => B' (.exit id) (σ.setOb 999997 (.sem (recOb L { r with state := .done, pending := some (.exit id) }))).back)
/-- What the assignments to a loop's left sides come to: the body is run. -/
def rndB (P : Program) (gl : Nat → Option (List D)) (L : Nat) (T : List Value) (r : Loop) (body : Code) (A' : S → Prop) (B' : Ex → S → Prop) : Ex → S → Prop
  | .normal, σ => σ.mem 999997 = some (.sem (recOb L r)) ∧ awp P gl body (rndQ L T r A' B') (σ.setOb 999997 (.sem (recOb L { r with state := .busy })))
  | _, _ => False
theorem rec_set {c : Cx} {σ : S} {β : Nat → Value} {a : Act} {w : World} {L : Nat} {r : Loop} (r' : Loop) (h : Sim c σ β a w) (hr : σ.mem 999997 = some (.sem (recOb L r))) :
    w.heap[L]? = some (.loop r) ∧ Sim c (σ.setOb 999997 (.sem (recOb L r'))) β a (w.putObj L (.loop r')) := by
  obtain ⟨hb, hh⟩ := h.obj _ _ hr
  refine ⟨hh, h.setOb hr ⟨rfl, rfl, rfl, by simp [World.putObj], fun k _ hk => World.putObj_heap_other fun e => hk (by rw [hb, e]; rfl)⟩ ⟨hb, World.putObj_heap_same (lt_of_some hh)⟩⟩
theorem yield_ok {P : Program} {gl : Nat → Option (List D)} {L : Nat} {T : Array Value} {σ : S} {x : List A} {A' : S → Prop} {B' : Ex → S → Prop} {r : Loop} (hmx : P.follows .mixedOrders = true) (hr : σ.mem 999997 = some (.sem (recOb L r))) (hst : r.state = .ready) (hT : r.tmps = T) (hx : r.params.size = x.length)
    (hps : ∀ p ∈ r.params.toList, p < T.size) (hda : dstOK T.size r.assign = true) (hna : noRng r.assign = true) (hdb : dstOK T.size r.body = true) (hnb : noRng r.body = true)
    (h : awp P gl r.assign (rndB P gl L T.toList r r.body A' B') (σ.rnd T.toList r.params.toList x)) : YieldOk P gl L T σ x A' (fun σ => ∃ e, B' e σ) := by
  intro c β a w vs n hP hgl hTa hs hv
  subst hP; subst hgl; subst hTa
  obtain ⟨hb, hh⟩ := hs.obj _ _ hr
  obtain ⟨Ds, hds, hM⟩ := hs.df
  have hvl := hv.1
  refine ⟨r.fn, _, r.assign, r.body, run_yield hh (by simp [hvl, hx]), roundIn_of_wpIn trivial ?_⟩
  have e1 : (r.params.zip vs.toArray).foldl (fun tmps (x : Tmp × Value) => tmps.setIfInBounds x.1 x.2) r.tmps = putL a.tmps r.params.toList vs := by
    rw [hT, ← fold_putL, ← Array.foldl_toList, Array.toList_zip]
  rw [show (r.params.zip vs.toArray).foldl (fun tmps (t, a) => tmps.setIfInBounds t a) r.tmps = putL a.tmps r.params.toList vs from e1]
  have hs0 := rnd_sim (ps := r.params.toList) hs hM hv hps
  have hwf : Fence.wide.inRound L = WF (some L) := rfl
  rw [hwf]
  refine wpIn_mono (awp_sound (c := reC c a.tmps.size [] (Ds ++ c.M) c.E c.hE) (ρ := some L) hmx r.assign hda (.inr hna) h hs0) fun e a1 w1 hq => ?_
  cases e with
  | normal =>
    obtain ⟨σ1, β1, hs1, hr1, hb1⟩ := hq
    obtain ⟨hh1, hs1'⟩ := rec_set { r with state := .busy } hs1 hr1
    refine ⟨_, run_beginRound hh1 hst, ?_⟩
    refine wpIn_mono (awp_sound (c := reC c a.tmps.size [] (Ds ++ c.M) c.E c.hE) (ρ := some L) hmx r.body hdb (.inr hnb) hb1 hs1') fun e a2 w2 hq2 => ?_
    cases e with
    | normal =>
      obtain ⟨σ2, β2, hs2, hf2, hr2, hA⟩ := hq2
      obtain ⟨hh2, hs3⟩ := rec_set { r with state := .ready, pending := none } hs2 hr2
      exact ⟨_, _, run_endRound none hh2, _, β2, back_sim hs3 (by rw [show (σ2.setOb 999997 _).mem 999996 = σ2.mem 999996 from rfl]; exact hf2) hs.size hds, .inl ⟨rfl, hA⟩⟩
    | ret =>
      obtain ⟨σ2, β2, hs2, hf2, hr2, hA⟩ := hq2
      obtain ⟨hh2, hs3⟩ := rec_set { r with state := .done, pending := some .ret } hs2 hr2
      exact ⟨_, _, run_endRound (some .ret) hh2, _, β2, back_sim hs3 (by rw [show (σ2.setOb 999997 _).mem 999996 = σ2.mem 999996 from rfl]; exact hf2) hs.size hds, .inr ⟨rfl, _, hA⟩⟩
    | exit id =>
      obtain ⟨σ2, β2, hs2, hf2, hr2, hA⟩ := hq2
      obtain ⟨hh2, hs3⟩ := rec_set { r with state := .done, pending := some (.exit id) } hs2 hr2
      exact ⟨_, _, run_endRound (some (.exit id)) hh2, _, β2, back_sim hs3 (by rw [show (σ2.setOb 999997 _).mem 999996 = σ2.mem 999996 from rfl]; exact hf2) hs.size hds, .inr ⟨rfl, _, hA⟩⟩
    | goto l => exact hq2.elim
    | panic ch => exact hq2.elim
    | outgrown => exact hq2.elim
  | exit id => obtain ⟨_, _, _, hk⟩ := hq; exact hk.elim
  | ret => obtain ⟨_, _, _, hk⟩ := hq; exact hk.elim
  | goto l => exact hq.elim
  | panic ch => exact hq.elim
  | outgrown => exact hq.elim
/-! ### A yield, from the iterator's side -/
def R.pur : R → R
  | .a x => .a x
  | .cs xs => .cs xs
  | .tp [] => .tp []
  | .sem [] p => .sem [] p
  | _ => .any
theorem pur_rel {β β' : Nat → Value} {st : Nat → Prop} {w : World} {v : Value} {r : R} (h : RelR β st w v r) : RelR β' st w v r.pur := by
  cases h with
  | any => exact .any
  | a h => exact .a h
  | cs h => exact .cs h
  | ref h => exact .any
  | eref h => exact .any
  | own h _ => exact .any
  | omp h _ => exact .any
  | clo h => exact .any
  | @tp vs xs hl hd =>
    cases xs with
    | nil => exact .tp hl fun j v r _ hr => by simp at hr
    | cons x xs => exact .any
  | agr _ _ _ => exact .any
  | @sem os p v h hp =>
    cases os with
    | nil => exact .sem (hp β' fun _ h => by cases h) fun β2 _ => hp β2 fun _ h => by cases h
    | cons o os => exact .any
theorem pur_pur (r : R) : r.pur.pur = r.pur := by
  cases r with
  | tp xs => cases xs <;> rfl
  | sem os p => cases os <;> rfl
  | _ => rfl
/-- An iterator's state behind a yield. -/
noncomputable def S.again (T : List Value) (τ σ : S) : S := { regs := fun t => (τ.regs t).pur, mem := (S.enter T [] σ).mem }
section
variable {c : Cx} {σ : S} {β : Nat → Value} {a : Act} {w : World}
theorem leave_re {M : List Nat} {E : (Nat → Prop) → World → Prop} {hE : ∀ {st st' : Nat → Prop} {w w' : World}, (∀ b, st b → st' b ∧ w'.heap[b]? = w.heap[b]?) → E st w → E st' w'} {T : Array Value} {rs : Nat → R}
    (h : Sim c σ β a w) (hf : σ.mem 999999 = some (.frame T.toList rs)) (hM : MarksOk c σ β w M) (he : E (stF c σ β w) w) :
    Sim (reC c T.size [] M E hE) (S.leave σ) (fun o => β (upId o)) { tmps := T, defers := [] } w ∧ ∀ b, stF c σ β w b → stF (reC c T.size [] M E hE) (S.leave σ) (fun o => β (upId o)) w b ∧ w.heap[b]? = w.heap[b]? := by
  have hβ : ∀ o, 1000000 ≤ o → (fun o => β (upId o)) (o - 1000000) = β o := fun o ho => congrArg β (upId_of ho)
  have hst : ∀ b, stF c σ β w b → stF (reC c T.size [] M E hE) (S.leave σ) (fun o => β (upId o)) w b ∧ w.heap[b]? = w.heap[b]? := fun b hb => ⟨⟨hb.1, hb.2.1, fun o x hx => by
    obtain ⟨_, y, hy, _⟩ := leave_at hx
    exact hb.2.2.1 _ y hy, hb.2.2.2⟩, rfl⟩
  have m2 := hM.keep (w' := w) (σ' := S.leave σ) (β' := fun o => β (upId o)) (fun _ _ _ => rfl) fun o x hx => by
    obtain ⟨_, y, hy, _⟩ := leave_at hx
    exact .inl ⟨_, y, hy, rfl⟩
  refine ⟨⟨h.keep, rfl, ⟨[], rfl, m2.nd, m2.ok⟩, hE hst he, fun o x hx => ?_, fun o x b hx hb => ?_, fun o o' x x' b hx hx' hb hb' => ?_, fun t => ?_, h.env.mono hst⟩, hst⟩
  · obtain ⟨_, y, hy, rfl⟩ := leave_at hx
    exact ObRel.down (β' := fun o => β (upId o)) hβ ((h.obj _ y hy).mono hst fun _ _ => rfl)
  · obtain ⟨h1, y, hy, rfl⟩ := leave_at hx
    exact (h.blk _ y b hy hb).imp id fun hx => ⟨hx.1, by have := hx.2; rw [upId_eq] at this; omega⟩
  · obtain ⟨_, y, hy, rfl⟩ := leave_at hx
    obtain ⟨_, y', hy', rfl⟩ := leave_at hx'
    exact upId_inj (h.dis _ _ y y' b hy hy' hb hb')
  · have := RelR.down (β' := fun o => β (upId o)) hβ (((h.obj _ _ hf).2 t).mono hst)
    simp only [S.leave, hf, frR]
    rwa [show T.toList.getD t undef = T.getD t undef by rw [List.getD_eq_getElem?_getD, Array.getD_eq_getD_getElem?, Array.getElem?_toList]] at this
theorem again_re {T : Array Value} {τ : S} {Ds : List Nat} {E : (Nat → Prop) → World → Prop} {hE : ∀ {st st' : Nat → Prop} {w w' : World}, (∀ b, st b → st' b ∧ w'.heap[b]? = w.heap[b]?) → E st w → E st' w'}
    (h : Sim (reC c T.size [] (Ds ++ c.M) E hE) σ β { tmps := T, defers := [] } w) (hE1 : ∀ st w, E st w → c.E st w ∧ ∀ t, RelR (fun _ => undef) st w (a.tmps.getD t undef) (τ.regs t).pur)
    (hsz : a.tmps.size = c.N) (hd : a.defers = Ds.map markD ++ c.df) : Sim c (S.again T.toList τ σ) (βIn β) a w := by
  have at_ : ∀ o x, (S.again T.toList τ σ).mem o = some x → (o = 999999 ∧ x = .frame T.toList fun t => (σ.regs t).up) ∨ ∃ o' y, o = upId o' ∧ σ.mem o' = some y ∧ x = y.up := fun o x hx => enter_at (vs := T.toList) (rs := []) hx
  have hst : ∀ b, stF (reC c T.size [] (Ds ++ c.M) E hE) σ β w b → stF c (S.again T.toList τ σ) (βIn β) w b ∧ w.heap[b]? = w.heap[b]? := fun b hb => ⟨⟨hb.1, hb.2.1, fun o x hx => by
    rcases at_ o x hx with ⟨rfl, _⟩ | ⟨o', y, rfl, hy, _⟩
    · simp [βIn, undef_own]
    · rw [βIn_add]; exact hb.2.2.1 o' y hy, hb.2.2.2⟩, rfl⟩
  obtain ⟨Ds', _, hM⟩ := h.df
  obtain ⟨hce, hre⟩ := hE1 _ _ h.ext
  have m2 := hM.keep (w' := w) (σ' := S.again T.toList τ σ) (β' := βIn β) (fun _ _ _ => rfl) fun o x hx => by
    rcases at_ o x hx with ⟨rfl, _⟩ | ⟨o', y, rfl, hy, _⟩
    · exact .inr fun b hb => by simp [βIn, undef_own] at hb
    · exact .inl ⟨o', y, hy, βIn_add β o'⟩
  refine ⟨h.keep, hsz, ⟨Ds, hd, (List.nodup_append.1 m2.nd).2.1, fun D hD => m2.ok D (List.mem_append_right _ hD)⟩, c.hE hst hce, fun o x hx => ?_, fun o x b hx hb => ?_, fun o o' x x' b hx hx' hb hb' => ?_, fun t => ?_, h.env.mono hst⟩
  · rcases at_ o x hx with ⟨rfl, rfl⟩ | ⟨o', y, rfl, hy, rfl⟩
    · refine ⟨by simp [βIn, undef_own], fun t => ?_⟩
      have := ((h.reg t).mono hst).up (βIn_add β)
      rwa [show T.toList.getD t undef = T.getD t undef by rw [List.getD_eq_getElem?_getD, Array.getD_eq_getD_getElem?, Array.getElem?_toList]]
    · rw [βIn_add]
      exact ((h.obj o' y hy).mono hst fun _ _ => rfl).up (βIn_add β)
  · rcases at_ o x hx with ⟨rfl, rfl⟩ | ⟨o', y, rfl, hy, rfl⟩
    · simp [βIn, undef_own] at hb
    · rw [βIn_add] at hb
      exact (h.blk o' y b hy hb).imp id fun hx => ⟨hx.1, by rw [upId_eq]; omega⟩
  · rcases at_ o x hx with ⟨rfl, rfl⟩ | ⟨o1, y, rfl, hy, rfl⟩
    · simp [βIn, undef_own] at hb
    · rcases at_ o' x' hx' with ⟨rfl, rfl⟩ | ⟨o2, y', rfl, hy', rfl⟩
      · simp [βIn, undef_own] at hb'
      · rw [βIn_add] at hb hb'
        rw [h.dis o1 o2 y y' b hy hy' hb hb']
  · have := pur_rel (β' := βIn β) (hre t)
    rw [pur_pur] at this
    exact this.mono hst
end
theorem fv_at {m : Option Ob} {vs : List Value} (h : fvOf m = some vs) : ∃ rs, m = some (.frame vs rs) := by
  unfold fvOf at h
  split at h
  · rename_i vs' rs' ; cases h; exact ⟨rs', rfl⟩
  · cases h
theorem yield_sem {P : Program} {gl : Nat → Option (List D)} {L : Nat} {T : Array Value} {dst : Option Tmp} {y : Operand} {l : List Operand} {ts : Array TypeId} {ty : TypeId} {pos : String} {after : Array Edge} {g : Option (Nat × Bool)} {τ : S} {x : List A} {A' B' : S → Prop} {K : S → Prop}
    (hy : τ.eval gl y = yR L) (hx : evs gl τ l = datR x) (hf : fvOf (τ.mem 999999) = some T.toList) (hY : YieldOk P gl L T τ.leave x A' B')
    (hA : ∀ σ', A' σ' → K ((S.again T.toList τ σ').put dst (.a (.d (.v (.bool true)))))) (hB : ∀ σ', B' σ' → K ((S.again T.toList τ σ').put dst (.a (.d (.v (.bool false)))))) :
    SemOp P gl ⟨dst, .call ⟨.value y, l.toArray, ts⟩, ty, pos, after, g⟩ τ K := by
  intro c β a w hP hgl hs hd
  subst hP; subst hgl
  have hyv : a.eval y = yieldV L := yR_inv (hy ▸ hs.eval y)
  obtain ⟨rs, hfr⟩ := fv_at hf
  obtain ⟨Ds, hds, hM⟩ := hs.df
  let E' : (Nat → Prop) → World → Prop := fun st w => c.E st w ∧ ∀ t, RelR (fun _ => undef) st w (a.tmps.getD t undef) (τ.regs t).pur
  have hE' : ∀ {st st' : Nat → Prop} {w w' : World}, (∀ b, st b → st' b ∧ w'.heap[b]? = w.heap[b]?) → E' st w → E' st' w' := fun H h => ⟨c.hE H h.1, fun t => (h.2 t).mono H⟩
  obtain ⟨hl, hst⟩ := leave_re (E := E') (hE := hE') hs hfr hM ⟨hs.ext, fun t => pur_rel (hs.reg t)⟩
  have hv : F2 (RelA (stF (reC c T.size [] (Ds ++ c.M) E' hE') τ.leave (fun o => β (upId o)) w) w) (l.map a.eval) x := by
    have hlen : l.length = x.length := by
      have := congrArg List.length hx
      rw [← evs_map, datR_eq] at this
      simpa using this
    refine ⟨by simpa using hlen, fun i u z hu hz => ?_⟩
    rw [List.getElem?_map] at hu
    obtain ⟨o, ho, rfl⟩ := Option.map_eq_some_iff.1 hu
    have h1 : (evs c.gl τ l)[i]? = some (τ.eval c.gl o) := by rw [← evs_map, List.getElem?_map, ho]; rfl
    rw [hx, datR_eq, List.getElem?_map, hz] at h1
    have h2 := hs.eval o
    rw [← Option.some.inj h1] at h2
    exact RelA.mono hst h2.inv_a
  refine Run.of_wp (fun _ e => by cases e) fun ρ n next Q hn => ?_
  obtain ⟨fn, tmps, assign, body, hyl, hR⟩ := hY (reC c T.size [] (Ds ++ c.M) E' hE') _ _ w _ (n - 1) rfl rfl rfl hl hv
  have hrun : (execOp a.eval ⟨dst, .call ⟨.value y, l.toArray, ts⟩, ty, pos, after, g⟩).run c.P w = .ok (.round L fn tmps assign body) w := by
    have h2 : (l.toArray.map a.eval) = (l.map a.eval).toArray := by simp
    simp only [execOp, resolve, hyv, yieldV, Sem.run_bind, Sem.run_pure, Result.andThen_ok]
    simp [Deferred.ofValue, invoke, h2, hyl]
  rw [hrun]
  refine ⟨fun hs => by simp [WF, Fence.wide] at hs, ?_⟩
  have hW : ∀ R, RoundIn Fence.wide (n - 1) c.P L fn tmps assign body w R → RoundIn (WF ρ) (n - 1) c.P L fn tmps assign body w R := fun R h => by
    cases ρ with
    | none => exact h
    | some l => exact h
  refine RoundIn.mono (hW _ hR) fun e w' he => ?_
  obtain ⟨σ', β', hs', hk⟩ := he
  have hag := again_re (c := c) (a := a) (τ := τ) hs' (fun _ _ h => h) hs.size hds
  rcases hk with ⟨rfl, hk⟩ | ⟨rfl, hk⟩
  · exact hn _ _ ⟨_, _, hA σ' hk, hag.put hd (.a (x := .d (.v (.bool true))) (.v rfl))⟩
  · exact hn _ _ ⟨_, _, hB σ' hk, hag.put hd (.a (x := .d (.v (.bool false))) (.v rfl))⟩
/-! ### The loop -/
def S.del (σ : S) (o : Nat) : S := { σ with mem := fun o' => if o' = o then none else σ.mem o' }
/-- The jump that a round leaves behind. -/
def exC : Ex → Option Code
  | .normal => none
  | .exit id => some (.exit id)
  | .ret => some .ret
theorem range_sem {P : Program} {gl : Nat → Option (List D)} {f : Operand} {ps : Array Tmp} {assign body : Code} {Q : Ex → S → Prop} {σ : S} {gf : FuncId} {caps : List D} {xs : List (List A)} (Inv : Nat → S → Prop) (Done : Ex → S → Prop)
    (hf : σ.eval gl f = .a (.d (.fn gf caps))) (hit : IterV P gl gf caps xs) (hxs : ∀ x ∈ xs, x.length = ps.size) (hna : noRng assign = true) (hnb : noRng body = true)
    (hudI : ∀ i σ, Inv i σ → Inv i σ.ud) (hudD : ∀ e σ, Done e σ → Done e σ.ud)
    (h0 : ∀ L r, Inv 0 (σ.newOb 999997 (.sem (recOb L r))))
    (hR : ∀ L T r i x σ, r.state = .ready → xs[i]? = some x → Inv i σ → σ.mem 999997 = some (.sem (recOb L r)) →
      awp P gl assign (rndB P gl L T r body (fun τ => τ.mem 999997 = some (.sem (recOb L { r with state := .ready, pending := none })) ∧ Inv (i + 1) τ)
        (fun e τ => τ.mem 999997 = some (.sem (recOb L { r with state := .done, pending := exC e })) ∧ Done e τ)) (σ.rnd T ps.toList x))
    (hN : ∀ σ, Inv xs.length σ → Q .normal (σ.del 999997)) (hD : ∀ e σ, Done e σ → Q e (σ.del 999997)) : SemCode P gl (.rangeFunc f ps assign body) Q σ := by
  intro c β a w ρ n hP hgl hmx hd hp hs
  subst hP; subst hgl
  obtain rfl : ρ = none := hp.resolve_right (by simp [noRng])
  simp only [dstOK, Bool.and_eq_true] at hd
  obtain ⟨⟨hdp, hda⟩, hdb⟩ := hd
  obtain ⟨cvs, hcv, hcl, hcd⟩ : ∃ cvs : List Value, a.eval f = .func (.func gf) #[] cvs.toArray ∧ cvs.length = caps.length ∧ ∀ (j : Nat) (d : D) (v : Value), caps[j]? = some d → cvs[j]? = some v → Rd (stF c σ β w) w v d := by
    have hfv := (hf ▸ hs.eval f).inv_d
    generalize a.eval f = fv at hfv
    cases hfv with
    | fn hl hd => exact ⟨_, rfl, hl, hd⟩
  refine wpIn_rangeFunc fun fn _ => ?_
  have hro : (WF none).round = none := rfl
  obtain ⟨Ds, hds, hM⟩ := hs.df
  let r0 : Loop := { state := .ready, pending := none, fn := fn, tmps := a.tmps, params := ps, assign := assign, body := body, defers := w.heap.size }
  let w1 := w.alloc (.deferred (some []))
  let W1 := w1.alloc (.loop r0)
  have hsz1 : w1.heap.size = w.heap.size + 1 := World.size_alloc _ _
  have hL : W1.heap[w.heap.size + 1]? = some (.loop r0) := by
    have := World.alloc_heap_new w1 (.loop r0); rwa [hsz1] at this
  have hold : ∀ k, k < w.heap.size → W1.heap[k]? = w.heap[k]? := fun k hk => (Below.heap_alloc w1 _ k (by omega)).trans (Below.heap_alloc w _ k hk)
  have hDd : W1.heap[w.heap.size]? = some (.deferred (some [])) := (Below.heap_alloc w1 _ _ (by omega)).trans (World.alloc_heap_new w _)
  have hg := (hs.grow (Keep.alloc (fun _ => False) w (.deferred (some [])))).1
  have hn := hg.new (o := 999997) (x := .sem (recOb (w.heap.size + 1) r0)) (bv := .pointer (some ⟨w.heap.size + 1, 0, none⟩)) (w' := W1) (Keep.alloc _ _ _) (fun b hb => by cases hb; exact .inl (by rw [World.size_alloc]; exact Nat.le_refl _)) ⟨rfl, hL⟩
  have hM1 : MarksOk c (σ.newOb 999997 (.sem (recOb (w.heap.size + 1) r0))) (upd β 999997 (.pointer (some ⟨w.heap.size + 1, 0, none⟩))) W1 ((w.heap.size :: Ds) ++ c.M) := by
    have hk := hM.keep (w' := W1) (σ' := σ.newOb 999997 (.sem (recOb (w.heap.size + 1) r0))) (β' := upd β 999997 (.pointer (some ⟨w.heap.size + 1, 0, none⟩))) (fun D hD _ => hold D hD) fun o x hx => by
      by_cases e : o = 999997
      · subst e; exact .inr fun b hb => by simp only [upd, if_pos rfl] at hb; cases hb; exact .inl (Nat.le_succ _)
      · simp only [S.newOb, upd, if_neg e] at hx
        obtain ⟨y, hy, _⟩ := Option.map_eq_some_iff.1 hx
        exact .inl ⟨o, y, hy, by simp [upd, e]⟩
    refine ⟨?_, fun D hD => ?_⟩
    · simp only [List.cons_append, List.nodup_cons]
      refine ⟨fun hin => ?_, hM.nd⟩
      have := lt_of_some (hM.ok _ hin).2.1
      omega
    · simp only [List.cons_append, List.mem_cons] at hD
      rcases hD with rfl | hD
      · refine ⟨hs.keep.size, hDd, fun o x hx e => ?_⟩
        by_cases eo : o = 999997
        · subst eo; simp only [upd, if_pos rfl] at e; have h9 : w.heap.size + 1 = w.heap.size := Option.some.inj e; omega
        · simp only [S.newOb, upd, if_neg eo] at hx e
          obtain ⟨y, hy, _⟩ := Option.map_eq_some_iff.1 hx
          have := (hs.obj o y hy).lt e
          omega
      · exact hk.ok D hD
  have hs1 : Sim c (σ.newOb 999997 (.sem (recOb (w.heap.size + 1) r0))) (upd β 999997 (.pointer (some ⟨w.heap.size + 1, 0, none⟩))) { a with defers := markD w.heap.size :: a.defers } W1 :=
    (hn.move (N := c.N) (df := c.df) (M := c.M) (E := c.E) (hE := c.hE) (a' := { a with defers := markD w.heap.size :: a.defers }) (fun o x h => h) hs.size (w.heap.size :: Ds) (by simp [hds]) hM1 hn.ext fun t => hn.reg t).1
  have hst1 : ∀ b, stF c σ β w b → stF c (σ.newOb 999997 (.sem (recOb (w.heap.size + 1) r0))) (upd β 999997 (.pointer (some ⟨w.heap.size + 1, 0, none⟩))) W1 b ∧ W1.heap[b]? = w.heap[b]? := fun b hb =>
    ⟨st_new (by rw [World.size_alloc, World.size_alloc]; omega) (fun b hb => hold b hb.1) (fun b hb => by cases hb; exact .inl (Nat.le_succ _)) hb, hold b hb.1⟩
  have hargs : F2 (RelR (upd β 999997 (.pointer (some ⟨w.heap.size + 1, 0, none⟩))) (stF c (σ.newOb 999997 (.sem (recOb (w.heap.size + 1) r0))) (upd β 999997 (.pointer (some ⟨w.heap.size + 1, 0, none⟩))) W1) W1) (yieldV (w.heap.size + 1) :: cvs) (yR (w.heap.size + 1) :: caps.map fun d => .a (.d d)) := by
    refine F2.cons yR_rel ⟨by simp [hcl], fun i u r hu hr => ?_⟩
    simp only [List.getElem?_map, Option.map_eq_some_iff] at hr
    obtain ⟨d, hd, rfl⟩ := hr
    exact .a (x := .d d) ((hcd i d u hd hu).mono hst1)
  have hcall := hit.2 (w.heap.size + 1) a.tmps (σ.newOb 999997 (.sem (recOb (w.heap.size + 1) r0))) (fun i τ => τ.mem 999997 = some (.sem (recOb (w.heap.size + 1) r0)) ∧ Inv i τ)
    (fun τ => ∃ e, τ.mem 999997 = some (.sem (recOb (w.heap.size + 1) { r0 with state := .done, pending := exC e })) ∧ Done e τ)
    (fun i τ h => ⟨by simp only [S.ud]; rw [if_neg (by omega), h.1, Option.map_some, sem_up_down], hudI i τ h.2⟩)
    (fun τ ⟨e, h⟩ => ⟨e, by simp only [S.ud]; rw [if_neg (by omega), h.1, Option.map_some, sem_up_down], hudD e τ h.2⟩)
    (fun i x τ hx h => yield_ok hmx h.1 rfl rfl (hxs x (List.mem_of_getElem? hx)).symm (fun p hp => by have := List.all_eq_true.1 hdp p hp; rw [hs.size]; simpa using this) (by rw [hs.size]; exact hda) hna (by rw [hs.size]; exact hdb) hnb (hR _ _ _ i x τ rfl hx h.2 h.1))
    ⟨by simp [S.newOb, upd], h0 _ _⟩ c _ { a with defers := markD w.heap.size :: a.defers } W1 _ rfl rfl rfl hs1 hargs
  refine ⟨w.heap.size + 1, [markD w.heap.size], W1, { target := .fn (.func gf) cvs.toArray, args := #[yieldV (w.heap.size + 1)] }, W1, gf, (yieldV (w.heap.size + 1) :: cvs).toArray, W1, run_enterLoop_outer _ _ _ _ _, ?_, fun _ _ => trivial, ?_, fun h => by simp [WF, Fence.wide] at h, ?_⟩
  · simp only [resolve, hcv]
    simp [go_sem, yieldV]
  · have h2 : (#[yieldV (w.heap.size + 1)] ++ cvs.toArray : Array Value) = (yieldV (w.heap.size + 1) :: cvs).toArray := by simp
    simp only [invoke, h2]
    exact funcs_run hit.1
  · refine callsW (ρ := none) (hcall.mono ?_)
    rintro e W2 ⟨v, σ', β', rfl, hs2, hk⟩
    have fin : ∀ (e : Ex) (r : Loop), σ'.mem 999997 = some (.sem (recOb (w.heap.size + 1) r)) → r.state ≠ .busy → r.pending = exC e → Q e (σ'.del 999997) → rangePost (WF none) n c.P (w.heap.size + 1) (Qh c Q) { a with defers := [markD w.heap.size] ++ a.defers } (.returned v) W2 := fun e r hr hb hpe hq => by
      obtain ⟨hh, hs3⟩ := rec_set { r with state := .exhausted } hs2 hr
      refine ⟨_, _, run_endLoop hh hb, ?_⟩
      obtain ⟨Ds3, hds3, hM3⟩ := hs3.df
      have hs4 : Sim c (σ'.del 999997) β' { a with defers := [markD w.heap.size] ++ a.defers } (W2.putObj (w.heap.size + 1) (.loop { r with state := .exhausted })) :=
        (hs3.move (N := c.N) (df := c.df) (M := c.M) (E := c.E) (hE := c.hE) (σ' := σ'.del 999997) (fun o x hx => by
          simp only [S.del] at hx
          split at hx
          · cases hx
          · rename_i e; simp only [S.setOb, upd, if_neg e]; exact hx) hs3.size Ds3 hds3 hM3 hs3.ext fun t => hs3.reg t).1
      rw [hpe] at hs4 ⊢
      cases e with
      | normal => exact ⟨_, _, hs4, hq⟩
      | ret => exact wpIn_ret ⟨_, _, hs4, hq⟩
      | exit id => exact wpIn_exit ⟨_, _, hs4, hq⟩
    rcases hk with ⟨hr, hi⟩ | ⟨e, hr, hd⟩
    · exact fin .normal _ hr (by simp [r0]) rfl (hN _ hi)
    · exact fin e _ hr (by simp) rfl (hD e _ hd)
/-! ### An iterator's body -/
theorem S.ext' {σ σ' : S} (h1 : ∀ t, σ.regs t = σ'.regs t) (h2 : ∀ o, σ.mem o = σ'.mem o) : σ = σ' := by
  obtain ⟨r, m⟩ := σ
  obtain ⟨r', m'⟩ := σ'
  congr 1
  · exact funext h1
  · exact funext h2
theorem lv_put {σ : S} {d : Option Nat} {r : R} : (S.put σ d r).leave = σ.leave := by cases d <;> rfl
theorem enter_leave {T : List Value} {rs : List R} {σ : S} : (S.enter T rs σ).leave = σ.ud := by
  refine S.ext' (fun t => ?_) fun o => ?_
  · rw [lv_r, me_f]; rfl
  · simp only [S.leave, S.ud]
    have hu := upId_eq o
    split
    · rfl
    · simp only [S.enter]
      rw [if_neg (by omega), if_neg (by omega), upId_sub, Option.map_map]; rfl
theorem again_leave {T : List Value} {τ σ : S} : (S.again T τ σ).leave = σ.ud := by
  rw [← enter_leave (T := T) (rs := []) (σ := σ)]; rfl
theorem ag_r {T : List Value} {τ σ : S} {t : Nat} : (S.again T τ σ).regs t = (τ.regs t).pur := rfl
theorem ag_f {T : List Value} {τ σ : S} : (S.again T τ σ).mem 999999 = some (.frame T (upF σ.regs)) := me_f (rs := [])
theorem pu_a {x : A} : R.pur (.a x) = .a x := rfl
theorem pu_cs {x : List (List D)} : R.pur (.cs x) = .cs x := rfl
theorem pu_y {L : Nat} : (yR L).pur = yR L := rfl
theorem up_y {L : Nat} : (yR L).up = yR L := rfl
theorem k_y {L o : Nat} : (yR L).kill o = yR L := rfl
theorem f_y {L o : Nat} {f : Nat → D} : (yR L).frz o f = yR L := rfl
theorem cf_y {P : Program} {gl : Nat → Option (List D)} {σ : S} {K : S → Prop} {dst : Option Tmp} {o : Oper} {L : Nat} {rs : List R} : callF P gl o (yR L) rs dst σ K = SemOp P gl o σ K := rfl
theorem ud_r {σ : S} {t : Nat} : σ.ud.regs t = (σ.regs t).up.down := rfl
theorem ud_m {σ : S} {o : Nat} (h : decide (o < 999000000) = true) : σ.ud.mem o = (σ.mem o).map fun x => x.up.down := by
  simp only [S.ud]; rw [if_neg (by have := of_decide_eq_true h; omega)]
theorem iter_body {P : Program} {gl : Nat → Option (List D)} {f : FuncId} {fn : Func} {body : Code} {caps : List D} {xs : List (List A)} (hm : P.follows .mixedOrders = true)
    (hf : P.funcs[f]? = some fn) (hb : fn.body = some body) (hr : resT fn.results.toList = some []) (hname : (fn.name == "runtime.NumGoroutine") = false) (hd : dstOK fn.ntmps body = true) (hN : decide ((yR 0 :: caps.map fun d => R.a (.d d)).length ≤ fn.ntmps) = true)
    (h : ∀ (L : Nat) (T : Array Value) (σ : S) (Inv : Nat → S → Prop) (Done : S → Prop), (∀ i σ, Inv i σ → Inv i σ.ud) → (∀ σ, Done σ → Done σ.ud) → (∀ i x σ, xs[i]? = some x → Inv i σ → YieldOk P gl L T σ x (Inv (i + 1)) Done) → Inv 0 σ.ud →
      awp P gl body (postG T.toList [] fun σ' _ => Inv xs.length σ' ∨ Done σ') (S.enter T.toList (yR L :: caps.map fun d => .a (.d d)) σ)) : IterV P gl f caps xs := by
  refine ⟨⟨fn, hf, by rw [hb]; rfl, hname⟩, fun L T σ Inv Done hI hD hY h0 c β a w vs hP hgl hT hs hv => ?_⟩
  refine (inl_bodyT hm hf hb hr hd (by simpa using hN) (h L T σ Inv Done hI hD hY (hI 0 σ h0)) c β a w vs hP hgl (by rw [hT]) hs hv).mono fun e w' hq => ?_
  obtain ⟨us, rs', σ', β', he, hs', _, hk⟩ := hq
  exact ⟨_, σ', β', he, hs', hk⟩
/-- An iterator's end. -/
theorem iter_end {vs : List Value} {K : S → List R → Prop} {τ : S} {e : Ex} (he : e = .normal ∨ e = .ret) (hf : fvOf (τ.mem 999999) = some vs) (hk : K τ.leave []) : postG vs [] K e τ := by
  rcases he with rfl | rfl <;> exact ⟨τ, Ghost.refl τ, hf, hk⟩
/-! ### Rows that are made -/
theorem sem_make {P : Program} {gl : Nat → Option (List D)} {σ : S} {K : S → Prop} {ty : TypeId} {pos : String} {after : Array Edge} {g : Option (Nat × Bool)} {t e : TypeId} {ti : TI} {z0 : Value} {n : Nat} {x y : Operand} {d : Tmp} (ht : tk P t = .slice e) (hti : tinf P e = some ti) (hsz : ti.sz = 1) (hz : ti.z = [z0]) (hz1 : z0.oneCell' = true)
    (hx : σ.eval gl x = .a (.d (.v (.int .i64 n)))) (hy : σ.eval gl y = .a (.d (.v (.int .i64 n)))) (hn : n ≤ 1000000) (hbs : ti.bs ≤ 100)
    (hk : K ((σ.newOb d (.log e 1 (List.replicate n [.v z0]))).put (some d) (.own d))) : SemOp P gl ⟨some d, .makeSlice t x y, ty, pos, after, g⟩ σ K := by
  intro c β a w hP hgl hs hd
  subst hP; subst hgl
  have hvx : a.eval x = .int .i64 n := (hx ▸ hs.eval x).inv_v
  have hvy : a.eval y = .int .i64 n := (hy ▸ hs.eval y).inv_v
  obtain ⟨i, u, z, hi, _, hiz, hte⟩ := tinf_info hti
  have hzc : z.cells = #[z0] := by rw [hte] at hz; exact Array.toList_inj.1 (by simpa using hz)
  have hisz : i.size = 1 := by rw [hte] at hsz; exact hsz
  have hibs : i.bytes ≤ 100 := by rw [hte] at hbs; exact hbs
  have hrun := run_make (P := c.P) w t e i z (tk_slice ht) hi hiz .i64 .i64 n n (by omega) (Int.le_refl _) (by
    have : (i.bytes : Int) * (n : Int) ≤ 100 * 1000000 := Int.mul_le_mul (by omega) (by omega) (by omega) (by omega)
    omega) (by omega)
  simp only [Int.toNat_natCast, hzc, hisz, Nat.mul_one] at hrun
  have hmc : (madeCells #[z0] n).toList = List.replicate n z0 := by
    refine List.ext_getElem? fun j => ?_
    simp only [madeCells, Array.toList_map, List.getElem?_map, Array.toList_range, List.getElem?_replicate]
    by_cases hj : j < n
    · rw [List.getElem?_range hj, if_pos hj]
      simp [Nat.mod_one]
    · rw [List.getElem?_eq_none (by simpa using hj), if_neg hj]; rfl
  have hs2 := hs.new (o := d) (x := .log e 1 (List.replicate n [.v z0])) (bv := .slice (some ⟨w.heap.size, 0, none⟩) n n) (w' := w.alloc (.cells (madeCells #[z0] n) e)) (Keep.alloc _ _ _) (fun b hb => by
      cases n with
      | zero => cases hb
      | succ m => cases hb; exact .inl (Nat.le_refl _))
    ⟨List.replicate n z0, .inl ⟨by simp, .inr ⟨w.heap.size, n, madeCells #[z0] n, by rw [List.length_replicate], Nat.zero_le _, by first | exact heap_alloc_new _ _ | exact World.alloc_heap_new _ _, by simp, by simp only [maxLen]; omega, by simp [size_madeCells], by rw [hmc]; simp⟩⟩, by
      refine ⟨?_, fun c hc => by rw [List.mem_replicate] at hc; rw [hc.2]; rfl⟩
      have h1 : (List.replicate n [D.v z0]).flatten = List.replicate n (D.v z0) := by simp [List.flatten_replicate_singleton]
      rw [h1]
      refine ⟨by simp, fun j u dd hu hd' => ?_⟩
      rw [List.getElem?_replicate] at hu hd'
      split at hu
      · rw [if_pos ‹_›] at hd'; cases hu; cases hd'; exact .v hz1
      · cases hu⟩
  refine Run.val (v := .slice (some ⟨w.heap.size, 0, none⟩) n n) (w' := w.alloc (.cells (madeCells #[z0] n) e)) (fun _ e => by cases e) ?_ ⟨_, _, hk, hs2.put hd (.own (by simp [upd]) rfl)⟩
  simp [execOp, hvx, hvy, hrun]
/-! ### Rules for loops over functions -/
section
variable {σ : S} {o t : Nat} {vs : List Value} {rs : Nat → R} {reg : Nat → R} {L : Nat} {r : Loop}
theorem rn_r {ps : List Tmp} {xs : List A} : (σ.rnd vs ps xs).regs t = updL (killR 999996 σ.regs) ps xs t := rfl
theorem rn_m {ps : List Tmp} {xs : List A} : (σ.rnd vs ps xs).mem o = (σ.newOb 999996 (.frame vs (killR 999996 σ.regs))).mem o := rfl
theorem ul_n {xs : List A} : updL reg [] xs t = reg t := by cases xs <;> rfl
theorem ul_c {p : Tmp} {ps : List Tmp} {x : A} {xs : List A} : updL reg (p :: ps) (x :: xs) t = updL (upd reg p (.a x)) ps xs t := rfl
theorem up_e {x : R} : upd reg t x t = x := by simp [upd]
theorem up_n {x : R} {d : Nat} (h : (d == t) = false) : upd reg d x t = reg t := by
  have : t ≠ d := fun e => by simp [e] at h
  simp [upd, this]
theorem kf_f : Ob.kill o (.frame vs rs) = .frame vs (killR o rs) := rfl
theorem ff_f {f : Nat → D} : Ob.frz o f (.frame vs rs) = .frame vs (frzR o f rs) := rfl
theorem frb_go : frB (some (.frame vs rs)) t = rs t := rfl
theorem k_rec : Ob.kill o (.sem (recOb L r)) = .sem (recOb L r) := rfl
theorem f_rec {f : Nat → D} : Ob.frz o f (.sem (recOb L r)) = .sem (recOb L r) := rfl
theorem bk_r : σ.back.regs t = frB (σ.mem 999996) t := rfl
theorem bk_m (h : (o == 999996) = false) : σ.back.mem o = σ.mem o := by
  have : ¬ o = 999996 := by simpa using h
  simp [S.back, this]
theorem dl_r : (σ.del o).regs t = σ.regs t := rfl
theorem dl_m {o' : Nat} (h : (o' == o) = false) : (σ.del o).mem o' = σ.mem o' := by
  have : ¬ o' = o := by simpa using h
  simp [S.del, this]
theorem rb_n {P : Program} {gl : Nat → Option (List D)} {T : List Value} {body : Code} {A' : S → Prop} {B' : Ex → S → Prop} : rndB P gl L T r body A' B' .normal σ = (σ.mem 999997 = some (.sem (recOb L r)) ∧ awp P gl body (rndQ L T r A' B') (σ.setOb 999997 (.sem (recOb L { r with state := .busy })))) := rfl
theorem rq_n {T : List Value} {A' : S → Prop} {B' : Ex → S → Prop} : rndQ L T r A' B' .normal σ = (fvOf (σ.mem 999996) = some T ∧ σ.mem 999997 = some (.sem (recOb L { r with state := .busy })) ∧ A' (σ.setOb 999997 (.sem (recOb L { r with state := .ready, pending := none }))).back) := rfl
theorem rq_r {T : List Value} {A' : S → Prop} {B' : Ex → S → Prop} : rndQ L T r A' B' .ret σ = (fvOf (σ.mem 999996) = some T ∧ σ.mem 999997 = some (.sem (recOb L { r with state := .busy })) ∧ B' .ret (σ.setOb 999997 (.sem (recOb L { r with state := .done, pending := some .ret }))).back) := rfl
theorem rq_e {T : List Value} {A' : S → Prop} {B' : Ex → S → Prop} {id : Nat} : rndQ L T r A' B' (.exit id) σ = (fvOf (σ.mem 999996) = some T ∧ σ.mem 999997 = some (.sem (recOb L { r with state := .busy })) ∧ B' (.exit id) (σ.setOb 999997 (.sem (recOb L { r with state := .done, pending := some (.exit id) }))).back) := rfl
end
def PF :=
  And.intro @rn_r <| And.intro @rn_m <| And.intro @ul_n <| And.intro @ul_c <| And.intro @up_e <| And.intro @up_n <| And.intro @kf_f <| And.intro @ff_f <| And.intro @frb_go <| And.intro @k_rec <| And.intro @f_rec <| And.intro @bk_r <| And.intro @bk_m <| And.intro @dl_r <| And.intro @dl_m <| And.intro @rb_n <| And.intro @rq_n <| And.intro @rq_r <| And.intro @rq_e <| And.intro @fv_go <| And.intro @kr_go <| @fz_go
end Go.VC
