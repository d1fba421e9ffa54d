/- Part 5 of the texts that stand behind the row: what the statement's functions do, and plain laws. -/
import Derived.RecoverIn
import Derived.Test.YtapjdpmbgmjjeaaDoorP4
set_option maxRecDepth 100000
set_option linter.unusedSimpArgs false
set_option linter.unusedVariables false
set_option linter.unnecessarySimpa false
set_option linter.defProp false
section
set_option maxRecDepth 100000
set_option linter.unusedSimpArgs false
set_option linter.unusedVariables false
set_option linter.defProp false
namespace Go.VC
open Go.RowKit Go.Proofs
/-- What is left of a caller's state by one that may hand it a row (named 999995). -/
structure LeftF (B : Nat) (σ σ' : S) : Prop where
  r : ∀ {t : Nat} {r : R}, σ.regs t = r → FineR 999995 r → σ'.regs t = r
  m : ∀ {o : Nat} {x : Ob}, (o == 999995) = false → decide (o < B) = true → σ.mem o = some x → FineO 999995 x → σ'.mem o = some x
/-- What an iterator keeps of its caller's state, below B. -/
structure KeepsF (B : Nat) (vs : List Value) (σ0 τ : S) : Prop where
  fr : τ.mem 999999 = some (.frame vs (upF σ0.regs))
  ob : ∀ o x, (o == 999995) = false → decide (o < B) = true → σ0.mem o = some x → τ.mem (upId o) = some x.up
section
variable {B : Nat} {vs : List Value} {σ0 τ : S}
theorem KeepsF.enter {rs : List R} {σ : S} (hB : B ≤ 999000000) : KeepsF B vs σ (S.enter vs rs σ) := ⟨me_f, fun o x _ ho hx => by rw [me_hi (decide_eq_true (by have := of_decide_eq_true ho; omega)), hx]; rfl⟩
theorem KeepsF.leave (hB : B ≤ 999000000) (h : KeepsF B vs σ0 τ) : LeftF B σ0 τ.leave :=
  ⟨fun {t r} ht hr => by rw [lv_r, h.fr, lv_f, ht]; exact hr.1, fun {o x} h1 h2 h3 h4 => by rw [lv_m (decide_eq_true (by have := of_decide_eq_true h2; omega)), h.ob o x h1 h2 h3]; exact congrArg some h4.1⟩
theorem KeepsF.leave_mv {q : Nat} (hB : B ≤ 999000000) (hq : decide (q < 999999) = true) (h : KeepsF B vs σ0 τ) : LeftF B σ0 (τ.mv q (upId 999995)).leave := by
  have hq0 := of_decide_eq_true hq
  have hq1 : decide (q < 1000000) = true := decide_eq_true (by omega)
  refine ⟨fun {t r} ht hr => ?_, fun {o x} h1 h2 h3 h4 => ?_⟩
  · rw [lv_r, mv_mo (beq_up rfl) (by simp; omega), h.fr, Option.map_some, mo_frame hq1, lv_f]
    show (((σ0.regs t).kill 999995).up).down = r
    rw [ht]; exact hr.2
  · rw [lv_m (decide_eq_true (by have := of_decide_eq_true h2; omega)), mv_mo (by rw [up_up]; exact h1) (up_beq hq1), h.ob o x h1 h2 h3]
    exact congrArg some (h4.2.2 q (by omega))
theorem KeepsF.left {B' : Nat} {τ' : S} (hB : B + 1000000 ≤ B') (h : KeepsF B vs σ0 τ) (hu : LeftF B' τ τ') : KeepsF B vs σ0 τ' :=
  ⟨hu.m rfl (decide_eq_true (by omega)) h.fr (fineO_fr (by omega) _ _), fun o x h1 h2 hx => hu.m (up_beq rfl) (decide_eq_true (by have := of_decide_eq_true h2; rw [upId_eq]; omega)) (h.ob o x h1 h2 hx) (fineO_up (by omega) x)⟩
theorem KeepsF.mem {τ' : S} (h : KeepsF B vs σ0 τ) (e : ∀ o, 999999 ≤ o → τ'.mem o = τ.mem o) : KeepsF B vs σ0 τ' := ⟨(e _ (Nat.le_refl _)).trans h.fr, fun o x h1 h2 hx => (e _ (by have := upId_le o; omega)).trans (h.ob o x h1 h2 hx)⟩
theorem KeepsF.put {d : Option Nat} {r : R} (h : KeepsF B vs σ0 τ) : KeepsF B vs σ0 (τ.put d r) := h.mem fun o _ => by cases d <;> rfl
theorem okill_ups {x : Ob} {d : Nat} (h : d < 1000000) : x.up.kill d = x.up := by
  cases x with
  | box cs =>
    simp only [Ob.up, Ob.kill, List.map_map]
    congr 1
    exact List.map_congr_left fun r _ => kill_up_lo h
  | log e z xs => rfl
  | mpo kv => rfl
  | iter kv seen => rfl
  | frame vs rs => simp only [Ob.up, Ob.kill]; congr 1; funext t; exact kill_up_lo h
  | sem x =>
    simp only [Ob.up, Ob.kill, SemOb.up]
    rw [any_up1 h]; rfl
  | lost => rfl
theorem KeepsF.new {d : Nat} {x : Ob} (hd : decide (d < 999999) = true) (h : KeepsF B vs σ0 τ) : KeepsF B vs σ0 (τ.newOb d x) := by
  have h0 := of_decide_eq_true hd
  refine ⟨?_, fun o x h1 h2 hx => ?_⟩
  · simp only [S.newOb, upd]; rw [if_neg (by omega), h.fr, Option.map_some, kf_lo (decide_eq_true (by omega))]
  · simp only [S.newOb, upd]; rw [if_neg (by have := upId_le o; omega), h.ob o x h1 h2 hx, Option.map_some, okill_ups (by omega)]
theorem KeepsF.set {d : Nat} {x : Ob} (hd : decide (d < 999999) = true) (h : KeepsF B vs σ0 τ) : KeepsF B vs σ0 (τ.setOb d x) := h.mem fun o ho => by
  have := of_decide_eq_true hd
  simp only [S.setOb, upd]; rw [if_neg (by omega)]
theorem KeepsF.frz {d : Nat} {f : Nat → D} (hd : decide (d < 999999) = true) (h : KeepsF B vs σ0 τ) : KeepsF B vs σ0 (τ.frz d f) := by
  have h0 := of_decide_eq_true hd
  refine ⟨?_, fun o x h1 h2 hx => ?_⟩
  · simp only [S.frz]; rw [if_neg (by omega), h.fr, Option.map_some, ff_lo (decide_eq_true (by omega))]
  · simp only [S.frz]; rw [if_neg (by have := upId_le o; omega), h.ob o x h1 h2 hx, Option.map_some, ofrz_lo (by omega)]
theorem KeepsF.del {d : Nat} (hd : decide (d < 999999) = true) (h : KeepsF B vs σ0 τ) : KeepsF B vs σ0 (τ.del d) := h.mem fun o ho => by
  have := of_decide_eq_true hd
  simp only [S.del]; rw [if_neg (by omega)]
theorem KeepsF.back (h : KeepsF B vs σ0 τ) : KeepsF B vs σ0 τ.back := h.mem fun o ho => by simp only [S.back]; rw [if_neg (by omega)]
theorem KeepsF.again {T : List Value} {τ σ : S} (hB : B ≤ 999000000) : KeepsF B T σ (S.again T τ σ) := (KeepsF.enter (rs := []) hB).mem fun o _ => rfl
end
/-- One round that is handed a row of its own: the loop's own state goes on; A: yield tells true; B: it tells false. -/
def YieldF (P : Program) (gl : Nat → Option (List D)) (L : Nat) (T : Array Value) (σ : S) (A' B' : S → Prop) : Prop :=
  ∀ (c : Cx) (β : Nat → Value) (a : Act) (w : World) (n : Nat), c.P = P → c.gl = gl → a.tmps = T → Sim c σ β a w →
    YieldAt Fence.wide n P L #[β 999995] w fun e w' => ∃ σ' β', Sim c σ' β' a w' ∧ ((e = .returned (.bool true) ∧ A' σ') ∨ (e = .returned (.bool false) ∧ B' σ'))
theorem YieldF.mono {P : Program} {gl : Nat → Option (List D)} {L : Nat} {T : Array Value} {σ : S} {A' A'' B' : S → Prop} (h : YieldF P gl L T σ A' B') (hA : ∀ τ, A' τ → ∃ τ', Ghost τ τ' ∧ A'' τ') : YieldF P gl L T σ A'' B' := by
  intro c β a w n h1 h2 h3 hs
  obtain ⟨fn, tmps, assign, body, hy, hR⟩ := h c β a w n h1 h2 h3 hs
  refine ⟨fn, tmps, assign, body, hy, hR.mono fun e w' he => ?_⟩
  obtain ⟨σ', β', hs', hk⟩ := he
  rcases hk with ⟨he, hk⟩ | hk
  · obtain ⟨τ', hg, hk'⟩ := hA _ hk
    obtain ⟨β2, hs2⟩ := hg _ _ _ _ hs'
    exact ⟨τ', β2, hs2, .inl ⟨he, hk'⟩⟩
  · exact ⟨σ', β', hs', .inr hk⟩
/-- An iterator's contract: it calls yield with rows of its own that hold xs, until a round tells false. -/
def IterF (B : Nat) (P : Program) (gl : Nat → Option (List D)) (g : FuncId) (caps : List D) (e : TypeId) (sz : Nat) (xs : List (List (List D))) : Prop :=
  FnOk P g ∧ ∀ (L : Nat) (T : Array Value) (σ : S) (Inv : Nat → S → Prop) (Done : S → Prop), (∀ i σ σ', LeftF B σ σ' → Inv i σ → Inv i σ') → (∀ σ σ', LeftF B σ σ' → Done σ → Done σ') →
    (∀ i x σ, xs[i]? = some x → Inv i σ → σ.mem 999995 = some (.log e sz x) → YieldF P gl L T σ (Inv (i + 1)) Done) → Inv 0 σ →
    ∀ (c : Cx) (β : Nat → Value) (a : Act) (w : World) (vs : List Value), c.P = P → c.gl = gl → a.tmps = T → Sim c σ β a w → F2 (RelR β (stF c σ β w) w) vs (yR L :: caps.map fun d => .a (.d d)) →
      Calls P g vs.toArray w fun e w' => ∃ (v : Value) (σ' : S) (β' : Nat → Value), e = .returned v ∧ Sim c σ' β' a w' ∧ (Inv xs.length σ' ∨ Done σ')
/-- Code behind a step that may hang on where objects lie. -/
def AwpE (P : Program) (gl : Nat → Option (List D)) (code : Code) (Q : Ex → S → Prop) (σ : S) : Prop := ∀ (c : Cx) (β : Nat → Value) (a : Act) (w : World), Sim c σ β a w → ∃ σ' β', Sim c σ' β' a w ∧ awp P gl code Q σ'
theorem AwpE.of {P : Program} {gl : Nat → Option (List D)} {code : Code} {Q : Ex → S → Prop} {σ : S} (h : awp P gl code Q σ) : AwpE P gl code Q σ := fun _ β _ _ hs => ⟨σ, β, hs, h⟩
/-- A round's state at its start: the row is the object 999995. -/
def S.rndF (σ : S) (vs : List Value) (p : Tmp) : S := { regs := upd (killR 999996 σ.regs) p (.own 999995), mem := (σ.newOb 999996 (.frame vs (killR 999996 σ.regs))).mem }
theorem KeepsF.rnd {B : Nat} {vs : List Value} {σ0 τ : S} {us : List Value} {p : Tmp} (h : KeepsF B vs σ0 τ) : KeepsF B vs σ0 (τ.rndF us p) := (h.new (d := 999996) (x := .frame us (killR 999996 τ.regs)) rfl).mem fun o _ => rfl
section
variable {c : Cx} {σ : S} {β : Nat → Value} {a : Act} {w : World}
theorem log_one {e : TypeId} {sz : Nat} {x : List (List D)} {st : Nat → Prop} {v : Value} (h : ObRel β st w v (.log e sz x)) : v.oneCell' = true := by
  obtain ⟨cells, hr, _⟩ := h
  rcases hr with hr | ⟨_, _, p, rfl⟩
  · rcases hr.2 with ⟨rfl, _⟩ | ⟨g, cap, cur, rfl, _⟩ <;> rfl
  · rfl
theorem rnd_simF {p : Tmp} {Ds : List Nat} {e : TypeId} {sz : Nat} {x : List (List D)} (h : Sim c σ β a w) (hM : MarksOk c σ β w (Ds ++ c.M)) (hlog : σ.mem 999995 = some (.log e sz x)) (hp : p < a.tmps.size) :
    Sim (reC c a.tmps.size [] (Ds ++ c.M) c.E c.hE) (σ.rndF a.tmps.toList p) (upd β 999996 undef) { tmps := a.tmps.setIfInBounds p (β 999995), defers := [] } w := by
  have hgd : ∀ t, a.tmps.toList.getD t undef = a.tmps.getD t undef := fun t => by rw [List.getD_eq_getElem?_getD, Array.getD_eq_getD_getElem?, Array.getElem?_toList]
  have T : ∀ o', o' ≠ 999996 → upd β 999996 undef o' = β o' := fun o' e => by simp [upd, e]
  have H : ∀ b, stF c σ β w b → stF c (σ.newOb 999996 (.frame a.tmps.toList (killR 999996 σ.regs))) (upd β 999996 undef) w b ∧ w.heap[b]? = w.heap[b]? := fun b hb => ⟨st_new (Nat.le_refl _) (fun _ _ => rfl) (fun b hb => by cases hb) hb, rfl⟩
  have h1 := h.new (o := 999996) (x := .frame a.tmps.toList (killR 999996 σ.regs)) (bv := undef) (w' := w) (Keep.refl _ _) (fun b hb => by cases hb) ⟨rfl, fun t => by rw [hgd]; exact ((h.reg t).mono H).turn T⟩
  have hM1 : MarksOk c (σ.newOb 999996 (.frame a.tmps.toList (killR 999996 σ.regs))) (upd β 999996 undef) w ([] ++ (Ds ++ c.M)) := hM.keep (fun _ _ _ => rfl) fun o x hx => by
    by_cases e : o = 999996
    · subst e; exact .inr fun b hb => by simp [upd, undef_own] at hb
    · simp only [S.newOb, upd, if_neg e] at hx
      obtain ⟨y, hy, _⟩ := Option.map_eq_some_iff.1 hx
      exact .inl ⟨o, y, hy, T o e⟩
  refine (h1.move (a' := { tmps := a.tmps.setIfInBounds p (β 999995), defers := [] }) (σ' := σ.rndF a.tmps.toList p) (fun o x hx => hx) (by simp) [] rfl hM1 h1.ext fun t => ?_).1
  simp only [S.rndF, upd]
  rw [Array.getD_eq_getD_getElem?, Array.getElem?_setIfInBounds]
  by_cases e : p = t
  · subst e; rw [if_pos rfl, if_pos rfl, if_pos hp]
    exact .own (by simp [upd]) (log_one (h.obj _ _ hlog))
  · rw [if_neg e, if_neg fun e' => e e'.symm, ← Array.getD_eq_getD_getElem?]; exact h1.reg t
end
theorem yield_okF {P : Program} {gl : Nat → Option (List D)} {L : Nat} {T : Array Value} {σ : S} {A' : S → Prop} {B' : Ex → S → Prop} {r : Loop} {p : Tmp} {e : TypeId} {sz : Nat} {x : List (List D)} (hmx : P.follows .mixedOrders = true) (hr : σ.mem 999997 = some (.sem (recOb L r))) (hst : r.state = .ready) (hT : r.tmps = T) (hps : r.params = #[p])
    (hp : p < T.size) (hda : dstOK T.size r.assign = true) (hna : noRng r.assign = true) (hdb : dstOK T.size r.body = true) (hnb : noRng r.body = true) (hlog : σ.mem 999995 = some (.log e sz x))
    (h : AwpE P gl r.assign (rndB P gl L T.toList r r.body A' B') (σ.rndF T.toList p)) : YieldF P gl L T σ A' (fun σ => ∃ e, e.calm = true ∧ B' e σ) := by
  intro c β a w n hP hgl hTa hs
  subst hP; subst hgl; subst hTa
  obtain ⟨hb, hh⟩ := hs.obj _ _ hr
  obtain ⟨Ds, hds, hM⟩ := hs.df
  refine ⟨r.fn, _, r.assign, r.body, run_yield hh (by simp [hps]), roundIn_of_wpIn trivial ?_⟩
  have e1 : (r.params.zip #[β 999995]).foldl (fun tmps (x : Tmp × Value) => tmps.setIfInBounds x.1 x.2) r.tmps = a.tmps.setIfInBounds p (β 999995) := by
    rw [hT, hps, ← Array.foldl_toList, Array.toList_zip]; rfl
  rw [show (r.params.zip #[β 999995]).foldl (fun tmps (t, a) => tmps.setIfInBounds t a) r.tmps = a.tmps.setIfInBounds p (β 999995) from e1]
  obtain ⟨σ0, β0, hs0, hawp⟩ := h _ _ _ _ (rnd_simF (p := p) hs hM hlog hp)
  have hwf : Fence.wide.inRound L = WF (some L) := rfl
  rw [hwf]
  refine wpIn_mono (awp_sound (c := reC c a.tmps.size [] (Ds ++ c.M) c.E c.hE) (ρ := some L) hmx r.assign hda (.inr hna) hawp hs0) fun e a1 w1 hq => ?_
  cases e with
  | normal =>
    obtain ⟨σ1, β1, hs1, hr1, hb1⟩ := hq
    obtain ⟨hh1, hs1'⟩ := rec_set { r with state := .busy } hs1 hr1
    refine ⟨_, run_beginRound hh1 hst, ?_⟩
    refine wpIn_mono (awp_sound (c := reC c a.tmps.size [] (Ds ++ c.M) c.E c.hE) (ρ := some L) hmx r.body hdb (.inr hnb) hb1 hs1') fun e a2 w2 hq2 => ?_
    cases e with
    | normal =>
      obtain ⟨σ2, β2, hs2, hf2, hr2, hA⟩ := hq2
      obtain ⟨hh2, hs3⟩ := rec_set { r with state := .ready, pending := none } hs2 hr2
      exact ⟨_, _, run_endRound none hh2, _, β2, back_sim hs3 (by rw [show (σ2.setOb 999997 _).mem 999996 = σ2.mem 999996 from rfl]; exact hf2) hs.size hds, .inl ⟨rfl, hA⟩⟩
    | ret =>
      obtain ⟨σ2, β2, hs2, hf2, hr2, hA⟩ := hq2
      obtain ⟨hh2, hs3⟩ := rec_set { r with state := .done, pending := some .ret } hs2 hr2
      exact ⟨_, _, run_endRound (some .ret) hh2, _, β2, back_sim hs3 (by rw [show (σ2.setOb 999997 _).mem 999996 = σ2.mem 999996 from rfl]; exact hf2) hs.size hds, .inr ⟨rfl, _, rfl, hA⟩⟩
    | exit id =>
      obtain ⟨σ2, β2, hs2, hf2, hr2, hA⟩ := hq2
      obtain ⟨hh2, hs3⟩ := rec_set { r with state := .done, pending := some (.exit id) } hs2 hr2
      exact ⟨_, _, run_endRound (some (.exit id)) hh2, _, β2, back_sim hs3 (by rw [show (σ2.setOb 999997 _).mem 999996 = σ2.mem 999996 from rfl]; exact hf2) hs.size hds, .inr ⟨rfl, _, rfl, hA⟩⟩
    | goto l => exact hq2.elim
    | panic ch => obtain ⟨_, _, _, _, _, _, _, _, _, _, hk⟩ := hq2; exact hk.elim
    | outgrown => exact hq2.elim
  | exit id => obtain ⟨_, _, _, hk⟩ := hq; exact hk.elim
  | ret => obtain ⟨_, _, _, hk⟩ := hq; exact hk.elim
  | goto l => exact hq.elim
  | panic ch => obtain ⟨_, _, _, _, _, _, _, _, hk⟩ := hq; exact hk.elim
  | outgrown => exact hq.elim
theorem range_semF {P : Program} {gl : Nat → Option (List D)} {f : Operand} {p : Tmp} {B sz : Nat} {e0 : TypeId} {assign body : Code} {Q : Ex → S → Prop} {σ : S} {gf : FuncId} {caps : List D} {xs : List (List (List D))} (Inv : Nat → S → Prop) (Done : Ex → S → Prop)
    (hf : σ.eval gl f = .a (.d (.fn gf caps))) (hit : IterF B P gl gf caps e0 sz xs) (hB : decide (1000000 ≤ B) = true) (hna : noRng assign = true) (hnb : noRng body = true)
    (hudI : ∀ i σ σ', LeftF B σ σ' → Inv i σ → Inv i σ') (hudD : ∀ e σ σ', LeftF B σ σ' → Done e σ → Done e σ')
    (h0 : ∀ L r, Inv 0 (σ.newOb 999997 (.sem (recOb L r))))
    (hR : ∀ L T r i x σ, r.state = .ready → xs[i]? = some x → Inv i σ → σ.mem 999997 = some (.sem (recOb L r)) → σ.mem 999995 = some (.log e0 sz x) →
      AwpE P gl assign (rndB P gl L T r body (fun τ => ∃ τ', Ghost τ τ' ∧ τ'.mem 999997 = some (.sem (recOb L { r with state := .ready, pending := none })) ∧ Inv (i + 1) τ')
        (fun e τ => τ.mem 999997 = some (.sem (recOb L { r with state := .done, pending := exC e })) ∧ Done e τ)) (σ.rndF T p))
    (hN : ∀ σ, Inv xs.length σ → Q .normal (σ.del 999997)) (hD : ∀ e σ, Done e σ → Q e (σ.del 999997)) : SemCode P gl (.rangeFunc f #[p] assign body) Q σ := by
  intro c β a w ρ n hP hgl hmx hd hp hs
  subst hP; subst hgl
  obtain rfl : ρ = none := hp.resolve_right (by simp [noRng])
  simp only [dstOK, Bool.and_eq_true] at hd
  obtain ⟨⟨hdp, hda⟩, hdb⟩ := hd
  obtain ⟨cvs, hcv, hcl, hcd⟩ : ∃ cvs : List Value, a.eval f = .func (.func gf) #[] cvs.toArray ∧ cvs.length = caps.length ∧ ∀ (j : Nat) (d : D) (v : Value), caps[j]? = some d → cvs[j]? = some v → Rd (stF c σ β w) w v d := by
    have hfv := (hf ▸ hs.eval f).inv_d
    generalize a.eval f = fv at hfv
    cases hfv with
    | fn hl hd => exact ⟨_, rfl, hl, hd⟩
  refine wpIn_rangeFunc fun fn _ => ?_
  have hro : (WF none).round = none := rfl
  obtain ⟨Ds, hds, hM⟩ := hs.df
  let r0 : Loop := { state := .ready, pending := none, fn := fn, tmps := a.tmps, params := #[p], assign := assign, body := body, defers := w.heap.size }
  let w1 := w.alloc (.deferred (some []))
  let W1 := w1.alloc (.loop r0)
  have hsz1 : w1.heap.size = w.heap.size + 1 := World.size_alloc _ _
  have hL : W1.heap[w.heap.size + 1]? = some (.loop r0) := by
    have := World.alloc_heap_new w1 (.loop r0); rwa [hsz1] at this
  have hold : ∀ k, k < w.heap.size → W1.heap[k]? = w.heap[k]? := fun k hk => (Below.heap_alloc w1 _ k (by omega)).trans (Below.heap_alloc w _ k hk)
  have hDd : W1.heap[w.heap.size]? = some (.deferred (some [])) := (Below.heap_alloc w1 _ _ (by omega)).trans (World.alloc_heap_new w _)
  have hg := (hs.grow (Keep.alloc (fun _ => False) w (.deferred (some [])))).1
  have hn := hg.new (o := 999997) (x := .sem (recOb (w.heap.size + 1) r0)) (bv := .pointer (some ⟨w.heap.size + 1, 0, none⟩)) (w' := W1) (Keep.alloc _ _ _) (fun b hb => by cases hb; exact .inl (by rw [World.size_alloc]; exact Nat.le_refl _)) ⟨rfl, hL⟩
  have hM1 : MarksOk c (σ.newOb 999997 (.sem (recOb (w.heap.size + 1) r0))) (upd β 999997 (.pointer (some ⟨w.heap.size + 1, 0, none⟩))) W1 ((w.heap.size :: Ds) ++ c.M) := by
    have hk := hM.keep (w' := W1) (σ' := σ.newOb 999997 (.sem (recOb (w.heap.size + 1) r0))) (β' := upd β 999997 (.pointer (some ⟨w.heap.size + 1, 0, none⟩))) (fun D hD _ => hold D hD) fun o x hx => by
      by_cases e : o = 999997
      · subst e; exact .inr fun b hb => by simp only [upd, if_pos rfl] at hb; cases hb; exact .inl (Nat.le_succ _)
      · simp only [S.newOb, upd, if_neg e] at hx
        obtain ⟨y, hy, _⟩ := Option.map_eq_some_iff.1 hx
        exact .inl ⟨o, y, hy, by simp [upd, e]⟩
    refine ⟨?_, fun D hD => ?_, hk.lp⟩
    · simp only [List.cons_append, List.nodup_cons]
      refine ⟨fun hin => ?_, hM.nd⟩
      have := lt_of_some (hM.ok _ hin).2.1
      omega
    · simp only [List.cons_append, List.mem_cons] at hD
      rcases hD with rfl | hD
      · refine ⟨hs.keep.size, hDd, fun o x hx e => ?_⟩
        by_cases eo : o = 999997
        · subst eo; simp only [upd, if_pos rfl] at e; have h9 : w.heap.size + 1 = w.heap.size := Option.some.inj e; omega
        · simp only [S.newOb, upd, if_neg eo] at hx e
          obtain ⟨y, hy, _⟩ := Option.map_eq_some_iff.1 hx
          have := (hs.obj o y hy).lt e
          omega
      · exact hk.ok D hD
  have hs1 : Sim c (σ.newOb 999997 (.sem (recOb (w.heap.size + 1) r0))) (upd β 999997 (.pointer (some ⟨w.heap.size + 1, 0, none⟩))) { a with defers := markD w.heap.size :: a.defers } W1 :=
    (hn.move (N := c.N) (df := c.df) (M := c.M) (E := c.E) (hE := c.hE) (a' := { a with defers := markD w.heap.size :: a.defers }) (fun o x h => h) hs.size (w.heap.size :: Ds) (by simp [hds]) hM1 hn.ext fun t => hn.reg t).1
  have hst1 : ∀ b, stF c σ β w b → stF c (σ.newOb 999997 (.sem (recOb (w.heap.size + 1) r0))) (upd β 999997 (.pointer (some ⟨w.heap.size + 1, 0, none⟩))) W1 b ∧ W1.heap[b]? = w.heap[b]? := fun b hb =>
    ⟨st_new (by rw [World.size_alloc, World.size_alloc]; omega) (fun b hb => hold b hb.1) (fun b hb => by cases hb; exact .inl (Nat.le_succ _)) hb, hold b hb.1⟩
  have hargs : F2 (RelR (upd β 999997 (.pointer (some ⟨w.heap.size + 1, 0, none⟩))) (stF c (σ.newOb 999997 (.sem (recOb (w.heap.size + 1) r0))) (upd β 999997 (.pointer (some ⟨w.heap.size + 1, 0, none⟩))) W1) W1) (yieldV (w.heap.size + 1) :: cvs) (yR (w.heap.size + 1) :: caps.map fun d => .a (.d d)) := by
    refine F2.cons yR_rel ⟨by simp [hcl], fun i u r hu hr => ?_⟩
    simp only [List.getElem?_map, Option.map_eq_some_iff] at hr
    obtain ⟨d, hd, rfl⟩ := hr
    exact .a (x := .d d) ((hcd i d u hd hu).mono hst1)
  have hcall := hit.2 (w.heap.size + 1) a.tmps (σ.newOb 999997 (.sem (recOb (w.heap.size + 1) r0))) (fun i τ => τ.mem 999997 = some (.sem (recOb (w.heap.size + 1) r0)) ∧ Inv i τ)
    (fun τ => ∃ e : Ex, Ex.calm e = true ∧ τ.mem 999997 = some (.sem (recOb (w.heap.size + 1) { r0 with state := .done, pending := exC e })) ∧ Done e τ)
    (fun i τ τ' hr h => ⟨hr.m rfl (decide_eq_true (by have := of_decide_eq_true hB; omega)) h.1 (fineO_sem (by simp [recOb])), hudI i τ τ' hr h.2⟩)
    (fun τ τ' hr ⟨e, hc, h⟩ => ⟨e, hc, hr.m rfl (decide_eq_true (by have := of_decide_eq_true hB; omega)) h.1 (fineO_sem (by simp [recOb])), hudD e τ τ' hr h.2⟩)
    (fun i x τ hx h hl => (yield_okF hmx h.1 rfl rfl rfl (by rw [hs.size]; simpa using hdp) (by rw [hs.size]; exact hda) hna (by rw [hs.size]; exact hdb) hnb hl (hR _ _ _ i x τ rfl hx h.2 h.1 hl)).mono fun τ h => h)
    ⟨by simp [S.newOb, upd], h0 _ _⟩ c _ { a with defers := markD w.heap.size :: a.defers } W1 _ rfl rfl rfl hs1 hargs
  refine ⟨w.heap.size + 1, [markD w.heap.size], W1, { target := .fn (.func gf) cvs.toArray, args := #[yieldV (w.heap.size + 1)] }, W1, gf, (yieldV (w.heap.size + 1) :: cvs).toArray, W1, run_enterLoop_outer _ _ _ _ _, ?_, fun _ _ => trivial, ?_, fun h => by simp [WF, Fence.wide] at h, ?_⟩
  · simp only [resolve, hcv]
    simp [go_sem, yieldV]
  · have h2 : (#[yieldV (w.heap.size + 1)] ++ cvs.toArray : Array Value) = (yieldV (w.heap.size + 1) :: cvs).toArray := by simp
    simp only [invoke, h2]
    exact funcs_run hit.1
  · refine callsW (ρ := none) (hcall.mono ?_)
    rintro e W2 ⟨v, σ', β', rfl, hs2, hk⟩
    have fin : ∀ (e : Ex) (r : Loop), e.calm = true → σ'.mem 999997 = some (.sem (recOb (w.heap.size + 1) r)) → r.state ≠ .busy → r.pending = exC e → Q e (σ'.del 999997) → rangePost (WF none) n c.P (w.heap.size + 1) (Qh c Q) { a with defers := [markD w.heap.size] ++ a.defers } (.returned v) W2 := fun e r hcalm hr hb hpe hq => by
      obtain ⟨hh, hs3⟩ := rec_set { r with state := .exhausted } hs2 hr
      refine ⟨_, _, run_endLoop hh hb, ?_⟩
      obtain ⟨Ds3, hds3, hM3⟩ := hs3.df
      have hs4 : Sim c (σ'.del 999997) β' { a with defers := [markD w.heap.size] ++ a.defers } (W2.putObj (w.heap.size + 1) (.loop { r with state := .exhausted })) :=
        (hs3.move (N := c.N) (df := c.df) (M := c.M) (E := c.E) (hE := c.hE) (σ' := σ'.del 999997) (fun o x hx => by
          simp only [S.del] at hx
          split at hx
          · cases hx
          · rename_i e; simp only [S.setOb, upd, if_neg e]; exact hx) hs3.size Ds3 hds3 hM3 hs3.ext fun t => hs3.reg t).1
      rw [hpe] at hs4 ⊢
      cases e with
      | normal => exact ⟨_, _, hs4, hq⟩
      | ret => exact wpIn_ret ⟨_, _, hs4, hq⟩
      | exit id => exact wpIn_exit ⟨_, _, hs4, hq⟩
      | panic t r => cases hcalm
    rcases hk with ⟨hr, hi⟩ | ⟨e, hcalm, hr, hd⟩
    · exact fin .normal _ rfl hr (by simp [r0]) rfl (hN _ hi)
    · exact fin e _ hcalm hr (by simp) rfl (hD e _ hd)
theorem iter_bodyF {B sz : Nat} {e0 : TypeId} {P : Program} {gl : Nat → Option (List D)} {f : FuncId} {fn : Func} {body : Code} {caps : List D} {xs : List (List (List D))} (hm : P.follows .mixedOrders = true)
    (hf : P.funcs[f]? = some fn) (hb : fn.body = some body) (hr : resT fn.results.toList = some []) (hname : (fn.name == "runtime.NumGoroutine") = false) (hd : dstOK fn.ntmps body = true) (hN : decide ((yR 0 :: caps.map fun d => R.a (.d d)).length ≤ fn.ntmps) = true)
    (h : ∀ (L : Nat) (T : Array Value) (σ : S) (Inv : Nat → S → Prop) (Done : S → Prop), (∀ i σ σ', LeftF B σ σ' → Inv i σ → Inv i σ') → (∀ σ σ', LeftF B σ σ' → Done σ → Done σ') → (∀ i x σ, xs[i]? = some x → Inv i σ → σ.mem 999995 = some (.log e0 sz x) → YieldF P gl L T σ (Inv (i + 1)) Done) → Inv 0 σ →
      awp P gl body (postG T.toList [] fun σ' _ => Inv xs.length σ' ∨ Done σ') (S.enter T.toList (.a (.d (.v (yieldV L))) :: caps.map fun d => .a (.d d)) σ)) : IterF B P gl f caps e0 sz xs := by
  refine ⟨⟨fn, hf, by rw [hb]; rfl, hname⟩, fun L T σ Inv Done hI hD hY h0 c β a w vs hP hgl hT hs hv => ?_⟩
  refine (inl_bodyT hm hf hb hr hd (by simpa using hN) (h L T σ Inv Done hI hD hY h0) c β a w vs hP hgl (by rw [hT]) hs ⟨hv.1, fun i v r h1 h2 => by
    cases i with
    | zero =>
      obtain rfl : R.a (.d (.v (yieldV L))) = r := by simpa using h2
      rw [yR_inv (hv.2 0 v _ h1 rfl)]
      exact .a (x := .d (.v (yieldV L))) (.v rfl)
    | succ i => exact hv.2 (i + 1) v r h1 (by simpa using h2)⟩).mono fun e w' hq => ?_
  obtain ⟨us, rs', σ', β', he, hs', _, hk⟩ := hq
  exact ⟨_, σ', β', he, hs', hk⟩
/-- Contexts in which a loop's record is laid by, that nobody turns. -/
def reL (c : Cx) (x : Nat × Loop) : Cx := { c with LM := x :: c.LM }
section
variable {c : Cx} {σ : S} {β : Nat → Value} {a : Act} {w : World}
theorem Sim.addL {x : Nat × Loop} (h : Sim c σ β a w) (h1 : c.w0.heap.size ≤ x.1) (h2 : w.heap[x.1]? = some (.loop x.2)) (h3 : ∀ o y, σ.mem o = some y → ownB (β o) ≠ some x.1) : Sim (reL c x) σ β a w := by
  obtain ⟨Ds, e, m⟩ := h.df
  exact ⟨h.keep, h.size, ⟨Ds, e, m.nd, m.ok, fun y hy => by
    rcases List.mem_cons.1 hy with rfl | hy
    · exact ⟨h1, h2, h3⟩
    · exact m.lp y hy⟩, h.ext, h.obj, h.blk, h.dis, h.reg, h.env⟩
theorem Sim.dropL {x : Nat × Loop} (h : Sim (reL c x) σ β a w) : Sim c σ β a w ∧ c.w0.heap.size ≤ x.1 ∧ w.heap[x.1]? = some (.loop x.2) ∧ ∀ o y, σ.mem o = some y → ownB (β o) ≠ some x.1 := by
  obtain ⟨Ds, e, m⟩ := h.df
  exact ⟨⟨h.keep, h.size, ⟨Ds, e, m.nd, m.ok, fun y hy => m.lp y (List.mem_cons_of_mem _ hy)⟩, h.ext, h.obj, h.blk, h.dis, h.reg, h.env⟩, m.lp x (List.mem_cons_self ..)⟩
/-- An object whose block was nobody's, and no data. -/
theorem Sim.claim {o L : Nat} {r : Loop} (h : Sim c σ β a w) (ho : o < 1000000000) (h1 : c.w0.heap.size ≤ L) (h2 : w.heap[L]? = some (.loop r)) (h3 : ∀ o' y, σ.mem o' = some y → ownB (β o') ≠ some L) (h4 : ∀ y ∈ c.LM, y.1 ≠ L) :
    Sim c (σ.newOb o (.sem (recOb L r))) (upd β o (.pointer (some ⟨L, 0, none⟩))) a w := by
  have T : ∀ o', o' ≠ o → upd β o (.pointer (some ⟨L, 0, none⟩)) o' = β o' := fun o' e => by simp [upd, e]
  have M : ∀ o' y, o' ≠ o → (σ.newOb o (.sem (recOb L r))).mem o' = some y → ∃ z, σ.mem o' = some z ∧ y = z.kill o := fun o' y e hy => by
    simp only [S.newOb, upd, if_neg e, Option.map_eq_some_iff] at hy
    obtain ⟨z, h1, h2⟩ := hy
    exact ⟨z, h1, h2.symm⟩
  have own : ∀ o' y b, (σ.newOb o (.sem (recOb L r))).mem o' = some y → ownB (upd β o (.pointer (some ⟨L, 0, none⟩)) o') = some b → (o' = o ∧ b = L) ∨ ∃ z, o' ≠ o ∧ σ.mem o' = some z ∧ y = z.kill o ∧ ownB (β o') = some b := fun o' y b hy hb => by
    by_cases e : o' = o
    · subst e
      simp only [upd, if_pos rfl] at hb
      cases hb; exact .inl ⟨rfl, rfl⟩
    · obtain ⟨z, hz, hk⟩ := M o' y e hy
      rw [T o' e] at hb
      exact .inr ⟨z, e, hz, hk, hb⟩
  have H : ∀ b, stF c σ β w b → stF c (σ.newOb o (.sem (recOb L r))) (upd β o (.pointer (some ⟨L, 0, none⟩))) w b ∧ w.heap[b]? = w.heap[b]? := fun b hb => ⟨⟨hb.1, hb.2.1, fun o' y hy e => by
    rcases own o' y b hy e with ⟨_, rfl⟩ | ⟨z, _, hz, _, hb'⟩
    · exact hb.2.2.2.2 r h2
    · exact hb.2.2.1 o' z hz hb', hb.2.2.2⟩, rfl⟩
  have dfn : ∃ Ds : List Nat, a.defers = Ds.map markD ++ c.df ∧ MarksOk c (σ.newOb o (.sem (recOb L r))) (upd β o (.pointer (some ⟨L, 0, none⟩))) w (Ds ++ c.M) := by
    obtain ⟨Ds, e, m⟩ := h.df
    refine ⟨Ds, e, m.nd, fun D hD => ?_, fun y hy => ?_⟩
    · obtain ⟨g1, g2, g3⟩ := m.ok D hD
      refine ⟨g1, g2, fun o' y hy e => ?_⟩
      rcases own o' y D hy e with ⟨_, rfl⟩ | ⟨z, _, hz, _, hb'⟩
      · rw [h2] at g2; cases g2
      · exact g3 o' z hz hb'
    · obtain ⟨g1, g2, g3⟩ := m.lp y hy
      refine ⟨g1, g2, fun o' z hz e => ?_⟩
      rcases own o' z y.1 hz e with ⟨_, e2⟩ | ⟨z', _, hz', _, hb'⟩
      · exact h4 y hy e2
      · exact g3 o' z' hz' hb'
  refine ⟨h.keep, h.size, dfn, c.hE H h.ext, fun o' y hy => ?_, fun o' y b hy hb => ?_, fun o1 o2 y1 y2 b g1 g2 g3 g4 => ?_, fun t => ?_, h.env.mono H⟩
  · by_cases e : o' = o
    · subst e
      obtain rfl : (Ob.sem (recOb L r)) = y := by simpa [S.newOb, upd] using hy
      exact ⟨by simp [upd], h2⟩
    · obtain ⟨z, hz, rfl⟩ := M o' y e hy
      rw [T o' e]
      exact ((h.obj o' z hz).mono H fun _ _ => rfl).turn T
  · rcases own o' y b hy hb with ⟨_, rfl⟩ | ⟨z, _, hz, _, hb'⟩
    · exact .inl h1
    · exact h.blk o' z b hz hb'
  · rcases own o1 y1 b g1 g3 with ⟨e1, b1⟩ | ⟨z1, _, hz1, _, hb1⟩
    · rcases own o2 y2 b g2 g4 with ⟨e2, _⟩ | ⟨z2, _, hz2, _, hb2⟩
      · rw [e1, e2]
      · exact (h3 o2 z2 hz2 (b1 ▸ hb2)).elim
    · rcases own o2 y2 b g2 g4 with ⟨e2, b2⟩ | ⟨z2, _, hz2, _, hb2⟩
      · exact (h3 o1 z1 hz1 (b2 ▸ hb1)).elim
      · exact h.dis o1 o2 z1 z2 b hz1 hz2 hb1 hb2
  · exact ((h.reg t).mono H).turn T
end
/-- An iterator's state behind a yield in a round of a loop of its own. -/
noncomputable def S.again2 (T vs : List Value) (rs : Nat → R) (L2 : Nat) (r2 : Loop) (τ σ : S) : S := ((S.again T τ σ).newOb 999997 (.sem (recOb L2 r2))).newOb 999996 (.frame vs fun t => (rs t).pur)
theorem SemOp.ghost {P : Program} {gl : Nat → Option (List D)} {o : Oper} {σ σ' : S} {K : S → Prop} (g : Ghost σ σ') (h : SemOp P gl o σ' K) : SemOp P gl o σ K := fun c β a w hP hgl hs hd => by
  obtain ⟨β', hs'⟩ := g c β a w hs
  exact h c β' a w hP hgl hs' hd
theorem yield_semF {P : Program} {gl : Nat → Option (List D)} {L : Nat} {T : Array Value} {dst : Option Tmp} {y z : Operand} {ts : Array TypeId} {ty : TypeId} {pos : String} {after : Array Edge} {g : Option (Nat × Bool)} {τ : S} {A' B' : S → Prop} {K : S → Prop}
    (hy : τ.eval gl y = .a (.d (.v (yieldV L)))) (hx : τ.eval gl z = .own (upId 999995)) (hf : fvOf (τ.mem 999999) = some T.toList) (hY : YieldF P gl L T τ.leave A' B')
    (hA : ∀ σ', A' σ' → K ((S.again T.toList τ σ').put dst (.a (.d (.v (.bool true)))))) (hB : ∀ σ', B' σ' → K ((S.again T.toList τ σ').put dst (.a (.d (.v (.bool false)))))) :
    SemOp P gl ⟨dst, .call ⟨.value y, #[z], ts⟩, ty, pos, after, g⟩ τ K := by
  intro c β a w hP hgl hs hd
  subst hP; subst hgl
  have hyv : a.eval y = yieldV L := (hy ▸ hs.eval y).inv_v
  obtain ⟨rs, hfr⟩ := fv_at hf
  obtain ⟨Ds, hds, hM⟩ := hs.df
  let E' : (Nat → Prop) → World → Prop := fun st w => c.E st w ∧ ∀ t, RelR (fun _ => undef) st w (a.tmps.getD t undef) (τ.regs t).pur
  have hE' : ∀ {st st' : Nat → Prop} {w w' : World}, (∀ b, st b → st' b ∧ w'.heap[b]? = w.heap[b]?) → E' st w → E' st' w' := fun H h => ⟨c.hE H h.1, fun t => (h.2 t).mono H⟩
  obtain ⟨hl, hst⟩ := leave_re (E := E') (hE := hE') hs hfr hM ⟨hs.ext, fun t => pur_rel (hs.reg t)⟩
  have hzv : a.eval z = β (upId 999995) := (hx ▸ hs.eval z).inv_own
  refine Run.of_wp (fun _ e => by cases e) fun ρ n next Q hn => ?_
  obtain ⟨fn, tmps, assign, body, hyl, hR⟩ := hY (reC c T.size [] (Ds ++ c.M) E' hE') _ _ w (n - 1) rfl rfl rfl hl
  have hrun : (execOp a.eval ⟨dst, .call ⟨.value y, #[z], ts⟩, ty, pos, after, g⟩).run c.P w = .ok (.round L fn tmps assign body) w := by
    have h2 : (#[z].map a.eval) = #[β (upId 999995)] := by simp [hzv]
    simp only [execOp, resolve, hyv, yieldV, Sem.run_bind, Sem.run_pure, Result.andThen_ok]
    simp [Deferred.ofValue, invoke, h2, hyl]
  rw [hrun]
  refine ⟨fun hs => by simp [WF, Fence.wide] at hs, ?_⟩
  have hW : ∀ R, RoundIn Fence.wide (n - 1) c.P L fn tmps assign body w R → RoundIn (WF ρ) (n - 1) c.P L fn tmps assign body w R := fun R h => by
    cases ρ with
    | none => exact h
    | some l => exact h
  refine RoundIn.mono (hW _ hR) fun e w' he => ?_
  obtain ⟨σ', β', hs', hk⟩ := he
  have hag := again_re (c := c) (a := a) (τ := τ) hs' (fun _ _ h => h) hs.size hds
  rcases hk with ⟨rfl, hk⟩ | ⟨rfl, hk⟩
  · exact hn _ _ ⟨_, _, hA σ' hk, hag.put hd (.a (x := .d (.v (.bool true))) (.v rfl))⟩
  · exact hn _ _ ⟨_, _, hB σ' hk, hag.put hd (.a (x := .d (.v (.bool false))) (.v rfl))⟩
theorem yield_semF2 {P : Program} {gl : Nat → Option (List D)} {L : Nat} {T : Array Value} {dst : Option Tmp} {y z : Operand} {ts : Array TypeId} {ty : TypeId} {pos : String} {after : Array Edge} {g : Option (Nat × Bool)} {τ : S} {A' B' : S → Prop} {K : S → Prop}
    {vs : List Value} {rs2 : Nat → R} {L2 : Nat} {r2 : Loop} (hy : τ.eval gl y = .a (.d (.v (yieldV L)))) (hx : τ.eval gl z = .own (upId 999995)) (hf : fvOf (τ.mem 999999) = some T.toList) (h6 : τ.mem 999996 = some (.frame vs rs2)) (h7 : τ.mem 999997 = some (.sem (recOb L2 r2))) (hY : YieldF P gl L T τ.leave A' B')
    (hA : ∀ σ', A' σ' → K ((S.again2 T.toList vs rs2 L2 r2 τ σ').put dst (.a (.d (.v (.bool true)))))) (hB : ∀ σ', B' σ' → K ((S.again2 T.toList vs rs2 L2 r2 τ σ').put dst (.a (.d (.v (.bool false)))))) :
    SemOp P gl ⟨dst, .call ⟨.value y, #[z], ts⟩, ty, pos, after, g⟩ τ K := by
  intro c β a w hP hgl hs hd
  subst hP; subst hgl
  have hyv : a.eval y = yieldV L := (hy ▸ hs.eval y).inv_v
  obtain ⟨rs, hfr⟩ := fv_at hf
  obtain ⟨Ds, hds, hM⟩ := hs.df
  obtain ⟨hb7, hh7⟩ := hs.obj _ _ h7
  have ho7 : ownB (β 999997) = some L2 := by rw [hb7]; rfl
  have h6o := hs.obj _ _ h6
  let E' : (Nat → Prop) → World → Prop := fun st w => c.E st w ∧ (∀ t, RelR (fun _ => undef) st w (a.tmps.getD t undef) (τ.regs t).pur) ∧ ∀ t, RelR (fun _ => undef) st w (vs.getD t undef) (rs2 t).pur
  have hE' : ∀ {st st' : Nat → Prop} {w w' : World}, (∀ b, st b → st' b ∧ w'.heap[b]? = w.heap[b]?) → E' st w → E' st' w' := fun H h => ⟨c.hE H h.1, fun t => (h.2.1 t).mono H, fun t => (h.2.2 t).mono H⟩
  obtain ⟨hl, hst⟩ := leave_re (E := E') (hE := hE') hs hfr hM ⟨hs.ext, fun t => pur_rel (hs.reg t), fun t => pur_rel (h6o.2 t)⟩
  have hl2 : Sim (reL (reC c T.size [] (Ds ++ c.M) E' hE') (L2, r2)) τ.leave (fun o => β (upId o)) { tmps := T, defers := [] } w := hl.addL ((hs.blk 999997 _ L2 h7 ho7).resolve_right fun hx => absurd hx.2 (by omega)) hh7 fun o z hz e => by
    obtain ⟨_, y', hy', _⟩ := leave_at hz
    have := hs.dis _ _ _ _ L2 h7 hy' ho7 e
    have := upId_le o
    omega
  have hzv : a.eval z = β (upId 999995) := (hx ▸ hs.eval z).inv_own
  refine Run.of_wp (fun _ e => by cases e) fun ρ n next Q hn => ?_
  obtain ⟨fn, tmps, assign, body, hyl, hR⟩ := hY (reL (reC c T.size [] (Ds ++ c.M) E' hE') (L2, r2)) _ _ w (n - 1) rfl rfl rfl hl2
  have hrun : (execOp a.eval ⟨dst, .call ⟨.value y, #[z], ts⟩, ty, pos, after, g⟩).run c.P w = .ok (.round L fn tmps assign body) w := by
    have h2 : (#[z].map a.eval) = #[β (upId 999995)] := by simp [hzv]
    simp only [execOp, resolve, hyv, yieldV, Sem.run_bind, Sem.run_pure, Result.andThen_ok]
    simp [Deferred.ofValue, invoke, h2, hyl]
  rw [hrun]
  refine ⟨fun hs => by simp [WF, Fence.wide] at hs, ?_⟩
  have hW : ∀ R, RoundIn Fence.wide (n - 1) c.P L fn tmps assign body w R → RoundIn (WF ρ) (n - 1) c.P L fn tmps assign body w R := fun R h => by
    cases ρ with
    | none => exact h
    | some l => exact h
  refine RoundIn.mono (hW _ hR) fun e w' he => ?_
  obtain ⟨σ', β', hs', hk⟩ := he
  obtain ⟨hs1, g1, g2, g3⟩ := hs'.dropL
  have hag := again_re (c := c) (a := a) (τ := τ) hs1 (fun _ _ h => ⟨h.1, h.2.1⟩) hs.size hds
  have hfr' : ∀ t, RelR (fun _ => undef) (stF (reC c T.size [] (Ds ++ c.M) E' hE') σ' β' w') w' (vs.getD t undef) (rs2 t).pur := hs1.ext.2.2
  have at_ : ∀ o z, (S.again T.toList τ σ').mem o = some z → (o = 999999 ∧ z = .frame T.toList fun t => (σ'.regs t).up) ∨ ∃ o' y, o = upId o' ∧ σ'.mem o' = some y ∧ z = y.up := fun o z hz => enter_at (vs := T.toList) (rs := []) hz
  have hag1 := hag.claim (o := 999997) (L := L2) (r := r2) (by omega) g1 g2 (fun o z hz e => by
    rcases at_ o z hz with ⟨rfl, _⟩ | ⟨o', y, rfl, hy, _⟩
    · simp [βIn, undef_own] at e
    · rw [βIn_add] at e; exact g3 o' y hy e) fun y hy e => (hM.lp y hy).2.2 _ _ h7 (e ▸ ho7)
  have hst2 : ∀ b, stF (reC c T.size [] (Ds ++ c.M) E' hE') σ' β' w' b → stF c ((S.again T.toList τ σ').newOb 999997 (.sem (recOb L2 r2))) (upd (βIn β') 999997 (.pointer (some ⟨L2, 0, none⟩))) w' b ∧ w'.heap[b]? = w'.heap[b]? := fun b hb => ⟨⟨hb.1, hb.2.1, fun o z hz e => by
    by_cases eo : o = 999997
    · subst eo
      simp only [upd, if_pos rfl] at e
      cases e; exact hb.2.2.2.2 _ g2
    · simp only [S.newOb, upd, if_neg eo] at hz e
      obtain ⟨z', hz', _⟩ := Option.map_eq_some_iff.1 hz
      rcases at_ o z' hz' with ⟨rfl, _⟩ | ⟨o', y, rfl, hy, _⟩
      · simp [βIn, undef_own] at e
      · rw [βIn_add] at e; exact hb.2.2.1 o' y hy e, hb.2.2.2⟩, rfl⟩
  have hag2 := hag1.new (o := 999996) (x := .frame vs fun t => (rs2 t).pur) (bv := undef) (w' := w') (Keep.refl _ _) (fun b hb => by cases hb) ⟨rfl, fun t => by
    have h1 := pur_rel (β' := upd (upd (βIn β') 999997 (.pointer (some ⟨L2, 0, none⟩))) 999996 undef) (hfr' t)
    rw [pur_pur] at h1
    refine h1.mono fun b hb => ?_
    have h2 := hst2 b hb
    exact ⟨st_new (Nat.le_refl _) (fun _ _ => rfl) (fun b hb => by cases hb) h2.1, rfl⟩⟩
  rcases hk with ⟨rfl, hk⟩ | ⟨rfl, hk⟩
  · exact hn _ _ ⟨_, _, hA σ' hk, hag2.put hd (.a (x := .d (.v (.bool true))) (.v rfl))⟩
  · exact hn _ _ ⟨_, _, hB σ' hk, hag2.put hd (.a (x := .d (.v (.bool false))) (.v rfl))⟩
end Go.VC
end
section
set_option maxRecDepth 100000
set_option linter.unusedSimpArgs false
set_option linter.unusedVariables false
set_option linter.unnecessarySimpa false
set_option linter.defProp false
namespace Go.VC
open Go.RowKit Go.Proofs
/-- The objects from 'base' on are these values. -/
def ties (base : Nat) (vals : List Value) : SemOb where
  os := (List.range vals.length).map (base + ·)
  p := fun β _ _ bv => ownB bv = none ∧ ∀ (i : Nat) (v : Value), vals[i]? = some v → β (base + i) = v
  lt := fun h b hb => by rw [h.1] at hb; cases hb
  mono := fun _ h _ => h
  dep := fun h k => ⟨k.1, fun i v hv => (h _ (List.mem_map.2 ⟨i, List.mem_range.2 (List.getElem?_eq_some_iff.1 hv).1, rfl⟩)).trans (k.2 i v hv)⟩
theorem ties_os {base o : Nat} {vals : List Value} (h : o ∈ (ties base vals).os) : base ≤ o ∧ o < base + vals.length := by
  obtain ⟨i, hi, rfl⟩ := List.mem_map.1 h
  have := List.mem_range.1 hi
  omega
theorem ties_any {base o : Nat} {vals : List Value} (h : decide (o < base) = true) : ((ties base vals).os.any fun o' => o' == o) = false := by
  rw [List.any_eq_false]
  intro x hx
  have := of_decide_eq_true h
  have := ties_os hx
  simp; omega
theorem k_ties {base o : Nat} {vals : List Value} (h : decide (o < base) = true) : Ob.kill o (.sem (ties base vals)) = .sem (ties base vals) := by
  simp only [Ob.kill]; rw [ties_any h]; rfl
theorem k_tie1 {v : Value} {o : Nat} (h : (o == 999995) = false) : Ob.kill o (.sem (ties 999995 [v])) = .sem (ties 999995 [v]) := by
  have : ((ties 999995 [v]).os.any fun o' => o' == o) = false := by
    simp [ties]; intro e; subst e; simp at h
  simp only [Ob.kill]; rw [this]; rfl
theorem fineO_ties {vals : List Value} (h : vals.length ≤ 80000) : FineO 999995 (.sem (ties 710000 vals)) := fineO_sem fun hq => by have := ties_os hq; omega
theorem g_ties0 {σ : S} {o base : Nat} : Ghost σ (σ.newOb o (.sem (ties base []))) := fun c β a w hs =>
  ⟨_, hs.new (o := o) (x := .sem (ties base [])) (bv := undef) (w' := w) (Keep.refl _ _) (fun b hb => by cases hb) ⟨rfl, fun i v h => by simp at h⟩⟩
theorem awpE_tie {P : Program} {gl : Nat → Option (List D)} {code : Code} {Q : Ex → S → Prop} {σ : S} {p : Tmp} {e : TypeId} {sz : Nat} {x : List (List D)} (hp : σ.regs p = .own 999995) (hlog : σ.mem 999995 = some (.log e sz x))
    (h : ∀ v, awp P gl code Q (S.newOb { σ with regs := upd σ.regs p (.a (.d (.v v))) } 999994 (.sem (ties 999995 [v])))) : AwpE P gl code Q σ := fun c β a w hs => by
  have hv := hs.reg p
  rw [hp] at hv
  have h1 := log_one (hs.obj _ _ hlog)
  have hs1 := hs.reg_set p (r := .a (.d (.v (β 999995)))) (by rw [hv.inv_own]; exact .a (x := .d (.v (β 999995))) (.v h1))
  exact ⟨_, _, hs1.new (o := 999994) (x := .sem (ties 999995 [β 999995])) (bv := undef) (w' := w) (Keep.refl _ _) (fun b hb => by cases hb) ⟨rfl, fun i v hi => by
    cases i with
    | zero => simp at hi; subst hi; simp [upd]
    | succ i => simp at hi⟩, h _⟩
/-- A row without room is a row of its own. -/
theorem awpE_nil {P : Program} {gl : Nat → Option (List D)} {code : Code} {Q : Ex → S → Prop} {σ : S} {p : Tmp} {d : Nat} {e : TypeId} (hp : σ.regs p = .cs []) (h : awp P gl code Q ((σ.newOb d (.log e 1 [])).put (some p) (.own d))) : AwpE P gl code Q σ := fun c β a w hs => by
  have hv := hs.reg p
  rw [hp] at hv
  obtain ⟨q, n, hq, hr⟩ := hv.inv_cs
  have hn : n = 0 := by
    generalize hvv : Value.slice q n n = u at hr
    cases hr with
    | nil => cases hvv; rfl
    | sl _ _ hn _ _ _ _ _ => cases hvv; simpa using hn
  subst hn
  have hs1 := hs.new (o := d) (x := .log e 1 []) (bv := .slice q 0 0) (w' := w) (Keep.refl _ _) (fun b hb => by cases q <;> cases hb) ⟨[], .inr ⟨rfl, rfl, q, rfl⟩, F2.nil, by simp⟩
  refine ⟨_, _, hs1.reg_set p (r := .own d) ?_, h⟩
  rw [hq]
  exact .own (by simp [upd]) rfl
/-- A row that was handed on becomes the next of the rows. -/
theorem g_take {σ : S} {v : Value} {vals : List Value} {e : TypeId} {sz : Nat} {x : List (List D)} (hn : vals.length < 80000) (h5 : σ.mem 999995 = some (.log e sz x)) (h4 : σ.mem 999994 = some (.sem (ties 999995 [v]))) (h1 : σ.mem 700001 = some (.sem (ties 710000 vals))) :
    Ghost σ ((σ.mv 999995 (710000 + vals.length)).setOb 700001 (.sem (ties 710000 (vals ++ [v])))) := fun c β a w hs => by
  have hv : β 999995 = v := (hs.obj _ _ h4).2 0 v rfl
  obtain ⟨hb, hvs⟩ := hs.obj _ _ h1
  have hs1 := hs.mv (a := 999995) (b := 710000 + vals.length) (by omega) (by omega)
  have hm : (σ.mv 999995 (710000 + vals.length)).mem 700001 = some (Ob.mv 999995 (710000 + vals.length) (.sem (ties 710000 vals))) := by rw [mv_mo (by simp; omega) rfl, h1]; rfl
  refine ⟨_, hs1.tell hm fun st hst => ⟨?_, fun i u hu => ?_⟩⟩
  · rw [show upd β (710000 + vals.length) (β 999995) 700001 = β 700001 by simp only [upd]; rw [if_neg (by omega)]]; exact hb
  · rw [List.getElem?_append] at hu
    by_cases hi : i < vals.length
    · rw [if_pos hi] at hu
      simp only [upd]; rw [if_neg (by omega)]; exact hvs i u hu
    · rw [if_neg hi] at hu
      have : i - vals.length = 0 := by
        rcases Nat.eq_zero_or_pos (i - vals.length) with h | h
        · exact h
        · rw [List.getElem?_eq_none (by simp only [List.length_singleton]; omega)] at hu; cases hu
      rw [this] at hu
      obtain rfl : v = u := by simpa using hu
      rw [show 710000 + i = 710000 + vals.length by omega]
      simp only [upd]; rw [if_pos trivial]; exact hv
/-- A row that lies in a cell is laid to rest there. -/
theorem Sim.rest_in {c : Cx} {σ : S} {β : Nat → Value} {a : Act} {w : World} {n q j : Nat} {v : Value} {e0 e1 : TypeId} {row xs : List (List D)} {z : Nat} (hq : q < 1000000000) (hqn : q ≠ n) (hr : σ.mem q = some (.log e1 z row)) (hn : σ.mem n = some (.log e0 1 xs)) (hx : xs[j]? = some [.v v]) (hv : β q = v) (hs : Sim c σ β a w) :
    Sim c ((σ.frz q fun _ => .sl row).setOb n (.log e0 1 (xs.set j [.sl row]))) β a w := by
  obtain ⟨cells, hr', hf, hall⟩ := hs.obj _ _ hr
  have hx' : ∀ st, (∀ b, stF c σ β w b → st b) → (∀ b, ownB (β q) = some b → st b) → Rd st w (β q) (.sl row) := fun st h1 h2 => row_rd hr' hf hall h1 h2
  have hz := hs.frz (f := fun _ => .sl row) hr (fun st h1 h2 => .inl (hx' st h1 h2)) (fun st h1 h2 off b hb => by
    rw [hb] at hr'
    rcases hr' with hr' | ⟨_, _, p, hp⟩
    · rcases hr'.2 with ⟨hp, _⟩ | ⟨_, _, _, hp, _⟩ <;> cases hp
    · cases hp) hq (fun b' hb' => hr'.nd hb')
  have hm : (σ.frz q fun _ => .sl row).mem n = some (.log e0 1 xs) := by
    simp only [S.frz]; rw [if_neg (Ne.symm hqn), hn]; rfl
  refine hz.1.tell hm fun st hst => ?_
  obtain ⟨cs, hcr, hcf, hca⟩ := hz.1.obj _ _ hm
  have hl := (List.getElem?_eq_some_iff.1 hx).1
  have hone : ∀ l : List (List D), (∀ x ∈ l, x.length = 1) → ∀ (k : Nat) (d : D), l.flatten[k]? = some d ↔ l[k]? = some [d] := by
    intro l
    induction l with
    | nil => simp
    | cons y l ih =>
      intro hy k d
      obtain ⟨u, rfl⟩ : ∃ u, y = [u] := List.length_eq_one_iff.1 (hy y (List.mem_cons_self ..))
      cases k with
      | zero => simp
      | succ k => simpa using ih (fun x hx => hy x (List.mem_cons_of_mem _ hx)) k d
  have hall2 : ∀ x ∈ xs.set j [.sl row], x.length = 1 := fun x hx => by
    rcases List.mem_or_eq_of_mem_set hx with h | rfl
    · exact hca x h
    · rfl
  have hfl : ∀ l : List (List D), (∀ x ∈ l, x.length = 1) → l.flatten.length = l.length := by
    intro l
    induction l with
    | nil => simp
    | cons y l ih =>
      intro hy
      have := hy y (List.mem_cons_self ..)
      have := ih fun x hx => hy x (List.mem_cons_of_mem _ hx)
      simp_all
      omega
  refine ⟨cs, by rw [List.length_set]; exact hcr, ⟨?_, fun k u d hu hd => ?_⟩, hall2⟩
  · rw [hfl _ hall2, List.length_set, ← hfl _ hca]; exact hcf.1
  · rw [hone _ hall2, List.getElem?_set] at hd
    by_cases e : j = k
    · subst e
      rw [if_pos rfl, if_pos hl] at hd
      obtain rfl : D.sl row = d := by simpa using hd
      have h1 := hcf.2 j u (.v v) hu ((hone _ hca _ _).2 hx)
      obtain rfl : u = v := by cases h1 with | v h => rfl
      rw [← hv]
      exact (hx' _ hz.2.1 hz.2.2).mono fun b hb => ⟨hst b hb, rfl⟩
    · rw [if_neg e] at hd
      exact (hcf.2 k u d hu ((hone _ hca _ _).2 hd)).mono fun b hb => ⟨hst b hb, rfl⟩
theorem tie_at {σ : S} {vals : List Value} {i : Nat} {v : Value} (h1 : σ.mem 700001 = some (.sem (ties 710000 vals))) (hv : vals[i]? = some v) (c : Cx) (β : Nat → Value) (a : Act) (w : World) (hs : Sim c σ β a w) : β (710000 + i) = v := (hs.obj _ _ h1).2 i v hv
/-- A cell in which a row lies is loaded. -/
theorem sem_tie_load {P : Program} {gl : Nat → Option (List D)} {σ : S} {K : S → Prop} {dst : Option Tmp} {ty : TypeId} {pos : String} {after : Array Edge} {g : Option (Nat × Bool)} {t : TypeId} {x : Operand} {i : Nat} {v : Value} {vals : List Value} {e1 : TypeId} {row : List (List D)}
    (hl : loadR P σ t (σ.eval gl x) = some (.a (.d (.v v)))) (h1 : σ.mem 700001 = some (.sem (ties 710000 vals))) (hv : vals[i]? = some v) (hr : σ.mem (710000 + i) = some (.log e1 1 row)) (hk : K (σ.put dst (.own (710000 + i)))) :
    SemOp P gl ⟨dst, .load t x, ty, pos, after, g⟩ σ K := fun c β a w hP hgl hs hd => by
  subst hP; subst hgl
  obtain ⟨u, hrun, hrel⟩ := load_run hs hl
  obtain rfl : u = v := hrel.inv_v
  have hb := tie_at h1 hv c β a w hs
  exact Run.val (v := u) (w' := w) (fun _ e => by cases e) (by simp [execOp, hrun]) ⟨_, β, hk, hs.put hd (.own hb (hb ▸ log_one (hs.obj _ _ hr)))⟩
/-- The rows of a row of rows, one after the other laid to rest. -/
def restN (σ : S) (e0 : TypeId) (vals : List Value) (rows : List (List Int)) : Nat → S
  | 0 => σ
  | k + 1 => ((restN σ e0 vals rows k).frz (710000 + k) fun _ => .sl ((rows.getD k []).map ienc)).setOb 700000 (.log e0 1 ((List.range vals.length).map fun i => if i < k + 1 then [.sl ((rows.getD i []).map ienc)] else [.v (vals.getD i undef)]))
theorem g_rests {σ : S} {e0 e1 : TypeId} {vals : List Value} {rows : List (List Int)} (hl : vals.length = rows.length) (hlen : rows.length ≤ 80000) (h0 : σ.mem 700000 = some (.log e0 1 (vals.map fun v => [.v v]))) (h1 : σ.mem 700001 = some (.sem (ties 710000 vals)))
    (hr : ∀ i r, rows[i]? = some r → σ.mem (710000 + i) = some (.log e1 1 (r.map ienc))) : Ghost σ (restN σ e0 vals rows rows.length) ∧ (restN σ e0 vals rows rows.length).mem 700000 = some (.log e0 1 (rows.map fun r => [.sl (r.map ienc)])) := by
  have e0' : vals.map (fun v => [D.v v]) = (List.range vals.length).map fun i => if i < 0 then [.sl ((rows.getD i []).map ienc)] else [.v (vals.getD i undef)] := by
    refine List.ext_getElem? fun i => ?_
    by_cases hi : i < vals.length
    · simp [hi]
    · rw [List.getElem?_eq_none (by simpa using hi), List.getElem?_eq_none (by simpa using hi)]
  have en : ((List.range vals.length).map fun i => if i < rows.length then [D.sl ((rows.getD i []).map ienc)] else [.v (vals.getD i undef)]) = rows.map fun r => [.sl (r.map ienc)] := by
    refine List.ext_getElem? fun i => ?_
    by_cases hi : i < rows.length
    · simp [hi, hl]
    · rw [List.getElem?_eq_none (by simp; omega), List.getElem?_eq_none (by simpa using hi)]
  have hset : ∀ k, k < vals.length → ((List.range vals.length).map fun i => if i < k then [D.sl ((rows.getD i []).map ienc)] else [.v (vals.getD i undef)]).set k [.sl ((rows.getD k []).map ienc)] = (List.range vals.length).map fun i => if i < k + 1 then [D.sl ((rows.getD i []).map ienc)] else [.v (vals.getD i undef)] := fun k hk => by
    refine List.ext_getElem? fun i => ?_
    rw [List.getElem?_set]
    by_cases e : k = i
    · subst e; simp [hk]
    · rw [if_neg e]
      by_cases hi : i < vals.length
      · by_cases hik : i < k
        · simp [hi, hik, show i < k + 1 by omega]
        · simp [hi, hik, show ¬ i < k + 1 by omega]
      · rw [List.getElem?_eq_none (by simpa using hi), List.getElem?_eq_none (by simpa using hi)]
  have mem : ∀ k, k ≤ rows.length → (restN σ e0 vals rows k).mem 700000 = some (.log e0 1 ((List.range vals.length).map fun i => if i < k then [.sl ((rows.getD i []).map ienc)] else [.v (vals.getD i undef)])) ∧ ∀ i r, k ≤ i → rows[i]? = some r → (restN σ e0 vals rows k).mem (710000 + i) = some (.log e1 1 (r.map ienc)) := by
    intro k
    induction k with
    | zero => exact fun _ => ⟨by rw [← e0']; exact h0, fun i r _ h => hr i r h⟩
    | succ k ih =>
      intro hk
      obtain ⟨i1, i2⟩ := ih (by omega)
      refine ⟨by simp [restN, S.setOb, upd], fun i r hi h => ?_⟩
      simp only [restN, S.setOb, upd, S.frz]
      rw [if_neg (by omega), if_neg (by omega), i2 i r (by omega) h]; rfl
  refine ⟨fun c β a w hs => ⟨β, ?_⟩, by rw [(mem _ (Nat.le_refl _)).1, en]⟩
  have hb : ∀ i v, vals[i]? = some v → β (710000 + i) = v := (hs.obj _ _ h1).2
  have : ∀ k, k ≤ rows.length → Sim c (restN σ e0 vals rows k) β a w := by
    intro k
    induction k with
    | zero => exact fun _ => hs
    | succ k ih =>
      intro hk
      obtain ⟨i1, i2⟩ := mem k (by omega)
      have hkr : rows[k]? = some (rows.getD k []) := by rw [List.getD_eq_getElem?_getD, List.getElem?_eq_getElem (by omega)]; rfl
      have hkv : vals[k]? = some (vals.getD k undef) := by rw [List.getD_eq_getElem?_getD, List.getElem?_eq_getElem (by omega)]; rfl
      have := Sim.rest_in (n := 700000) (q := 710000 + k) (j := k) (v := vals.getD k undef) (e0 := e0) (e1 := e1) (z := 1) (by omega) (by omega) (i2 k _ (Nat.le_refl _) hkr) i1 (by rw [List.getElem?_map, List.getElem?_range (by omega), Option.map_some, if_neg (Nat.lt_irrefl k)]) (hb k _ hkv) (ih (by omega))
      rw [hset k (by omega)] at this
      exact this
  exact this _ (Nat.le_refl _)
theorem restN_r {σ : S} {e0 : TypeId} {vals : List Value} {rows : List (List Int)} {t : Nat} {r : R} (h : σ.regs t = r) (hf : ∀ q f, 710000 ≤ q → r.frz q f = r) : ∀ k, (restN σ e0 vals rows k).regs t = r
  | 0 => h
  | k + 1 => by
    show ((restN σ e0 vals rows k).regs t).frz (710000 + k) (fun _ => .sl ((rows.getD k []).map ienc)) = r
    rw [restN_r h hf k]; exact hf _ _ (by omega)
theorem restN_m {σ : S} {e0 : TypeId} {vals : List Value} {rows : List (List Int)} {o : Nat} {x : Ob} (ho : o < 700000) (h : σ.mem o = some x) (hf : ∀ q f, 710000 ≤ q → x.frz q f = x) : ∀ k, (restN σ e0 vals rows k).mem o = some x
  | 0 => h
  | k + 1 => by
    simp only [restN, S.setOb, upd, S.frz]
    rw [if_neg (by omega), if_neg (by omega), restN_m ho h hf k, Option.map_some, hf _ _ (by omega)]
theorem frz_own7 {q : Nat} {f : Nat → D} (h : 710000 ≤ q) : R.frz q f (.own 700000) = .own 700000 := by simp only [R.frz]; rw [if_neg (by omega)]
/-- Ids of what a call hands over. -/
def inR (o : Nat) : Bool := decide (700000 ≤ o) && decide (o < 800000)
open Classical in
noncomputable def R.killP (p : Nat → Bool) (r : R) : R := if ∃ o, p o = true ∧ r.says o = true then .any else r
noncomputable def Ob.killP (p : Nat → Bool) : Ob → Ob
  | .box cs => .box (cs.map (R.killP p))
  | .frame vs rs => .frame vs fun t => (rs t).killP p
  | .sem x => if x.os.any p then .lost else .sem x
  | x => x
section
variable {p : Nat → Bool}
theorem R.killP_of {r : R} (h : ∀ o, p o = true → r.says o = false) : r.killP p = r := by
  unfold R.killP
  rw [if_neg]
  rintro ⟨o, h1, h2⟩
  rw [h o h1] at h2; cases h2
theorem RelR.turnP {β β' : Nat → Value} {st : Nat → Prop} {w : World} (H : ∀ o', p o' = false → β' o' = β o') {v : Value} {r : R} (h : RelR β st w v r) : RelR β' st w v (r.killP p) := by
  have H' : ∀ {o : Nat}, ¬ p o = true → β' o = β o := fun ho => H _ (by simpa using ho)
  have flat : ∀ {v : Value} {r : R}, RelR β st w v r → (∀ o, p o = true → r.says0 o = false) → (∀ xs, r ≠ .tp xs) → (∀ xs, r ≠ .agr xs) → RelR β' st w v r := by
    intro v r h k n1 n2
    cases h with
    | any => exact .any
    | a h => exact .a h
    | cs h => exact .cs h
    | @ref o _ _ h => exact .ref ((H' fun hp => by simpa [R.says0] using k o hp).trans h)
    | @eref o _ _ _ _ _ _ h => exact .eref ((H' fun hp => by simpa [R.says0] using k o hp).trans h)
    | @own o _ h h1 => exact .own ((H' fun hp => by simpa [R.says0] using k o hp).trans h) h1
    | @omp o _ h h1 => exact .omp ((H' fun hp => by simpa [R.says0] using k o hp).trans h) h1
    | clo h =>
      refine .clo ⟨h.1, fun i v c hv hc => ?_⟩
      obtain ⟨b, hb, e⟩ := h.2 i v c hv hc
      refine ⟨b, (H' fun hp => ?_).trans hb, e⟩
      have := k c.1 hp
      simp only [R.says0, List.any_eq_false, beq_iff_eq] at this
      exact this c (List.mem_of_getElem? hc) rfl
    | tp hl hd => exact absurd rfl (n1 _)
    | agr hl h1 hd => exact absurd rfl (n2 _)
    | @sem os q v h hp =>
      have e : ∀ o' ∈ os, β' o' = β o' := fun o' ho' => H' fun hq => by
        have := k o' hq
        simp only [R.says0, List.any_eq_false, beq_iff_eq] at this
        exact this o' ho' rfl
      exact .sem (hp _ e) fun β2 h2 => hp β2 fun o' ho' => (h2 o' ho').trans (e o' ho')
  unfold R.killP
  split
  · exact .any
  · rename_i hk
    have hk' : ∀ o, p o = true → r.says o = false := fun o ho => by
      cases h : r.says o with
      | false => rfl
      | true => exact absurd ⟨o, ho, h⟩ hk
    have inner : ∀ (xs : List R), (∀ o, p o = true → (xs.any (R.says0 o)) = false) → (∀ r ∈ xs, (∃ o, p o = true) → (∀ ys, r ≠ .tp ys) ∧ ∀ ys, r ≠ .agr ys) := fun xs h r hr ⟨o, ho⟩ => by
      have := h o ho
      rw [List.any_eq_false] at this
      have := this r hr
      constructor <;> (intro ys e; subst e; simp [R.says0] at this)
    by_cases hex : ∃ o, p o = true
    · cases h with
      | tp hl hd =>
        refine .tp hl fun j v r hv hr => flat (hd j v r hv hr) (fun o ho => ?_) (inner _ hk' r (List.mem_of_getElem? hr) hex).1 (inner _ hk' r (List.mem_of_getElem? hr) hex).2
        have := hk' o ho
        simp only [R.says, List.any_eq_false] at this
        simpa using this r (List.mem_of_getElem? hr)
      | agr hl h1 hd =>
        refine .agr hl h1 fun j v r hv hr => flat (hd j v r hv hr) (fun o ho => ?_) (inner _ hk' r (List.mem_of_getElem? hr) hex).1 (inner _ hk' r (List.mem_of_getElem? hr) hex).2
        have := hk' o ho
        simp only [R.says, List.any_eq_false] at this
        simpa using this r (List.mem_of_getElem? hr)
      | any => exact .any
      | a h => exact .a h
      | cs h => exact .cs h
      | ref h => exact flat (.ref h) hk' (fun _ e => by cases e) (fun _ e => by cases e)
      | eref h => exact flat (.eref h) hk' (fun _ e => by cases e) (fun _ e => by cases e)
      | own h h1 => exact flat (.own h h1) hk' (fun _ e => by cases e) (fun _ e => by cases e)
      | omp h h1 => exact flat (.omp h h1) hk' (fun _ e => by cases e) (fun _ e => by cases e)
      | clo h => exact flat (.clo h) hk' (fun _ e => by cases e) (fun _ e => by cases e)
      | sem h hp => exact flat (.sem h hp) hk' (fun _ e => by cases e) (fun _ e => by cases e)
    · have e : β' = β := funext fun o => H o (by
        cases h : p o with
        | false => rfl
        | true => exact absurd ⟨o, h⟩ hex)
      rw [e]; exact h
theorem ObRel.turnP {β β' : Nat → Value} {st : Nat → Prop} {w : World} (H : ∀ o', p o' = false → β' o' = β o') {bv : Value} {x : Ob} (h : ObRel β st w bv x) : ObRel β' st w bv (x.killP p) := by
  cases x with
  | box cs =>
    obtain ⟨b, arr, e, rfl, hb, hr⟩ := h
    refine ⟨b, arr, e, rfl, hb, by simp [hr.1], fun i v r hv hr' => ?_⟩
    simp only [List.getElem?_map, Option.map_eq_some_iff] at hr'
    obtain ⟨r0, h0, rfl⟩ := hr'
    exact ⟨(hr.2 i v r0 hv h0).1, (hr.2 i v r0 hv h0).2.turnP H⟩
  | log e sz xs => exact h
  | mpo kv => exact h
  | iter kv seen => exact h
  | frame vs rs => exact ⟨h.1, fun t => (h.2 t).turnP H⟩
  | sem x =>
    simp only [Ob.killP]
    split
    · exact fun b hb => x.lt h b hb
    · rename_i hk
      simp only [Bool.not_eq_true, List.any_eq_false] at hk
      exact x.dep (fun o' ho' => H o' (by simpa using hk o' ho')) h
  | lost => exact h
end
/-- A state behind a call that hands over rows: the row of rows is the object 700000, its rows are those from 710000 on, where they lie tells 700001. -/
noncomputable def S.bring (σ : S) (e0 e1 : TypeId) (vals : List Value) (rows : List (List Int)) : S where
  regs := fun t => (σ.regs t).killP inR
  mem := fun o => if inR o = true then (if o = 700000 then some (.log e0 1 (vals.map fun v => [.v v])) else if o = 700001 then some (.sem (ties 710000 vals)) else if 710000 ≤ o then (rows[o - 710000]?).map fun r => .log e1 1 (r.map ienc) else none) else (σ.mem o).map (Ob.killP inR)
section
variable {c : Cx} {σ : S} {β : Nat → Value} {a : Act} {w : World}
theorem Sim.bring {w' : World} {e0 e1 : TypeId} {v0 : Value} {vals : List Value} {rows : List (List Int)} (hs : Sim c σ β a w) (k : Keep (fun _ => False) w w') (hl : vals.length = rows.length) (hlen : rows.length ≤ 80000)
    (h0 : ObRel (fun _ => undef) (fun _ => False) w' v0 (.log e0 1 (vals.map fun v => [.v v]))) (hr : ∀ (i : Nat) (v : Value) (r : List Int), vals[i]? = some v → rows[i]? = some r → ObRel (fun _ => undef) (fun _ => False) w' v (.log e1 1 (r.map ienc)))
    (n0 : ∀ b, ownB v0 = some b → w.heap.size ≤ b) (nv : ∀ v ∈ vals, ∀ b, ownB v = some b → w.heap.size ≤ b) (d0 : ∀ v ∈ vals, ∀ b, ownB v0 = some b → ownB v ≠ some b)
    (dv : ∀ (i j : Nat) (v v' : Value) (b : Nat), vals[i]? = some v → vals[j]? = some v' → ownB v = some b → ownB v' = some b → i = j) : ∃ β', Sim c (σ.bring e0 e1 vals rows) β' a w' ∧ β' 700000 = v0 := by
  let β' : Nat → Value := fun o => if inR o = true then (if o = 700000 then v0 else if 710000 ≤ o then vals.getD (o - 710000) undef else undef) else β o
  have T : ∀ o', inR o' = false → β' o' = β o' := fun o' e => by simp [β', e]
  have b0 : β' 700000 = v0 := by simp [β', inR]
  have b1 : β' 700001 = undef := by simp [β', inR]
  have bi : ∀ (i : Nat) (v : Value), vals[i]? = some v → β' (710000 + i) = v := fun i v hv => by
    have := (List.getElem?_eq_some_iff.1 hv).1
    have hin : inR (710000 + i) = true := by simp [inR]; omega
    simp only [β', hin, if_true]
    rw [if_neg (by omega), if_pos (by omega), Nat.add_sub_cancel_left, List.getD_eq_getElem?_getD, hv]; rfl
  have at_ : ∀ o x, (σ.bring e0 e1 vals rows).mem o = some x → (o = 700000 ∧ x = .log e0 1 (vals.map fun v => [.v v])) ∨ (o = 700001 ∧ x = .sem (ties 710000 vals)) ∨ (∃ i v r, o = 710000 + i ∧ vals[i]? = some v ∧ rows[i]? = some r ∧ x = .log e1 1 (r.map ienc)) ∨ (inR o = false ∧ ∃ z, σ.mem o = some z ∧ x = z.killP inR) := fun o x hx => by
    simp only [S.bring] at hx
    by_cases hin : inR o = true
    · rw [if_pos hin] at hx
      by_cases e : o = 700000
      · rw [if_pos e] at hx; cases hx; exact .inl ⟨e, rfl⟩
      · rw [if_neg e] at hx
        by_cases e1 : o = 700001
        · rw [if_pos e1] at hx; cases hx; exact .inr (.inl ⟨e1, rfl⟩)
        · rw [if_neg e1] at hx
          split at hx
          · obtain ⟨r, hr, rfl⟩ := Option.map_eq_some_iff.1 hx
            have := (List.getElem?_eq_some_iff.1 hr).1
            exact .inr (.inr (.inl ⟨o - 710000, vals[o - 710000]'(by omega), r, by omega, List.getElem?_eq_getElem _, hr, rfl⟩))
          · cases hx
    · rw [if_neg hin] at hx
      obtain ⟨z, hz, rfl⟩ := Option.map_eq_some_iff.1 hx
      exact .inr (.inr (.inr ⟨by simpa using hin, z, hz, rfl⟩))
  have own : ∀ o x b, (σ.bring e0 e1 vals rows).mem o = some x → ownB (β' o) = some b → (o = 700000 ∧ ownB v0 = some b) ∨ (∃ i v, o = 710000 + i ∧ vals[i]? = some v ∧ ownB v = some b) ∨ (inR o = false ∧ ∃ z, σ.mem o = some z ∧ ownB (β o) = some b) := fun o x b hx hb => by
    rcases at_ o x hx with ⟨rfl, _⟩ | ⟨rfl, _⟩ | ⟨i, v, r, rfl, hv, _, _⟩ | ⟨hin, z, hz, _⟩
    · rw [b0] at hb; exact .inl ⟨rfl, hb⟩
    · rw [b1, undef_own] at hb; cases hb
    · rw [bi i v hv] at hb; exact .inr (.inl ⟨i, v, rfl, hv, hb⟩)
    · rw [T o hin] at hb; exact .inr (.inr ⟨hin, z, hz, hb⟩)
  have new : ∀ o x b, (σ.bring e0 e1 vals rows).mem o = some x → ownB (β' o) = some b → w.heap.size ≤ b ∨ (inR o = false ∧ ∃ z, σ.mem o = some z ∧ ownB (β o) = some b) := fun o x b hx hb => by
    rcases own o x b hx hb with ⟨_, h⟩ | ⟨i, v, _, hv, h⟩ | h
    · exact .inl (n0 b h)
    · exact .inl (nv v (List.mem_of_getElem? hv) b h)
    · exact .inr h
  have H : ∀ b, stF c σ β w b → stF c (σ.bring e0 e1 vals rows) β' w' b ∧ w'.heap[b]? = w.heap[b]? := fun b hb => by
    have hk := k.block b hb.1 id
    refine ⟨⟨Nat.lt_of_lt_of_le hb.1 k.size, hb.2.1, fun o x hx e => ?_, hb.2.2.2.same hk⟩, hk⟩
    rcases new o x b hx e with h | ⟨_, z, hz, h⟩
    · exact absurd hb.1 (Nat.not_lt.2 h)
    · exact hb.2.2.1 o z hz h
  obtain ⟨Ds, e, m⟩ := hs.df
  have m' := m.keep (w' := w') (σ' := σ.bring e0 e1 vals rows) (β' := β') (fun D hD _ => k.block D hD id) fun o x hx => by
    rcases at_ o x hx with ⟨rfl, _⟩ | ⟨rfl, _⟩ | ⟨i, v, r, rfl, hv, _, _⟩ | ⟨hin, z, hz, _⟩
    · exact .inr fun b hb => .inl (by rw [b0] at hb; exact n0 b hb)
    · exact .inr fun b hb => by rw [b1, undef_own] at hb; cases hb
    · exact .inr fun b hb => .inl (by rw [bi i v hv] at hb; exact nv v (List.mem_of_getElem? hv) b hb)
    · exact .inl ⟨o, z, hz, T o hin⟩
  refine ⟨β', ⟨hs.keep.trans k fun j hX _ => hX.elim, hs.size, ⟨Ds, e, m'⟩, c.hE H hs.ext, fun o x hx => ?_, fun o x b hx hb => ?_, fun o o' x x' b hx hx' hb hb' => ?_, fun t => ((hs.reg t).mono H).turnP T, hs.env.mono H⟩, b0⟩
  · rcases at_ o x hx with ⟨rfl, rfl⟩ | ⟨rfl, rfl⟩ | ⟨i, v, r, rfl, hv, hr', rfl⟩ | ⟨hin, z, hz, rfl⟩
    · rw [b0]; exact ObRel.mono (fun b hb => hb.elim) h0 fun _ _ => rfl
    · rw [b1]; exact ⟨rfl, bi⟩
    · rw [bi i v hv]; exact ObRel.mono (fun b hb => hb.elim) (hr i v r hv hr') fun _ _ => rfl
    · rw [T o hin]
      exact ((hs.obj o z hz).mono H fun b hb => k.block b ((hs.obj o z hz).lt hb) id).turnP T
  · rcases new o x b hx hb with h | ⟨_, z, hz, h⟩
    · exact .inl (Nat.le_trans hs.keep.size h)
    · exact hs.blk o z b hz h
  · have old : ∀ o z, σ.mem o = some z → ownB (β o) = some b → ¬ w.heap.size ≤ b := fun o z hz h => Nat.not_le.2 ((hs.obj o z hz).lt h)
    rcases own o x b hx hb with ⟨rfl, h⟩ | ⟨i, v, rfl, hv, h⟩ | ⟨_, z, hz, h⟩ <;> rcases own o' x' b hx' hb' with ⟨rfl, h'⟩ | ⟨i', v', rfl, hv', h'⟩ | ⟨_, z', hz', h'⟩
    · rfl
    · exact absurd h' (d0 v' (List.mem_of_getElem? hv') b h)
    · exact absurd (n0 b h) (old _ _ hz' h')
    · exact absurd h (d0 v (List.mem_of_getElem? hv) b h')
    · rw [dv i i' v v' b hv hv' h h']
    · exact absurd (nv v (List.mem_of_getElem? hv) b h) (old _ _ hz' h')
    · exact absurd (n0 b h') (old _ _ hz h)
    · exact absurd (nv v' (List.mem_of_getElem? hv') b h') (old _ _ hz h)
    · exact hs.dis o o' z z' b hz hz' h h'
end
section
variable {σ : S} {e0 e1 : TypeId} {vals : List Value} {rows : List (List Int)} {t o f i : Nat}
theorem br_r : (σ.bring e0 e1 vals rows).regs t = (σ.regs t).killP inR := rfl
theorem br_0 : (σ.bring e0 e1 vals rows).mem 700000 = some (.log e0 1 (vals.map fun v => [.v v])) := by simp [S.bring, inR]
theorem br_1 : (σ.bring e0 e1 vals rows).mem 700001 = some (.sem (ties 710000 vals)) := by simp [S.bring, inR]
theorem br_i {r : List Int} (hl : rows.length ≤ 80000) (h : rows[i]? = some r) : (σ.bring e0 e1 vals rows).mem (710000 + i) = some (.log e1 1 (r.map ienc)) := by
  have := (List.getElem?_eq_some_iff.1 h).1
  have hin : inR (710000 + i) = true := by simp [inR]; omega
  simp only [S.bring, hin, if_true]
  rw [if_neg (by omega), if_neg (by omega), if_pos (by omega), Nat.add_sub_cancel_left, h]; rfl
theorem br_m (h : inR o = false) : (σ.bring e0 e1 vals rows).mem o = (σ.mem o).map (Ob.killP inR) := by simp [S.bring, h]
theorem kp_a {x : A} : R.killP inR (.a x) = .a x := R.killP_of fun _ _ => rfl
theorem kp_cs {x : List (List D)} : R.killP inR (.cs x) = .cs x := R.killP_of fun _ _ => rfl
theorem kp_any : R.killP inR .any = .any := R.killP_of fun _ _ => rfl
theorem kp_own (h : inR o = false) : R.killP inR (.own o) = .own o := R.killP_of fun q hq => by
  simp only [R.says, R.says0, beq_eq_false_iff_ne]; intro e; subst e; rw [h] at hq; cases hq
theorem kp_ref (h : inR o = false) : R.killP inR (.ref o f) = .ref o f := R.killP_of fun q hq => by
  simp only [R.says, R.says0, beq_eq_false_iff_ne]; intro e; subst e; rw [h] at hq; cases hq
theorem kpo_log {e : TypeId} {z : Nat} {xs : List (List D)} : Ob.killP inR (.log e z xs) = .log e z xs := rfl
theorem kpo_box {cs : List R} : Ob.killP inR (.box cs) = .box (cs.map (R.killP inR)) := rfl
theorem one_1 {r : R} : one [r] = r := rfl
theorem one_2 {r r' : R} {rs : List R} : one (r :: r' :: rs) = .tp (r :: r' :: rs) := rfl
end
def PBR := And.intro @br_r <| And.intro @br_0 <| And.intro @br_1 <| And.intro @br_m <| And.intro @kp_a <| And.intro @kp_cs <| And.intro @kp_any <| And.intro @kp_own <| And.intro @kp_ref <| And.intro @kpo_log <| And.intro @kpo_box <| And.intro @one_1 <| @one_2
attribute [go_sem] PBR
/-- A contract whose first result is a row of rows, all its own; the other results are flat. -/
def HoldsRows (P : Program) (gl : Nat → Option (List D)) (f : FuncId) (rs : List R) (e0 e1 : TypeId) (rows : List (List Int)) (zs : List A) : Prop :=
  FnOk P f ∧ ∀ (st : Nat → Prop) (w : World) (vs : List Value), EnvOk gl st w → F2 (RelR (fun _ => undef) st w) vs rs →
    Calls P f vs.toArray w fun e w' => ∃ (v0 : Value) (us vals : List Value), e = .returned (retV (v0 :: us)) ∧ Keep (fun _ => False) w w' ∧ F2 (RelA (fun _ => False) w') us zs ∧ vals.length = rows.length ∧
      ObRel (fun _ => undef) (fun _ => False) w' v0 (.log e0 1 (vals.map fun v => [.v v])) ∧ (∀ (i : Nat) (v : Value) (r : List Int), vals[i]? = some v → rows[i]? = some r → ObRel (fun _ => undef) (fun _ => False) w' v (.log e1 1 (r.map ienc))) ∧
      (∀ b, ownB v0 = some b → w.heap.size ≤ b) ∧ (∀ v ∈ vals, ∀ b, ownB v = some b → w.heap.size ≤ b) ∧ (∀ v ∈ vals, ∀ b, ownB v0 = some b → ownB v ≠ some b) ∧
      (∀ (i j : Nat) (v v' : Value) (b : Nat), vals[i]? = some v → vals[j]? = some v' → ownB v = some b → ownB v' = some b → i = j)
theorem inl_rows {P : Program} {gl : Nat → Option (List D)} {f : FuncId} {rs : List R} {e0 e1 : TypeId} {rows : List (List Int)} {zs : List A} {σ : S} {K : S → List R → Prop} (h : HoldsRows P gl f rs e0 e1 rows zs) (hp : rs.map R.pur = rs) (hlen : rows.length ≤ 80000)
    (hK : ∀ vals, vals.length = rows.length → K (σ.bring e0 e1 vals rows) (.own 700000 :: zs.map .a)) : Inl P gl f rs σ K := by
  refine ⟨h.1, fun c β a w vs hP hgl hs hv => ?_⟩
  subst hP; subst hgl
  refine (h.2 (stF c σ β w) w vs hs.env ⟨hv.1, fun i v r hv' hr => ?_⟩).mono fun e w' hq => ?_
  · have h1 := pur_rel (β' := fun _ => undef) (hv.2 i v r hv' hr)
    have h2 : (rs.map R.pur)[i]? = rs[i]? := by rw [hp]
    rw [List.getElem?_map, hr] at h2
    rw [Option.some.inj h2] at h1
    exact h1
  · obtain ⟨v0, us, vals, rfl, hk, hus, hl, h0, hr, n0, nv, d0, dv⟩ := hq
    obtain ⟨β', hs', hb⟩ := hs.bring (e0 := e0) (e1 := e1) hk hl hlen h0 hr n0 nv d0 dv
    refine ⟨v0 :: us, _, _, β', rfl, hs', F2.cons (.own hb (log_one h0)) ⟨by simp [hus.1], fun i u r hu hr' => ?_⟩, hK vals hl⟩
    rw [List.getElem?_map] at hr'
    obtain ⟨z, hz, rfl⟩ := Option.map_eq_some_iff.1 hr'
    exact .a ((hus.2 i u z hu hz).mono fun b hb => hb.elim)
/-- A function's state at its start, of what it is given. -/
def S.pin (rs : List R) : S where
  regs := fun t => (rs[t]?).getD .any
  mem := fun _ => none
theorem pin_r {rs : List R} {t : Nat} : (S.pin rs).regs t = (rs[t]?).getD .any := rfl
theorem pin_m {rs : List R} {o : Nat} : (S.pin rs).mem o = none := rfl
/-- The end of a body that hands over rows. -/
def postW (t0 : Tmp) (tl : List Tmp) (e0 e1 : TypeId) (rows : List (List Int)) (zs : List A) : Ex → S → Prop
  | .normal, σ | .ret, σ => ∃ (q : Nat) (vals : List Value), q ≤ 700000 ∧ σ.regs t0 = .own q ∧ σ.mem q = some (.log e0 1 (vals.map fun v => [.v v])) ∧ σ.mem 700001 = some (.sem (ties 710000 vals)) ∧ vals.length = rows.length ∧
      (∀ i r, rows[i]? = some r → σ.mem (710000 + i) = some (.log e1 1 (r.map ienc))) ∧ tl.map σ.regs = zs.map .a
  | _, _ => False
theorem pin_sim {P : Program} {gl : Nat → Option (List D)} {st : Nat → Prop} {w : World} {N : Nat} {rs : List R} {vs : List Value} (he : EnvOk gl st w) (hv : F2 (RelR (fun _ => undef) st w) vs rs) (hp : rs.map R.pur = rs) (hN : rs.length ≤ N) :
    Sim (ctx P gl st w N) (S.pin rs) (fun _ => undef) { tmps := vs.toArray ++ Array.replicate (N - vs.toArray.size) undef, defers := [] } w := by
  have hst : ∀ b, (st b ∧ b < w.heap.size ∧ NotDef w b) → stF (ctx P gl st w N) (S.pin rs) (fun _ => undef) w b ∧ w.heap[b]? = w.heap[b]? := fun b hb => ⟨⟨hb.2.1, fun _ => hb.1, fun o x hx => (by simp [S.pin] at hx), hb.2.2⟩, rfl⟩
  have hl := hv.1
  refine ⟨Keep.refl _ _, ?_, ⟨[], rfl, List.nodup_nil, fun D hD => (by cases hD), fun y hy => (by cases hy)⟩, trivial, fun o x hx => by simp [S.pin] at hx, fun o x b hx => by simp [S.pin] at hx, fun o o' x x' b hx => by simp [S.pin] at hx, fun t => ?_, he.here.mono hst⟩
  · simp [ctx]; omega
  · simp only [S.pin]
    cases hx : rs[t]? with
    | none => exact .any
    | some r =>
      obtain ⟨v, hv', hr⟩ := hv.get hx
      have ht := (List.getElem?_eq_some_iff.1 hv').1
      have : (vs.toArray ++ Array.replicate (N - vs.toArray.size) undef).getD t undef = v := by
        rw [Array.getD_eq_getD_getElem?, Array.getElem?_append_left (by simpa using ht)]
        simp [hv']
      rw [this, Option.getD_some]
      have h2 : (rs.map R.pur)[t]? = rs[t]? := by rw [hp]
      rw [List.getElem?_map, hx] at h2
      have hpr : r.pur = r := Option.some.inj h2
      cases hr with
      | any => exact .any
      | a h => exact .a (h.here.mono hst)
      | cs h => exact .cs (h.here.mono hst)
      | sem h hp => exact .sem h hp
      | @tp us xs hl hd =>
        cases xs with
        | nil => exact .tp hl fun j v r _ hr => by simp at hr
        | cons x xs => cases hpr
      | ref h => cases hpr
      | eref h => cases hpr
      | own h h1 => cases hpr
      | omp h h1 => cases hpr
      | clo h => cases hpr
      | agr hl h1 hd => cases hpr
theorem rows_of {P : Program} {gl : Nat → Option (List D)} {f : FuncId} {fn : Func} {body : Code} {rs : List R} {t0 : Tmp} {tl : List Tmp} {e0 e1 : TypeId} {rows : List (List Int)} {zs : List A} (hm : P.follows .mixedOrders = true)
    (hf : P.funcs[f]? = some fn) (hb : fn.body = some body) (hr : resT fn.results.toList = some (t0 :: tl)) (hname : (fn.name == "runtime.NumGoroutine") = false) (hd : dstOK fn.ntmps body = true) (hN : decide (rs.length ≤ fn.ntmps) = true) (hp : rs.map R.pur = rs) (hz : zs.all A.flat = true)
    (h : AwpE P gl body (postW t0 tl e0 e1 rows zs) (S.pin rs)) : HoldsRows P gl f rs e0 e1 rows zs := by
  refine ⟨⟨fn, hf, by rw [hb]; rfl, hname⟩, fun st w vs he hv => ?_⟩
  rw [← callsIn_wide (n := 0)]
  refine callsIn_of_wp_marks hf hb trivial ?_
  have hwf : Fence.wide = WF none := rfl
  rw [hwf]
  obtain ⟨σ1, β1, hs1, h1⟩ := h _ _ _ _ (pin_sim (P := P) (N := fn.ntmps) he hv hp (by simpa using hN))
  refine wpIn_mono (awp_sound (c := ctx P gl st w fn.ntmps) (ρ := none) hm body hd (.inl rfl) h1 hs1) fun e a w' hq => ?_
  have fin : ∀ σ β a w', Sim (ctx P gl st w fn.ntmps) σ β a w' → postW t0 tl e0 e1 rows zs .ret σ → ∃ v, (results fn a.tmps).run P w' = .ok v w' ∧ ∃ (v0 : Value) (us vals : List Value), Ending.returned v = .returned (retV (v0 :: us)) ∧ Keep (fun _ => False) w w' ∧ F2 (RelA (fun _ => False) w') us zs ∧ vals.length = rows.length ∧
      ObRel (fun _ => undef) (fun _ => False) w' v0 (.log e0 1 (vals.map fun v => [.v v])) ∧ (∀ (i : Nat) (v : Value) (r : List Int), vals[i]? = some v → rows[i]? = some r → ObRel (fun _ => undef) (fun _ => False) w' v (.log e1 1 (r.map ienc))) ∧
      (∀ b, ownB v0 = some b → w.heap.size ≤ b) ∧ (∀ v ∈ vals, ∀ b, ownB v = some b → w.heap.size ≤ b) ∧ (∀ v ∈ vals, ∀ b, ownB v0 = some b → ownB v ≠ some b) ∧
      (∀ (i j : Nat) (v v' : Value) (b : Nat), vals[i]? = some v → vals[j]? = some v' → ownB v = some b → ownB v' = some b → i = j) := by
    intro σ β a w' hs ⟨q, vals, hq7, hreg, hmq, hmt, hl, hrows, htl⟩
    have hties := (hs.obj _ _ hmt).2
    have hv0 : a.tmps.getD t0 undef = β q := by
      have := hs.reg t0
      rw [hreg] at this
      exact this.inv_own
    have hflat : ∀ (x : List (List D)) (e : TypeId) (v : Value) (st : Nat → Prop), (∀ c ∈ x, ∀ d ∈ c, ∃ u, d = D.v u) → ObRel β st w' v (.log e 1 x) → ObRel (fun _ => undef) (fun _ => False) w' v (.log e 1 x) := fun x e v st hx ⟨cells, hr, hf, hall⟩ => ⟨cells, hr, ⟨hf.1, fun i u d hu hd => by
      have h1 := hf.2 i u d hu hd
      obtain ⟨l, hl, hdl⟩ := List.mem_flatten.1 (List.mem_of_getElem? hd)
      obtain ⟨u', rfl⟩ := hx l hl d hdl
      cases h1 with | v h => exact .v h⟩, hall⟩
    have hrow : ∀ (i : Nat) (v : Value), vals[i]? = some v → ∃ r, rows[i]? = some r ∧ σ.mem (710000 + i) = some (.log e1 1 (r.map ienc)) ∧ β (710000 + i) = v := fun i v hv => by
      have := (List.getElem?_eq_some_iff.1 hv).1
      have hr' : rows[i]? = some (rows[i]'(by omega)) := List.getElem?_eq_getElem _
      exact ⟨_, hr', hrows i _ hr', hties i v hv⟩
    have blk : ∀ o x b, σ.mem o = some x → ownB (β o) = some b → w.heap.size ≤ b := fun o x b hx hb => (hs.blk o x b hx hb).elim id fun hX => hX.1.elim
    refine ⟨retV (((t0 :: tl).map fun t => a.tmps.getD t undef)), ?_, β q, tl.map fun t => a.tmps.getD t undef, vals, by rw [List.map_cons, hv0], hs.keep, ⟨?_, fun i u z hu hzz => ?_⟩, hl, ?_, fun i v r hv hr' => ?_, fun b hb => blk q _ b hmq hb, fun v hv b hb => ?_, fun v hv b hb hb' => ?_, fun i j v v' b hv hv' hb hb' => ?_⟩
    · have hrun : (fn.results.mapM (resG a.tmps)).run P w' = .ok ((t0 :: tl).map fun t => a.tmps.getD t undef).toArray w' := by
        have e1 : ((t0 :: tl).map fun t => a.tmps.getD t undef) = fn.results.toList.map (resV P a.tmps w') := by
          rw [resT_at hr, List.map_map]; rfl
        rw [e1]
        exact run_mapM_arr _ (resV P a.tmps w') fun v hv => by
          have : v ∈ fn.results.toList := by simpa using hv
          rw [resT_at hr] at this
          obtain ⟨t, _, rfl⟩ := List.mem_map.1 this
          rfl
      have : results fn a.tmps = (do let vs ← fn.results.mapM (resG a.tmps); pure (if h : vs.size = 1 then vs[0] else .tuple vs)) := rfl
      rw [this, Sem.run_bind, hrun, Result.andThen_ok]
      show Result.ok _ _ = _
      congr 1
      cases tl with
      | nil => rfl
      | cons t tl => simp [retV]
    · have := congrArg List.length htl
      simpa using this
    · rw [List.getElem?_map] at hu
      obtain ⟨t, ht, rfl⟩ := Option.map_eq_some_iff.1 hu
      have h1 : (tl.map σ.regs)[i]? = (zs.map R.a)[i]? := by rw [htl]
      rw [List.getElem?_map, List.getElem?_map, ht, hzz] at h1
      have h2 := hs.reg t
      rw [Option.some.inj h1] at h2
      exact A.flat_rel (List.all_eq_true.1 hz z (List.mem_of_getElem? hzz)) h2.inv_a
    · exact hflat _ _ _ _ (fun c hc d hd => by
        obtain ⟨v, _, rfl⟩ := List.mem_map.1 hc
        exact ⟨v, by simpa using hd⟩) (hs.obj _ _ hmq)
    · obtain ⟨r', hr'', hm', hb⟩ := hrow i v hv
      rw [hr'] at hr''
      cases hr''
      rw [← hb]
      exact hflat _ _ _ _ (fun c hc d hd => by
        obtain ⟨n, _, rfl⟩ := List.mem_map.1 hc
        exact ⟨.int .i64 n, by simpa [ienc] using hd⟩) (hs.obj _ _ hm')
    · obtain ⟨i, hi⟩ := List.getElem?_of_mem hv
      obtain ⟨r', _, hm', hb'⟩ := hrow i v hi
      exact blk _ _ b hm' (by rw [hb']; exact hb)
    · obtain ⟨i, hi⟩ := List.getElem?_of_mem hv
      obtain ⟨r', _, hm', hb''⟩ := hrow i v hi
      have := hs.dis _ _ _ _ b hmq hm' hb (by rw [hb'']; exact hb')
      omega
    · obtain ⟨r1, _, hm1, h1⟩ := hrow i v hv
      obtain ⟨r2, _, hm2, h2⟩ := hrow j v' hv'
      have := hs.dis _ _ _ _ b hm1 hm2 (by rw [h1]; exact hb) (by rw [h2]; exact hb')
      omega
  cases e with
  | normal =>
    obtain ⟨σ, β, hs, hk⟩ := hq
    obtain ⟨Ds, hd, hm⟩ := hs.df
    rw [show (ctx P gl st w fn.ntmps).df = [] from rfl, List.append_nil] at hd
    show LeavesInM _ _ P fn a.tmps _ a.defers .returning w'
    rw [hd]
    exact marks_out rfl Ds hs hd hm fun a' w' _ _ hs' => fin σ β a' w' hs' hk
  | ret =>
    obtain ⟨σ, β, hs, hk⟩ := hq
    obtain ⟨Ds, hd, hm⟩ := hs.df
    rw [show (ctx P gl st w fn.ntmps).df = [] from rfl, List.append_nil] at hd
    show LeavesInM _ _ P fn a.tmps _ a.defers .returning w'
    rw [hd]
    exact marks_out rfl Ds hs hd hm fun a' w' _ _ hs' => fin σ β a' w' hs' hk
  | exit id => obtain ⟨σ, β, hs, hk⟩ := hq; exact hk.elim
  | goto l => exact hq.elim
  | panic ch => obtain ⟨_, _, _, _, _, _, _, _, hk⟩ := hq; exact hk.elim
  | outgrown => exact hq.elim
end Go.VC
end
section
set_option maxRecDepth 100000
set_option linter.unusedSimpArgs false
set_option linter.unusedVariables false
set_option linter.unnecessarySimpa false
namespace Go.VC
open Go.RowKit Go.Proofs Go.IntWalk
def freeX (after : List Nat) (left k i : Nat) : Bool := !(left.testBit i && (after.getD i 0).testBit k)
def freeE (after : List Nat) (left k : Nat) : Bool := (List.range after.length).all (freeX after left k)
theorem t135 (after : List Nat) (left k : Nat) (hl : after.length ≤ 30) (ha : ∀ b ∈ after, b < 2 ^ 32) (hw : left < 2 ^ 32) (hk : k < 32) : Holds Tryd.prog GL 119 [unsA after, U left, I k] [.a (B (freeE after left k))] := by
  refine fn_holds (vs := [.tmp 6]) (by kernel_rfl) Tryd.func119 rfl rfl (by kernel_rfl) (by kernel_rfl) rfl ?_
  have hfr : freeE after left k = (List.range after.length).all (freeX after left k) := rfl
  (refine rO ?_; repeat' ((with_reducible first | refine rG ?_ | (refine rS ?_ ?_ <;> intro hp) | (refine rB ?_ ?_ <;> intro hb <;> try rw [hb]) | refine rD ?_ | refine rA ?_ | fail) <;> try simp only [go_sem, simprocAttr, List.length_map]))
  refine awp_loopA (fun i : Nat => [(1, .a (U left)), (2, .a (I k)), (9, .a (unsA after)), (10, .a (I after.length)), (11, .a (I i))]) (fun _ => []) (fun i => i ≤ after.length ∧ ∀ q, q < i → freeX after left k q = true) (after.length - ·) 0 ?_ ?_ ⟨Nat.zero_le _, fun i hi => by omega⟩ ?_
  · simp only [go_sem, simprocAttr, List.length_map]
  · simp only [go_sem, simprocAttr]
  intro i j ⟨hi, hq⟩
  (refine rO ?_; repeat' ((with_reducible first | refine rG ?_ | (refine rS ?_ ?_ <;> intro hp) | (refine rB ?_ ?_ <;> intro hb <;> try rw [hb]) | refine rD ?_ | refine rA ?_ | fail) <;> try simp only [go_sem, simprocAttr]))
  · have hil : i < after.length := by omega
    have hwi := wrap_succ (n := after.length) hil (by simp only [maxLen]; omega)
    have hx : after[i]? = some after[i] := List.getElem?_eq_getElem hil
    have hb0 : freeX after left k i = !(left.testBit i && after[i].testBit k) := by simp [freeX, hil]
    have hb32 := ha _ (List.getElem_mem hil)
    generalize after[i] = b at hx hb0 hb32
    have h2 := u32_bit (k := i) hw
    have h3 := u32_bit (k := k) hb32
    have s1 := u32_shr (b := left) (k := i) (by omega)
    have s2 := u32_shr (b := b) (k := k) hk
    cases hc1 : left.testBit i with
    | false =>
      rw [hc1] at h2 hb0
      simp only [Bool.false_eq_true, if_false] at h2
      (refine rO ?_; repeat' ((with_reducible first | refine rG ?_ | (refine rS ?_ ?_ <;> intro hp) | (refine rB ?_ ?_ <;> intro hb <;> try rw [hb]) | refine rD ?_ | refine rA ?_ | fail) <;> try simp only [go_sem, simprocAttr, hx, uenc_eq, s1, h2, hwi]))
      (refine ⟨i + 1, ?_, ?_, ⟨hil, nx_all hq hb0⟩, by dsimp only; omega⟩ <;> simp only [go_sem, simprocAttr, hwi])
    | true =>
      rw [hc1] at h2 hb0
      simp only [if_true] at h2
      cases hc2 : b.testBit k with
      | false =>
        rw [hc2] at h3 hb0
        simp only [Bool.false_eq_true, if_false] at h3
        (refine rO ?_; repeat' ((with_reducible first | refine rG ?_ | (refine rS ?_ ?_ <;> intro hp) | (refine rB ?_ ?_ <;> intro hb <;> try rw [hb]) | refine rD ?_ | refine rA ?_ | fail) <;> try simp only [go_sem, simprocAttr, hx, uenc_eq, s1, s2, h2, h3, hwi]))
        (refine ⟨i + 1, ?_, ?_, ⟨hil, nx_all hq hb0⟩, by dsimp only; omega⟩ <;> simp only [go_sem, simprocAttr, hwi])
      | true =>
        rw [hc2] at h3 hb0
        simp only [if_true] at h3
        (refine rO ?_; repeat' ((with_reducible first | refine rG ?_ | (refine rS ?_ ?_ <;> intro hp) | (refine rB ?_ ?_ <;> intro hb <;> try rw [hb]) | refine rD ?_ | refine rA ?_ | fail) <;> try simp only [go_sem, simprocAttr, hx, uenc_eq, s1, s2, h2, h3, hwi]))
        rw [hfr]
        symm
        rw [List.all_eq_false]
        exact ⟨i, List.mem_range.2 hil, by rw [hb0]; simp⟩
  · rw [hfr]
    symm
    rw [List.all_eq_true]
    exact fun q hq' => hq q (by have := List.mem_range.1 hq'; omega)
end Go.VC
end
section
set_option maxRecDepth 100000
set_option linter.unusedSimpArgs false
set_option linter.unusedVariables false
set_option linter.unnecessarySimpa false
set_option linter.defProp false
namespace Go.VC
open Go.RowKit Go.Proofs
def QhG (c : Cx) (Q : Ex → S → Prop) (l : Nat) (J : S → Prop) : Exit → Act → World → Prop
  | .goto l', a, w => l' = l ∧ ∃ σ β, Sim c σ β a w ∧ J σ
  | e, a, w => Qh c Q e a w
/-- A piece of code that may jump to a label. -/
def SemG (P : Program) (gl : Nat → Option (List D)) (code : Code) (Q : Ex → S → Prop) (l : Nat) (J : S → Prop) (σ : S) : Prop :=
  ∀ (c : Cx) (β : Nat → Value) (a : Act) (w : World) (ρ : Option Nat) (n : Nat), c.P = P → c.gl = gl → c.P.follows .mixedOrders = true → dstOK c.N code = true → (ρ = none ∨ noRng code = true) → Sim c σ β a w → code.wpIn (WF ρ) n c.P (QhG c Q l J) a w
section
variable {P : Program} {gl : Nat → Option (List D)} {Q : Ex → S → Prop} {l : Nat} {J : S → Prop} {σ : S}
theorem sg_awp {code : Code} (h : awp P gl code Q σ) : SemG P gl code Q l J σ := fun c β a w ρ n hP hgl hm hd hp hs => by
  subst hP; subst hgl
  refine wpIn_mono (awp_sound hm code hd hp h hs) fun e a w hq => ?_
  cases e <;> first | exact hq | exact hq.elim
theorem sg_seq {x y : Code} (h : SemG P gl x (Ex.then (fun σ' => SemG P gl y Q l J σ') Q) l J σ) : SemG P gl (.seq x y) Q l J σ := fun c β a w ρ n hP hgl hm hd hp hs => by
  simp only [dstOK, Bool.and_eq_true] at hd
  refine wpIn_seq (wpIn_mono (h c β a w ρ n hP hgl hm hd.1 (np_l hp) hs) fun e a w he => ?_)
  cases e with
  | normal => obtain ⟨σ', β', hs', hk⟩ := he; exact hk c β' a w ρ n hP hgl hm hd.2 (np_r hp) hs'
  | exit id => exact he
  | ret => exact he
  | goto l => exact he
  | panic ch => exact he
  | outgrown => exact he
theorem sg_cond {x : Operand} {y z : Code} {b : Bool} (hb : σ.eval gl x = .a (.d (.v (.bool b)))) (hy : b = true → SemG P gl y Q l J σ) (hz : b = false → SemG P gl z Q l J σ) : SemG P gl (.cond x y z) Q l J σ := fun c β a w ρ n hP hgl hm hd hp hs => by
  simp only [dstOK, Bool.and_eq_true] at hd
  have hv := hs.eval x
  rw [hgl, hb] at hv
  exact wpIn_cond_split hv.inv_v (fun e => hy e c β a w ρ n hP hgl hm hd.1 (np_l hp) hs) (fun e => hz e c β a w ρ n hP hgl hm hd.2 (np_r hp) hs)
theorem sg_block {id : Nat} {x : Code} (h : SemG P gl x (Ex.inBlock id Q) l J σ) : SemG P gl (.block id x) Q l J σ := fun c β a w ρ n hP hgl hm hd hp hs => by
  refine wpIn_block (wpIn_mono (h c β a w ρ n hP hgl hm hd hp hs) fun e a w he => ?_)
  cases e with
  | normal => exact he
  | exit id' =>
    obtain ⟨σ', β', hs', hk⟩ := he
    simp only [Ex.inBlock] at hk
    simp only [Exit.inBlock]
    split at hk
    · rw [if_pos ‹_›]; exact ⟨σ', β', hs', hk⟩
    · rw [if_neg ‹_›]; exact ⟨σ', β', hs', hk⟩
  | ret => exact he
  | goto l => exact he
  | panic ch => exact he
  | outgrown => exact he
theorem sg_goto (h : J σ) : SemG P gl (.goto l) Q l J σ := fun c β a w ρ n hP hgl hm hd hp hs => wpIn_goto ⟨rfl, σ, β, hs, h⟩
theorem sg_loop {α : Type} (Inv : α → S → Prop) (m : α → Nat) {x : Code} (a0 : α) (h0 : ∃ σ', Ghost σ σ' ∧ Inv a0 σ')
    (h : ∀ a τ, Inv a τ → SemG P gl x (Ex.then (fun σ' => ∃ σ'' a', Ghost σ' σ'' ∧ Inv a' σ'' ∧ m a' < m a) Q) l J τ) : SemG P gl (.loop x) Q l J σ := by
  intro c β a w ρ n hP hgl hm hd hp hs b k cs hro hb hr
  have key : ∀ (N : Nat) (a0 : α) (τ : S) (β : Nat → Value) (a : Act) (w : World), m a0 = N → Inv a0 τ → Sim c τ β a w →
      ∃ e a' w', QhG c Q l J e a' w' ∧ ArrivesIn (Machine.fenced c.P (WF ρ)) c.P (lone (b.atR a (.code x :: .inLoop x :: k)) cs w) b k cs e a' w' := by
    intro N
    induction N using Nat.strongRecOn with
    | _ N ih =>
      intro a0 τ β a w hN hI hs
      obtain ⟨e, a₁, w₁, hq, harr⟩ := h a0 τ hI c β a w ρ n hP hgl hm hd hp hs b (.inLoop x :: k) cs hro hb hr
      cases e with
      | normal =>
        obtain ⟨σ', β', hs', σ'', a', hg, hI', hlt⟩ := hq
        obtain ⟨β'', hs''⟩ := hg c β' a₁ w₁ hs'
        obtain ⟨e₂, a₂, w₂, hq₂, harr₂⟩ := ih (m a') (by omega) a' σ'' β'' a₁ w₁ rfl hI' hs''
        exact ⟨e₂, a₂, w₂, hq₂, .of_steps (StepsIn.trans harr (.one (fenced_calm hb hr rfl) stepR_inLoop)) harr₂⟩
      | exit id => exact ⟨.exit id, a₁, w₁, hq, .pass (x := .inLoop x) rfl (fun _ _ => .inl (by simp)) harr⟩
      | ret => exact ⟨.ret, a₁, w₁, hq, .pass (x := .inLoop x) rfl (fun _ _ => .inl (by simp)) harr⟩
      | goto l => exact ⟨.goto l, a₁, w₁, hq, .pass (x := .inLoop x) rfl (fun _ _ => .inl (by simp)) harr⟩
      | panic ch => exact ⟨.panic ch, a₁, w₁, hq, .pass (x := .inLoop x) rfl (fun _ _ => .inl (by simp)) harr⟩
      | outgrown => exact hq.elim
  obtain ⟨σ', hg, hI⟩ := h0
  obtain ⟨β', hs'⟩ := hg c β a w hs
  obtain ⟨e, a', w', hq, harr⟩ := key _ a0 σ' β' a w rfl hI hs'
  exact ⟨e, a', w', hq, .of_steps (.one (fenced_calm hb hr rfl) stepR_loop) harr⟩
/-- What holds at each jump: Inv, of something that goes down. -/
theorem sem_scope {α : Type} (Inv : α → S → Prop) (m : α → Nat) {x rest : Code} (hf : findLabel x l = none) (h1 : awp P gl x (Ex.then (fun σ' => ∃ a, Inv a σ') Q) σ)
    (hpass : ∀ a τ, Inv a τ → SemG P gl rest Q l (fun σ' => ∃ a', Inv a' σ' ∧ m a' < m a) τ) : SemCode P gl (.scope (.seq x (.seq (.label l) rest))) Q σ := by
  intro c β a w ρ n hP hgl hm hd hp hs fr k cs hro hb hr
  subst hP; subst hgl
  simp only [dstOK, Bool.and_eq_true] at hd
  have hpx : ρ = none ∨ noRng x = true := hp.imp id fun h => by simp only [noRng, Bool.and_eq_true] at h; exact h.1
  have hpr : ρ = none ∨ noRng rest = true := hp.imp id fun h => by simp only [noRng, Bool.and_eq_true] at h; exact h.2.2
  have hg : gotoIn l (.inScope (.seq x (.seq (.label l) rest)) :: k) = some (.code (.seq .skip rest) :: .inScope (.seq x (.seq (.label l) rest)) :: k) := by simp [gotoIn, findLabel, hf]
  have s1 : ∀ a w, step c.P (lone (fr.atR a (.inScope (.seq x (.seq (.label l) rest)) :: k)) cs w) = .next (lone (fr.atR a k) cs w) := fun a w => step_lone_go (by simp [Go.stepG, Go.stepG.exec, Frame.atR])
  have hx : ∀ id, exitTo id (.inScope (.seq x (.seq (.label l) rest)) :: k) = exitTo id k := fun id => by simp [exitTo]
  have key : ∀ (N : Nat) (a0 : α) (τ : S) (β : Nat → Value) (a : Act) (w : World), m a0 = N → Inv a0 τ → Sim c τ β a w →
      ∃ e a' w', Qh c Q e a' w' ∧ ArrivesIn (Machine.fenced c.P (WF ρ)) c.P (lone (fr.atR a (.code rest :: .inScope (.seq x (.seq (.label l) rest)) :: k)) cs w) fr k cs e a' w' := by
    intro N
    induction N using Nat.strongRecOn with
    | _ N ih =>
      intro a0 τ β a w hN hI hs
      obtain ⟨e, a₁, w₁, hq, harr⟩ := hpass a0 τ hI c β a w ρ n rfl rfl hm hd.2.2 hpr hs fr (.inScope (.seq x (.seq (.label l) rest)) :: k) cs hro hb hr
      cases e with
      | normal => exact ⟨.normal, a₁, w₁, hq, StepsIn.trans harr (.one (fenced_calm hb hr rfl) (s1 _ _))⟩
      | exit id =>
        exact ⟨.exit id, a₁, w₁, hq, fun k' hk => harr.1 k' (by rw [hx]; exact hk), fun hr' hk => harr.2 hr' (by rw [hx]; exact hk)⟩
      | goto l' =>
        obtain ⟨rfl, σ', β', hs', a', hI', hlt⟩ := hq
        obtain ⟨e₂, a₂, w₂, hq₂, harr₂⟩ := ih (m a') (by omega) a' σ' β' a₁ w₁ rfl hI' hs'
        refine ⟨e₂, a₂, w₂, hq₂, .of_steps (harr.1 _ hg) (.of_steps (.head (fenced_calm hb hr rfl) stepR_seq (.one (fenced_calm hb hr rfl) stepR_skip)) harr₂)⟩
      | ret => exact ⟨.ret, a₁, w₁, hq, harr⟩
      | panic ch => exact ⟨.panic ch, a₁, w₁, hq, harr⟩
      | outgrown => exact hq.elim
  have h0 : (lone (fr.atR a (.code (.scope (.seq x (.seq (.label l) rest))) :: k)) cs w).fenced c.P (WF ρ) := fenced_calm hb hr rfl
  have s0 : step c.P (lone (fr.atR a (.code (.scope (.seq x (.seq (.label l) rest))) :: k)) cs w) = .next (lone (fr.atR a (.code (.seq x (.seq (.label l) rest)) :: .inScope (.seq x (.seq (.label l) rest)) :: k)) cs w) := step_lone_go (by simp [Go.stepG, Go.stepG.exec, Frame.atR])
  obtain ⟨e, a₁, w₁, hq, harr⟩ := awp_sound hm x hd.1 hpx h1 hs fr (.code (.seq (.label l) rest) :: .inScope (.seq x (.seq (.label l) rest)) :: k) cs hro hb hr
  have hx2 : ∀ id, exitTo id (.code (.seq (.label l) rest) :: .inScope (.seq x (.seq (.label l) rest)) :: k) = exitTo id k := fun id => by simp [exitTo]
  cases e with
  | normal =>
    obtain ⟨σ', β', hs', a0, hI⟩ := hq
    obtain ⟨e₂, a₂, w₂, hq₂, harr₂⟩ := key _ a0 σ' β' a₁ w₁ rfl hI hs'
    refine ⟨e₂, a₂, w₂, hq₂, .of_steps (.head h0 s0 (.head (fenced_calm hb hr rfl) stepR_seq (StepsIn.trans harr (.head (fenced_calm hb hr rfl) stepR_seq (.one (fenced_calm hb hr rfl) stepR_label))))) harr₂⟩
  | exit id =>
    exact ⟨.exit id, a₁, w₁, hq, fun k' hk => .head h0 s0 (.head (fenced_calm hb hr rfl) stepR_seq (harr.1 k' (by rw [hx2]; exact hk))),
      fun hr' hk => let ⟨k₁, g1, g2⟩ := harr.2 hr' (by rw [hx2]; exact hk); ⟨k₁, g1, .head h0 s0 (.head (fenced_calm hb hr rfl) stepR_seq g2)⟩⟩
  | goto l' => exact hq.elim
  | ret => exact ⟨.ret, a₁, w₁, hq, .of_steps (.head h0 s0 (.one (fenced_calm hb hr rfl) stepR_seq)) harr⟩
  | panic ch => exact ⟨.panic ch, a₁, w₁, hq, .of_steps (.head h0 s0 (.one (fenced_calm hb hr rfl) stepR_seq)) harr⟩
  | outgrown => exact hq.elim
end
end Go.VC
end
section
set_option maxRecDepth 100000
set_option linter.unusedSimpArgs false
set_option linter.unusedVariables false
set_option linter.unnecessarySimpa false
set_option linter.defProp false
namespace Go.VC
open Go.RowKit Go.Proofs Go.IntWalk
def cntB : Nat → Nat → Nat
  | 0, _ => 0
  | n + 1, b => cntB n b + if b.testBit n then 1 else 0
theorem cntB_ext {a b : Nat} : ∀ {n : Nat}, (∀ q, q < n → a.testBit q = b.testBit q) → cntB n a = cntB n b
  | 0, _ => rfl
  | n + 1, h => by rw [cntB, cntB, cntB_ext fun q hq => h q (by omega), h n (by omega)]
theorem cntB_clr {b k : Nat} (hb : b.testBit k = true) : ∀ {n : Nat}, k < n → cntB n (andN b (2 ^ k)) + 1 = cntB n b
  | n + 1, h => by
    rw [cntB, cntB]
    by_cases e : k = n
    · subst e
      rw [cntB_ext (a := andN b (2 ^ k)) (b := b) fun q hq => by
        rw [andN_bit, Nat.testBit_two_pow]
        have : ¬ k = q := by omega
        simp [this]]
      rw [andN_bit, hb, Nat.testBit_two_pow]
      simp
    · have := cntB_clr hb (n := n) (by omega)
      rw [show (andN b (2 ^ k)).testBit n = b.testBit n by
        rw [andN_bit, Nat.testBit_two_pow]; simp [e]]
      omega
theorem cntB_zero {b : Nat} : ∀ {n : Nat}, cntB n b = 0 → ∀ q, q < n → b.testBit q = false
  | n + 1, h, q, hq => by
    rw [cntB] at h
    by_cases e : q = n
    · subst e
      cases hc : b.testBit q with
      | false => rfl
      | true => rw [hc] at h; simp at h
    · exact cntB_zero (n := n) (by omega) q (by omega)
theorem bits_zero {b n : Nat} (hb : b < 2 ^ n) (h : ∀ q, q < n → b.testBit q = false) : b = 0 := Nat.eq_of_testBit_eq fun q => by
  rw [Nat.zero_testBit]
  by_cases hq : q < n
  · exact h q hq
  · exact Nat.testBit_lt_two_pow (Nat.lt_of_lt_of_le hb (Nat.pow_le_pow_right (by omega) (by omega)))
theorem cntB_all : ∀ n m : Nat, n ≤ m → cntB n (2 ^ m - 1) = n
  | 0, _, _ => rfl
  | n + 1, m, h => by
    rw [cntB, cntB_all n m (by omega), Nat.testBit_two_pow_sub_one]
    simp; omega
theorem andN_lt2 {a b n : Nat} (ha : a < 2 ^ n) : andN a b < 2 ^ n := Nat.xor_lt_two_pow ha (Nat.lt_of_le_of_lt Nat.and_le_left ha)
theorem two6 {n : Nat} (h : n ≤ 6) : 2 ^ n ≤ 64 := Nat.pow_le_pow_right (n := 2) (by omega) h
theorem u32_mask1 {m : Nat} (hm : m < 32) : IntKind.u32.wrap (((2 ^ m : Nat) : Int) - 1) = ((2 ^ m - 1 : Nat) : Int) := by
  have h1 : 0 < 2 ^ m := Nat.pow_pos (by omega)
  have h2 : (2 : Nat) ^ m ≤ 2 ^ 31 := Nat.pow_le_pow_right (by omega) (by omega)
  generalize 2 ^ m = q at h1 h2 ⊢
  rw [u32_in _ (by omega)]; omega
/-- A place that none that is left is before. -/
def extS (after : List Nat) (left k : Nat) : Bool := left.testBit k && freeE after left k
def cycF (after : List Nat) : Nat → Nat → Nat
  | 0, left => left
  | f + 1, left => match (List.range after.length).find? (extS after left) with
    | none => left
    | some k => cycF after f (andN left (2 ^ k))
def cycE (after : List Nat) : Bool := !decide (cycF after after.length (2 ^ after.length - 1) = 0)
def oddA (after : List Nat) (a : Nat) : Bool := !decide (a / 2 ^ after.length = 0)
def mayX (after : List Nat) : Nat := if after.length > 6 ∨ after.any (oddA after) = true then 1 else if cycE after = true then 8 else 0
theorem cyc_none {after : List Nat} {f left : Nat} (h : ∀ q, q < after.length → extS after left q = false) : cycF after f left = left := by
  cases f with
  | zero => rfl
  | succ f =>
    have : (List.range after.length).find? (extS after left) = none := by
      rw [List.find?_eq_none]; intro q hq; rw [h q (List.mem_range.1 hq)]; simp
    rw [cycF, this]
theorem find_hit {p : Nat → Bool} {n k : Nat} (hk : k < n) (hq : ∀ q, q < k → p q = false) (hp : p k = true) : (List.range n).find? p = some k := by
  rw [List.find?_eq_some_iff_getElem]
  refine ⟨hp, k, by simpa using hk, by simp, fun j hj => ?_⟩
  rw [List.getElem_range, hq j (by omega)]; rfl
theorem cyc_some {after : List Nat} {left k : Nat} (hk : k < after.length) (hq : ∀ q, q < k → extS after left q = false) (hp : extS after left k = true) : cycF after (cntB after.length left) left = cycF after (cntB after.length (andN left (2 ^ k))) (andN left (2 ^ k)) := by
  have hb : left.testBit k = true := by simp only [extS, Bool.and_eq_true] at hp; exact hp.1
  rw [← cntB_clr hb hk, cycF, find_hit hk hq hp]
theorem nx_no {p : Nat → Bool} {i : Nat} (h : ∀ q, q < i → p q = false) (hi : p i = false) : ∀ q, q < i + 1 → p q = false := fun q hq => by
  rcases Nat.lt_succ_iff_lt_or_eq.1 hq with h1 | rfl
  · exact h q h1
  · exact hi
structure CyI (after : List Nat) (left : Nat) (σ : S) : Prop where
  r0 : σ.regs 0 = .a (unsA after)
  r3 : σ.regs 3 = .a (U left)
  lt : left < 2 ^ after.length
  eq : cycF after (cntB after.length left) left = cycF after after.length (2 ^ after.length - 1)
structure CyJ (after : List Nat) (left i : Nat) (σ : S) : Prop where
  r0 : σ.regs 0 = .a (unsA after)
  r3 : σ.regs 3 = .a (U left)
  r10 : σ.regs 10 = .a (I after.length)
  r11 : σ.regs 11 = .a (I i)
  le : i ≤ after.length
  no : ∀ q, q < i → extS after left q = false
theorem t115 (after : List Nat) (hl : after.length ≤ 6) (ha : ∀ b ∈ after, b < 2 ^ 32) : Holds Tryd.prog GL 86 [unsA after] [.a (B (cycE after))] := by
  refine fn_holds (vs := [.tmp 2]) (by kernel_rfl) Tryd.func86 rfl rfl (by kernel_rfl) (by kernel_rfl) rfl ?_
  have h6 := two6 hl
  have h1 : 1 ≤ 2 ^ after.length := Nat.one_le_two_pow
  have hm := u32_mask1 (m := after.length) (by omega)
  (refine rO ?_; repeat' ((with_reducible first | refine rG ?_ | (refine rS ?_ ?_ <;> intro hp) | (refine rB ?_ ?_ <;> intro hb <;> try rw [hb]) | refine rD ?_ | refine rA ?_ | fail) <;> try simp only [go_sem, simprocAttr]))
  refine sem_scope (α := Nat) (CyI after) (cntB after.length) rfl ?_ fun left τ hI => ?_
  · (refine rO ?_; repeat' ((with_reducible first | refine rG ?_ | (refine rS ?_ ?_ <;> intro hp) | (refine rB ?_ ?_ <;> intro hb <;> try rw [hb]) | refine rD ?_ | refine rA ?_ | fail) <;> try simp only [go_sem, simprocAttr, List.length_map, u32_shl (k := after.length) (by omega), hm]))
    refine ⟨2 ^ after.length - 1, ?_, ?_, by omega, by rw [cntB_all _ _ (Nat.le_refl _)]⟩
    · simp only [go_sem, simprocAttr]
    · simp only [go_sem, simprocAttr]
  obtain ⟨r0, r3, lt, eq⟩ := hI
  have hw : left < 2 ^ 32 := by omega
  refine sg_seq (sg_seq (sg_awp ?_))
  (refine rO ?_; repeat' ((with_reducible first | refine rG ?_ | (refine rS ?_ ?_ <;> intro hp) | (refine rB ?_ ?_ <;> intro hb <;> try rw [hb]) | refine rD ?_ | refine rA ?_ | fail) <;> try simp only [go_sem, simprocAttr, List.length_map, r0, r3]))
  refine sg_block (sg_loop (α := Nat) (CyJ after left) (after.length - ·) 0 ⟨_, Ghost.refl _, ?_, ?_, ?_, ?_, Nat.zero_le _, fun q hq => by omega⟩ fun i τ2 hJ => ?_)
  iterate 4 (· simp only [go_sem, simprocAttr, r0, r3])
  obtain ⟨r0, r3, r10, r11, le, no⟩ := hJ
  refine sg_seq (sg_awp ?_)
  (refine rO ?_; repeat' ((with_reducible first | refine rG ?_ | (refine rS ?_ ?_ <;> intro hp) | (refine rB ?_ ?_ <;> intro hb <;> try rw [hb]) | refine rD ?_ | refine rA ?_ | fail) <;> try simp only [go_sem, simprocAttr, r0, r3, r10, r11]))
  · have hil : i < after.length := by omega
    have hwi := wrap_succ (n := after.length) hil (by simp only [maxLen]; omega)
    have hfree := t135 after left i (by omega) ha hw (by omega)
    have h2 := u32_bit (k := i) hw
    have s1 := u32_shr (b := left) (k := i) (by omega)
    have hX : extS after left i = (left.testBit i && freeE after left i) := rfl
    refine sg_seq (sg_cond (b := true) (by simp only [go_sem, simprocAttr]) (fun _ => sg_awp ?_) (fun h => by cases h))
    (refine rO ?_; repeat' ((with_reducible first | refine rG ?_ | (refine rS ?_ ?_ <;> intro hp) | (refine rB ?_ ?_ <;> intro hb <;> try rw [hb]) | refine rD ?_ | refine rA ?_ | fail) <;> try simp only [go_sem, simprocAttr]))
    refine sg_seq (sg_block (sg_seq (sg_awp ?_)))
    (refine rO ?_; repeat' ((with_reducible first | refine rG ?_ | (refine rS ?_ ?_ <;> intro hp) | (refine rB ?_ ?_ <;> intro hb <;> try rw [hb]) | refine rD ?_ | refine rA ?_ | fail) <;> try simp only [go_sem, simprocAttr, r0, r3, r10, r11]))
    refine sg_seq (sg_awp ?_)
    cases hc1 : left.testBit i with
    | false =>
      rw [hc1] at h2 hX
      simp only [Bool.false_eq_true, if_false] at h2
      (refine rO ?_; repeat' ((with_reducible first | refine rG ?_ | (refine rS ?_ ?_ <;> intro hp) | (refine rB ?_ ?_ <;> intro hb <;> try rw [hb]) | refine rD ?_ | refine rA ?_ | fail) <;> try simp only [go_sem, simprocAttr, r0, r3, r10, r11, s1, h2]))
      refine sg_cond (b := false) (by simp only [go_sem, simprocAttr]) (fun h => by cases h) (fun _ => sg_awp ?_)
      (refine rO ?_; repeat' ((with_reducible first | refine rG ?_ | (refine rS ?_ ?_ <;> intro hp) | (refine rB ?_ ?_ <;> intro hb <;> try rw [hb]) | refine rD ?_ | refine rA ?_ | fail) <;> try simp only [go_sem, simprocAttr]))
      refine sg_awp ?_
      (refine rO ?_; repeat' ((with_reducible first | refine rG ?_ | (refine rS ?_ ?_ <;> intro hp) | (refine rB ?_ ?_ <;> intro hb <;> try rw [hb]) | refine rD ?_ | refine rA ?_ | fail) <;> try simp only [go_sem, simprocAttr, r0, r3, r10, r11, hwi]))
      exact ⟨_, i + 1, Ghost.refl _, ⟨by simp only [go_sem, simprocAttr, r0], by simp only [go_sem, simprocAttr, r3], by simp only [go_sem, simprocAttr, r10], by simp only [go_sem, simprocAttr, hwi], hil, nx_no no hX⟩, by omega⟩
    | true =>
      rw [hc1] at h2 hX
      simp only [if_true] at h2
      have hfr := hfree
      cases hc2 : freeE after left i with
      | false =>
        rw [hc2] at hfr hX
        (refine rO ?_; repeat' ((with_reducible first | refine rG ?_ | (refine rS ?_ ?_ <;> intro hp) | (refine rB ?_ ?_ <;> intro hb <;> try rw [hb]) | refine rD ?_ | refine rA ?_ | fail) <;> try simp only [go_sem, simprocAttr, r0, r3, r10, r11, s1, h2]))
        refine call_dat hfr ?_
        (refine rO ?_; repeat' ((with_reducible first | refine rG ?_ | (refine rS ?_ ?_ <;> intro hp) | (refine rB ?_ ?_ <;> intro hb <;> try rw [hb]) | refine rD ?_ | refine rA ?_ | fail) <;> try simp only [go_sem, simprocAttr, r0, r3, r10, r11, s1, h2]))
        refine sg_cond (b := false) (by simp only [go_sem, simprocAttr]) (fun h => by cases h) (fun _ => sg_awp ?_)
        (refine rO ?_; repeat' ((with_reducible first | refine rG ?_ | (refine rS ?_ ?_ <;> intro hp) | (refine rB ?_ ?_ <;> intro hb <;> try rw [hb]) | refine rD ?_ | refine rA ?_ | fail) <;> try simp only [go_sem, simprocAttr]))
        refine sg_awp ?_
        (refine rO ?_; repeat' ((with_reducible first | refine rG ?_ | (refine rS ?_ ?_ <;> intro hp) | (refine rB ?_ ?_ <;> intro hb <;> try rw [hb]) | refine rD ?_ | refine rA ?_ | fail) <;> try simp only [go_sem, simprocAttr, r0, r3, r10, r11, hwi]))
        exact ⟨_, i + 1, Ghost.refl _, ⟨by simp only [go_sem, simprocAttr, r0], by simp only [go_sem, simprocAttr, r3], by simp only [go_sem, simprocAttr, r10], by simp only [go_sem, simprocAttr, hwi], hil, nx_no no hX⟩, by omega⟩
      | true =>
        rw [hc2] at hfr hX
        have hb := u32_andn (a := left) (b := 2 ^ i) hw (Nat.pow_lt_pow_right (by omega) (by omega))
        (refine rO ?_; repeat' ((with_reducible first | refine rG ?_ | (refine rS ?_ ?_ <;> intro hp) | (refine rB ?_ ?_ <;> intro hb <;> try rw [hb]) | refine rD ?_ | refine rA ?_ | fail) <;> try simp only [go_sem, simprocAttr, r0, r3, r10, r11, s1, h2]))
        refine call_dat hfr ?_
        (refine rO ?_; repeat' ((with_reducible first | refine rG ?_ | (refine rS ?_ ?_ <;> intro hp) | (refine rB ?_ ?_ <;> intro hb <;> try rw [hb]) | refine rD ?_ | refine rA ?_ | fail) <;> try simp only [go_sem, simprocAttr, r0, r3, r10, r11, s1, h2]))
        refine sg_cond (b := true) (by simp only [go_sem, simprocAttr]) (fun _ => sg_seq (sg_awp ?_)) (fun h => by cases h)
        (refine rO ?_; repeat' ((with_reducible first | refine rG ?_ | (refine rS ?_ ?_ <;> intro hp) | (refine rB ?_ ?_ <;> intro hb <;> try rw [hb]) | refine rD ?_ | refine rA ?_ | fail) <;> try simp only [go_sem, simprocAttr, r0, r3, r10, r11, u32_shl (k := i) (by omega), hb]))
        refine sg_goto ⟨andN left (2 ^ i), ⟨by simp only [go_sem, simprocAttr, r0], by simp only [go_sem, simprocAttr], andN_lt2 lt, by rw [← cyc_some hil no hX]; exact eq⟩, ?_⟩
        have := cntB_clr hc1 hil
        omega
  · have hi : i = after.length := by omega
    refine sg_seq (sg_cond (b := false) (by simp only [go_sem, simprocAttr]) (fun h => by cases h) (fun _ => sg_awp ?_))
    (refine rO ?_; repeat' ((with_reducible first | refine rG ?_ | (refine rS ?_ ?_ <;> intro hp) | (refine rB ?_ ?_ <;> intro hb <;> try rw [hb]) | refine rD ?_ | refine rA ?_ | fail) <;> try simp only [go_sem, simprocAttr]))
    refine sg_awp ?_
    have hf : cycF after (cntB after.length left) left = left := cyc_none (by rw [← hi]; exact no)
    have hr : cycE after = !decide (left = 0) := by rw [cycE, ← eq, hf]
    (refine rO ?_; repeat' ((with_reducible first | refine rG ?_ | (refine rS ?_ ?_ <;> intro hp) | (refine rB ?_ ?_ <;> intro hb <;> try rw [hb]) | refine rD ?_ | refine rA ?_ | fail) <;> try simp only [go_sem, simprocAttr, r0, r3, hr]))
    all_goals simp_all
end Go.VC
end
section
set_option maxRecDepth 100000
set_option linter.unusedSimpArgs false
set_option linter.unusedVariables false
set_option linter.unnecessarySimpa false
namespace Go.VC
open Go.RowKit Go.Proofs
section
variable {c : Cx} {σ : S} {β : Nat → Value} {a : Act} {w : World}
theorem anyI_sound {ρ : Option Nat} {n : Nat} {ops : Array Oper} {Q : Exit → Act → World → Prop} {D : List Deferred} (I : Array Bool → S → Prop) (hd : ∀ o ∈ ops.toList, ∀ d, o.dst = some d → d < c.N)
    (hfin : ∀ listed σ β a w, Sim c σ β a w → a.defers = D → Region.ready .any ops listed = [] → I listed σ → Q .normal a w)
    (hstep : ∀ listed σ i o, i ∈ Region.ready .any ops listed → ops[i]? = some o → I listed σ → opsA c.P c.gl ops [o] σ (I (listed.setIfInBounds i true))) :
    ∀ (fuel : Nat) (listed : Array Bool) {σ : S} {β : Nat → Value} {a : Act} {w : World} (U : List Nat), U.length ≤ fuel → (∀ i, listed.getD i true = false → i ∈ U) → Sim c σ β a w → a.defers = D → I listed σ → wpAnyIn (WF ρ) n c.P .any ops Q fuel listed a w
  | 0, listed, σ, β, a, w, U, hU, hin, h, hDf, hk => by
    have hr : Region.ready .any ops listed = [] := List.eq_nil_iff_forall_not_mem.2 fun i hi => by
      have := hin i (mem_ready.1 hi).1
      rw [List.eq_nil_of_length_eq_zero (Nat.le_zero.1 hU)] at this
      cases this
    exact ⟨hr, hfin _ σ β a w h hDf hr hk⟩
  | fuel + 1, listed, σ, β, a, w, U, hU, hin, h, hDf, hk => by
    refine ⟨fun hr => hfin _ σ β a w h hDf hr hk, fun i hi => ?_⟩
    obtain ⟨hun, o, ho, _⟩ := mem_ready.1 hi
    have hst := hstep listed σ i o hi ho hk
    have hdo := hd o (by rw [Array.mem_toList_iff]; exact Array.mem_of_getElem? ho)
    have hiU := hin i hun
    have hU' : (U.erase i).length ≤ fuel := by
      have := List.length_erase_of_mem hiU
      have := List.length_pos_of_mem hiU
      omega
    have hin' : ∀ k, (listed.setIfInBounds i true).getD k true = false → k ∈ U.erase i := fun k hk' => by
      by_cases e : i = k
      · subst e
        rw [Array.getD_eq_getD_getElem?, Array.getElem?_setIfInBounds, if_pos rfl] at hk'
        split at hk' <;> simp at hk'
      · rw [getD_set_ne true e] at hk'
        exact (List.mem_erase_of_ne fun e' => e e'.symm).2 (hin k hk')
    simp only [wpOpIn, ho]
    rw [opsA_cons] at hst
    split at hst
    · rename_i hw
      rw [want_sound h hw, if_pos rfl]
      refine opA_sound h hdo hst ρ n _ Q ?_
      rintro v w' ⟨σ', β', hk', h'⟩
      exact anyI_sound I hd hfin hstep fuel _ _ hU' hin' h' (by cases o.dst <;> exact hDf) hk'
    · rename_i hw
      rw [want_sound h hw, if_neg (by simp)]
      exact ⟨fun _ _ => trivial, anyI_sound I hd hfin hstep fuel _ _ hU' hin' (h.put hdo und_rel) (by cases o.dst <;> exact hDf) hst⟩
    · exact hst.elim
end
/-- All edges lead back. -/
def backO (l : List Oper) : Bool := (List.range l.length).all fun j => match l[j]? with
  | some o => o.after.all fun e => !Region.binds .any e || decide (e.on < j)
  | none => true
def depOn (o : Oper) (i : Nat) : Bool := o.after.any fun e => Region.binds .any e && e.on == i
/-- A drawn region, in whatever order: Base holds all along, F of what each operation did. -/
theorem draw_I {P : Program} {gl : Nat → Option (List D)} {id : Nat} {l : List Oper} {Q : Ex → S → Prop} {σ : S} {X : Prop} (Base : S → Prop) (F : Nat → S → Prop) (hB : (Region.noSelect l.toArray && backO l) = true) (h0 : Base σ)
    (hstep : ∀ j o, l[j]? = some o → ∀ τ, Base τ → (∀ i, depOn o i = true → F i τ) → opsA P gl l.toArray [o] τ fun τ' => Base τ' ∧ F j τ' ∧ ∀ i, i < l.length → i ≠ j → F i τ → F i τ')
    (hfin : ∀ τ, Base τ → (∀ i, i < l.length → F i τ) → Q .normal τ) : drawK l.toArray X (SemCode P gl (.region id l.toArray true) Q σ) := by
  refine draw_sem fun c β a w ρ n hP hgl hm hdN _ hs => ?_
  subst hP; subst hgl
  simp only [Bool.and_eq_true] at hB
  have hdst : ∀ o ∈ l.toArray.toList, ∀ d, o.dst = some d → d < c.N := fun o ho d hod => by
    have := List.all_eq_true.1 hdN o ho
    rw [hod] at this
    simpa using this
  have hback : ∀ j o, l[j]? = some o → ∀ e ∈ o.after, Region.binds .any e = true → e.on < j := fun j o ho e he hb => by
    have h1 := List.all_eq_true.1 hB.2 j (List.mem_range.2 (List.getElem?_eq_some_iff.1 ho).1)
    simp only [ho, Array.all_eq_true', Bool.or_eq_true, Bool.not_eq_true', decide_eq_true_eq] at h1
    rcases h1 e he with h2 | h2
    · rw [hb] at h2; cases h2
    · exact h2
  have key : ∀ {b : Array Bool} {m : Nat}, b.getD m false = true → m < b.size := fun {b m} h => by
    rcases Nat.lt_or_ge m b.size with h' | h'
    · exact h'
    · simp [Array.getElem?_eq_none h'] at h
  refine wpIn_region_any hm (anyI_sound (D := a.defers) (fun listed τ => listed.size = l.length ∧ Base τ ∧ ∀ i, listed.getD i false = true → F i τ) hdst ?_ ?_ l.toArray.size _ (List.range l.length) (by simp) (fun i hi => ?_) (hs.drawn _) rfl ⟨by simp, h0, fun i hi => ?_⟩)
  · rintro listed τ β' a' w' hs' hDf hr ⟨hsz, hb, hF⟩
    refine ⟨τ, β', hs', hfin τ hb fun i hi => hF i ?_⟩
    -- all are done
    have all : ∀ n i, i < n → i < l.length → listed.getD i false = true := by
      intro n
      induction n with
      | zero => intro i h; omega
      | succ n ih =>
        intro i hin hil
        cases hc : listed.getD i false with
        | true => rfl
        | false =>
          exfalso
          have hmem : i ∈ Region.ready .any l.toArray listed := mem_ready.2 ⟨by
            rw [Array.getD_eq_getD_getElem?] at hc ⊢
            rw [Array.getElem?_eq_getElem (by omega)] at hc ⊢
            simpa using hc, l[i], by simp [hil], fun e he hb => by
            have := hback i l[i] (List.getElem?_eq_getElem hil) e he hb
            exact ih _ (by omega) (by omega)⟩
          rw [hr] at hmem; cases hmem
    exact all (i + 1) i (by omega) hi
  · rintro listed τ i o hi ho ⟨hsz, hb, hF⟩
    obtain ⟨hun, o', ho', hall⟩ := mem_ready.1 hi
    rw [ho] at ho'; cases ho'
    have ho2 : l[i]? = some o := by simpa using ho
    refine opsA_mono (fun τ' h => ?_) [o] (hstep i o ho2 τ hb fun k hk => by
      unfold depOn at hk
      rw [Array.any_eq_true'] at hk
      obtain ⟨e, he, h2⟩ := hk
      simp only [Bool.and_eq_true, beq_iff_eq] at h2
      rw [← h2.2]
      exact hF _ (hall e he h2.1))
    obtain ⟨hb', hFi, hrest⟩ := h
    refine ⟨by simp [hsz], hb', fun k hk => ?_⟩
    by_cases e : i = k
    · subst e; exact hFi
    · rw [getD_set_ne false e] at hk
      exact hrest k (by have := key hk; omega) (fun e' => e e'.symm) (hF k hk)
  · rw [Array.getD_eq_getD_getElem?] at hi
    rw [List.mem_range]
    rcases Nat.lt_or_ge i l.length with h | h
    · exact h
    · rw [Array.getElem?_eq_none (by simpa using h)] at hi; cases hi
  · rw [Array.getD_eq_getD_getElem?, Array.getElem?_replicate] at hi
    split at hi <;> simp at hi
end Go.VC
end
section
set_option maxRecDepth 100000
set_option linter.unusedSimpArgs false
set_option linter.unusedVariables false
set_option linter.unnecessarySimpa false
set_option linter.defProp false
namespace Go.VC
open Go.RowKit Go.Proofs Go.IntWalk
theorem t134 (r : List Nat) (f : FuncId) (c : D) (p : Nat → Bool) (hr : r.length ≤ 1000) (hf : ∀ e ∈ r, Holds Tryd.prog GL f [U e, .d c] [.a (B (p e))]) : Holds Tryd.prog GL 118 [unsA r, .d (.fn f [c])] [.a (I (idxOf p r))] := by
  refine fn_holds (vs := [.tmp 4]) (by kernel_rfl) Tryd.func118 rfl rfl (by kernel_rfl) (by kernel_rfl) rfl ?_
  simp only [go_sem, simprocAttr, List.length_map]
  refine awp_loopA (fun k : Nat => [(0, .a (unsA r)), (1, .a (.d (.fn f [c]))), (7, .a (I r.length)), (8, .a (I k))]) (fun _ => []) (fun k => k ≤ r.length ∧ noneTo p r k) (r.length - ·) 0 ?_ ?_ ⟨Nat.zero_le _, noneTo_0⟩ ?_
  · simp only [go_sem, simprocAttr]
  · simp only [go_sem, simprocAttr]
  intro k j ⟨hk, hl⟩
  (refine rO ?_; repeat' ((with_reducible first | refine rG ?_ | (refine rS ?_ ?_ <;> intro hp) | (refine rB ?_ ?_ <;> intro hb <;> try rw [hb]) | refine rD ?_ | refine rA ?_ | fail) <;> try simp only [go_sem, simprocAttr]))
  · have hkl : k < r.length := by omega
    have hx : r[k]? = some r[k] := List.getElem?_eq_getElem hkl
    have hw := wrap_succ (n := r.length) hkl (by simp only [maxLen]; omega)
    (refine rO ?_; repeat' ((with_reducible first | refine rG ?_ | (refine rS ?_ ?_ <;> intro hp) | (refine rB ?_ ?_ <;> intro hb <;> try rw [hb]) | refine rD ?_ | refine rA ?_ | fail) <;> try simp only [go_sem, simprocAttr, hx, uenc_eq, hw]))
    refine call_dat (hf r[k] (List.getElem_mem hkl)) ?_
    (refine rO ?_; repeat' ((with_reducible first | refine rG ?_ | (refine rS ?_ ?_ <;> intro hp) | (refine rB ?_ ?_ <;> intro hb <;> try rw [hb]) | refine rD ?_ | refine rA ?_ | fail) <;> try simp only [go_sem, simprocAttr, hx, uenc_eq, hw]))
    · exact (idx_hit hkl hl hb).symm
    · (refine ⟨k + 1, ?_, ?_, ⟨hkl, noneTo_s hkl hl hb⟩, by dsimp only; omega⟩ <;> simp only [go_sem, simprocAttr])
  · exact (idx_none (by omega) hl).symm
theorem t114 (r : List Nat) (f : FuncId) (c : D) (p : Nat → Bool) (hr : r.length ≤ 1000) (hf : ∀ e ∈ r, Holds Tryd.prog GL f [U e, .d c] [.a (B (p e))]) : Holds Tryd.prog GL 85 [unsA r, .d (.fn f [c])] [.a (B (r.any p))] := by
  refine fn_holds (vs := [.tmp 4]) (by kernel_rfl) Tryd.func85 rfl rfl (by kernel_rfl) (by kernel_rfl) rfl ?_
  rw [← idx_ge]
  (refine rO ?_; repeat' ((with_reducible first | refine rG ?_ | (refine rS ?_ ?_ <;> intro hp) | (refine rB ?_ ?_ <;> intro hb <;> try rw [hb]) | refine rD ?_ | refine rA ?_ | fail) <;> try simp only [go_sem, simprocAttr]))
  refine call_dat (t134 r f c p hr hf) ?_
  (refine rO ?_; repeat' ((with_reducible first | refine rG ?_ | (refine rS ?_ ?_ <;> intro hp) | (refine rB ?_ ?_ <;> intro hb <;> try rw [hb]) | refine rD ?_ | refine rA ?_ | fail) <;> try simp only [go_sem, simprocAttr]))
  all_goals simp_all
theorem t113 (after : List Nat) (b : Nat) (hl : after.length ≤ 6) : Holds Tryd.prog GL 84 [U b, .d (.pt [.sl (after.map uenc)])] [.a (B (oddA after b))] := by
  refine fn_holds (vs := [.tmp 3]) (by kernel_rfl) Tryd.func84 rfl rfl (by kernel_rfl) (by kernel_rfl) rfl ?_
  have s := u32_shr (b := b) (k := after.length) (by omega)
  have e : oddA after b = !decide (b / 2 ^ after.length = 0) := rfl
  (refine rO ?_; repeat' ((with_reducible first | refine rG ?_ | (refine rS ?_ ?_ <;> intro hp) | (refine rB ?_ ?_ <;> intro hb <;> try rw [hb]) | refine rD ?_ | refine rA ?_ | fail) <;> try simp only [go_sem, simprocAttr, List.length_map, s]))
  · rw [e, decide_eq_true (show b / 2 ^ after.length = 0 by omega)]; rfl
  · rw [e, decide_eq_false (show ¬ b / 2 ^ after.length = 0 by omega)]; rfl
theorem t86 (after : List Nat) (hl : after.length ≤ 6) (ha : ∀ b ∈ after, b < 2 ^ 32) : Holds Tryd.prog GL 54 [unsA after] [.a (I (mayX after))] := by
  refine fn_holds (vs := [.tmp 2]) (by kernel_rfl) Tryd.func54 rfl rfl (by kernel_rfl) (by kernel_rfl) rfl ?_
  have h113 := t114 after 84 (.pt [.sl (after.map uenc)]) (oddA after) (by omega) (fun b _ => t113 after b hl)
  have h115 := t115 after hl ha
  have e : mayX after = if after.length > 6 ∨ after.any (oddA after) = true then 1 else if cycE after = true then 8 else 0 := rfl
  have n6 : ¬ (6 : Int) < (after.length : Int) := by omega
  have n6' : ¬ after.length > 6 := by omega
  (refine rO ?_; repeat' ((with_reducible first | refine rG ?_ | (refine rS ?_ ?_ <;> intro hp) | (refine rB ?_ ?_ <;> intro hb <;> try rw [hb]) | refine rD ?_ | refine rA ?_ | fail) <;> try simp only [go_sem, simprocAttr, List.length_map, n6]))
  refine call_dat h113 ?_
  cases h1 : after.any (oddA after) with
  | true =>
    rw [if_pos (.inr h1)] at e
    rw [e]
    (refine rO ?_; repeat' ((with_reducible first | refine rG ?_ | (refine rS ?_ ?_ <;> intro hp) | (refine rB ?_ ?_ <;> intro hb <;> try rw [hb]) | refine rD ?_ | refine rA ?_ | fail) <;> try simp only [go_sem, simprocAttr]))
  | false =>
    (refine rO ?_; repeat' ((with_reducible first | refine rG ?_ | (refine rS ?_ ?_ <;> intro hp) | (refine rB ?_ ?_ <;> intro hb <;> try rw [hb]) | refine rD ?_ | refine rA ?_ | fail) <;> try simp only [go_sem, simprocAttr]))
    refine call_dat h115 ?_
    cases h2 : cycE after with
    | true =>
      rw [if_neg (by simp [h1, n6']), if_pos h2] at e
      rw [e]
      (refine rO ?_; repeat' ((with_reducible first | refine rG ?_ | (refine rS ?_ ?_ <;> intro hp) | (refine rB ?_ ?_ <;> intro hb <;> try rw [hb]) | refine rD ?_ | refine rA ?_ | fail) <;> try simp only [go_sem, simprocAttr]))
    | false =>
      rw [if_neg (by simp [h1, n6']), if_neg (by simp [h2])] at e
      rw [e]
      (refine rO ?_; repeat' ((with_reducible first | refine rG ?_ | (refine rS ?_ ?_ <;> intro hp) | (refine rB ?_ ?_ <;> intro hb <;> try rw [hb]) | refine rD ?_ | refine rA ?_ | fail) <;> try simp only [go_sem, simprocAttr]))
theorem t137 (r : List Int) (hr : r.length ≤ 1000000) : Holds Tryd.prog GL 121 [intsA r] [.fresh 3 1 (r.map ienc)] := by
  refine fn_holds (vs := [.tmp 2]) (by kernel_rfl) Tryd.func121 rfl rfl (by kernel_rfl) (by kernel_rfl) rfl ?_
  have h0 : (0 + (r.map ienc).length) * 8 ≤ 140737488355328 := by simp; omega
  (refine rO ?_; repeat' ((with_reducible first | refine rG ?_ | (refine rS ?_ ?_ <;> intro hp) | (refine rB ?_ ?_ <;> intro hb <;> try rw [hb]) | refine rD ?_) <;> try simp only [go_sem, simprocAttr]))
  refine sem_nil (.inl ⟨rfl, rfl⟩) (e := 3) (by kernel_rfl) (xs := r.map ienc) (by simp only [go_sem, simprocAttr]; rfl) (fun hne => ?_) (fun he b => ?_)
  · (refine rO ?_; repeat' ((with_reducible first | refine rG ?_ | (refine rS ?_ ?_ <;> intro hp) | (refine rB ?_ ?_ <;> intro hb <;> try rw [hb]) | refine rD ?_) <;> try simp only [go_sem, simprocAttr, h0]))
  · cases b
    · (refine rO ?_; repeat' ((with_reducible first | refine rG ?_ | (refine rS ?_ ?_ <;> intro hp) | (refine rB ?_ ?_ <;> intro hb <;> try rw [hb]) | refine rD ?_) <;> try simp only [go_sem, simprocAttr, h0]))
    · rw [he]
      (refine rO ?_; repeat' ((with_reducible first | refine rG ?_ | (refine rS ?_ ?_ <;> intro hp) | (refine rB ?_ ?_ <;> intro hb <;> try rw [hb]) | refine rD ?_) <;> try simp only [go_sem, simprocAttr]))
theorem t116 (after : List Nat) (row : List Int) (left : Nat) : Holds Tryd.prog GL 88 [unsA after, intsA row, U left] [.a (.d (.fn 120 [.pt [.v (.int .u32 left)], .pt [.sl (row.map ienc)], .pt [.sl (after.map uenc)]]))] := by
  refine fn_holds (vs := [.tmp 6]) (by kernel_rfl) Tryd.func88 rfl rfl (by kernel_rfl) (by kernel_rfl) rfl ?_
  (refine rO ?_; repeat' ((with_reducible first | refine rG ?_ | (refine rS ?_ ?_ <;> intro hp) | (refine rB ?_ ?_ <;> intro hb <;> try rw [hb]) | refine rD ?_ | refine rA ?_ | fail) <;> try simp only [go_sem, simprocAttr, y_assign_nf]))
theorem t87 (after : List Nat) (hl : after.length ≤ 6) : Holds Tryd.prog GL 56 [unsA after] [.a (.d (.fn 120 [.pt [.v (.int .u32 (2 ^ after.length - 1 : Nat))], .pt [.sl []], .pt [.sl (after.map uenc)]]))] := by
  refine fn_holds (vs := [.tmp 2]) (by kernel_rfl) Tryd.func56 rfl rfl (by kernel_rfl) (by kernel_rfl) rfl ?_
  have hm := u32_mask1 (m := after.length) (by omega)
  have h116 := t116 after [] (2 ^ after.length - 1)
  (refine rO ?_; repeat' ((with_reducible first | refine rG ?_ | (refine rS ?_ ?_ <;> intro hp) | (refine rB ?_ ?_ <;> intro hb <;> try rw [hb]) | refine rD ?_ | refine rA ?_ | fail) <;> try simp only [go_sem, simprocAttr, y_assign_nf, List.length_map, u32_shl (k := after.length) (by omega), hm]))
  refine call_rest _ h116 ?_
  simp only [go_sem, simprocAttr, List.length_map, u32_shl (k := after.length) (by omega), hm]
  rfl
end Go.VC
end
section
set_option maxRecDepth 100000
set_option linter.unusedSimpArgs false
set_option linter.unusedVariables false
set_option linter.unnecessarySimpa false
set_option linter.defProp false
namespace Go.VC
open Go.RowKit Go.Proofs Go.IntWalk
theorem leftF_ud {B : Nat} (hB : B ≤ 999000000) (σ : S) : LeftF B σ σ.ud := ⟨fun ht hr => by rw [ud_r, ht]; exact hr.1, fun {o x} h1 h2 h3 h4 => by rw [ud_m (decide_eq_true (by have := of_decide_eq_true h2; omega)), h3]; exact congrArg some h4.1⟩
theorem g_box {σ : S} {o : Nat} {cs : List R} {ds : List D} (ho : o < 1000000000) (hm : σ.mem o = some (.box cs)) (h1 : allD cs = some ds) : Ghost σ (σ.frz o fun k => .pt (ds.drop k)) := fun c β a w h => by
  obtain ⟨b, arr, e, hb, hh, hf⟩ := h.obj _ _ hm
  have hds := allD_inv h1
  have hx : ∀ st, (∀ b, stF c σ β w b → st b) → (∀ b, ownB (β o) = some b → st b) → ∀ k b', β o = .pointer (some ⟨b', 0, none⟩) → Rd st w (.pointer (some ⟨b', k, none⟩)) (.pt (ds.drop k)) := fun st h1 h2 k b' hb' => by
    rw [hb] at hb'; cases hb'
    refine Rd.mk_pt (h2 b (by rw [hb]; rfl)) hh fun j d hj => ?_
    rw [List.getElem?_drop] at hj
    obtain ⟨u, hu, _, hr⟩ := hf.get (show cs[k + j]? = some (.a (.d d)) by rw [hds]; simp [hj])
    exact ⟨u, by simpa using hu, hr.inv_d.mono fun b hb => ⟨h1 b hb, rfl⟩⟩
  have hz := h.frz (f := fun k => .pt (ds.drop k)) hm (fun st h1 h2 => .inr ⟨b, hb⟩) hx ho (fun b' hb' => by rw [hb] at hb'; cases hb'; exact nd_cells hh)
  exact ⟨β, hz.1⟩
section
variable {σ : S} {vs : List Value} {p t o : Nat}
theorem rf_r : (σ.rndF vs p).regs t = upd (killR 999996 σ.regs) p (.own 999995) t := rfl
theorem rf_m : (σ.rndF vs p).mem o = (σ.newOb 999996 (.frame vs (killR 999996 σ.regs))).mem o := rfl
theorem ag2 {T us : List Value} {rs : Nat → R} {L2 : Nat} {r2 : Loop} {τ : S} : S.again2 T us rs L2 r2 τ σ = ((S.again T τ σ).newOb 999997 (.sem (recOb L2 r2))).newOb 999996 (.frame us fun t => (rs t).pur) := rfl
theorem pu_own : R.pur (.own o) = .any := rfl
theorem mv_frame {a b : Nat} {rs : Nat → R} : Ob.mv a b (.frame vs rs) = .frame vs fun t => (rs t).mv a b := rfl
theorem mv_rec {a b L : Nat} {r : Loop} : Ob.mv a b (.sem (recOb L r)) = .sem (recOb L r) := rfl
end
def PFF := And.intro @rf_r <| And.intro @rf_m <| And.intro @ag2 <| And.intro @pu_own <| And.intro @mv_rec <| @mv_frame
attribute [go_sem] PFF
theorem tiY : tinf Tryd.prog 173 = some ⟨1, 8, false, [.nilFunc]⟩ := by kernel_rfl
theorem tiZ (pos : String) : isXL Tryd.prog 173 pos = false := rfl
def rowsF (after : List Nat) : Nat → List Nat → Nat → List (List Nat)
  | 0, row, _ => [row]
  | f + 1, row, left => if left = 0 then [row] else (List.range after.length).flatMap fun q => if extS after left q = true then rowsF after f (row ++ [q]) (andN left (2 ^ q)) else []
def partF (after : List Nat) (f : Nat) (row : List Nat) (left k : Nat) : List (List Nat) := (List.range k).flatMap fun q => if extS after left q = true then rowsF after f (row ++ [q]) (andN left (2 ^ q)) else []
theorem rowsF_0 {after : List Nat} {row : List Nat} : ∀ f, rowsF after f row 0 = [row]
  | 0 => rfl
  | f + 1 => by rw [rowsF, if_pos rfl]
theorem rowsF_s {after : List Nat} {f : Nat} {row : List Nat} {left : Nat} (h : left ≠ 0) : rowsF after (f + 1) row left = partF after f row left after.length := by rw [rowsF, if_neg h]; rfl
theorem partF_s {after : List Nat} {f : Nat} {row : List Nat} {left k : Nat} : partF after f row left (k + 1) = partF after f row left k ++ if extS after left k = true then rowsF after f (row ++ [k]) (andN left (2 ^ k)) else [] := by
  simp [partF, List.range_succ, List.flatMap_append]
theorem part_at {after : List Nat} {f : Nat} {row : List Nat} {left k i : Nat} {x : List Nat} (hk : k < after.length) (he : extS after left k = true) (hx : (rowsF after f (row ++ [k]) (andN left (2 ^ k)))[i]? = some x) : (partF after f row left after.length)[(partF after f row left k).length + i]? = some x := by
  have : ∀ n, k < n → ∃ R, partF after f row left n = partF after f row left k ++ (rowsF after f (row ++ [k]) (andN left (2 ^ k)) ++ R) := by
    intro n
    induction n with
    | zero => intro h; omega
    | succ n ih =>
      intro h
      by_cases e : k = n
      · subst e; exact ⟨[], by rw [partF_s, if_pos he, List.append_nil]⟩
      · obtain ⟨R, hR⟩ := ih (by omega)
        exact ⟨R ++ if extS after left n = true then rowsF after f (row ++ [n]) (andN left (2 ^ n)) else [], by rw [partF_s, hR]; simp only [List.append_assoc]⟩
  obtain ⟨R, hR⟩ := this _ hk
  have hi := (List.getElem?_eq_some_iff.1 hx).1
  rw [hR, List.getElem?_append_right (by omega), Nat.add_sub_cancel_left, List.getElem?_append_left hi]
  exact hx
def rowsC (l : List (List Nat)) : List (List (List D)) := l.map fun r => (rowI r).map ienc
theorem rowsC_len (l : List (List Nat)) : (rowsC l).length = l.length := by simp [rowsC]
theorem rowsC_at {l : List (List Nat)} {i : Nat} {x : List (List D)} (h : (rowsC l)[i]? = some x) : ∃ r, l[i]? = some r ∧ x = (rowI r).map ienc := by
  rw [rowsC, List.getElem?_map] at h
  obtain ⟨r, hr, rfl⟩ := Option.map_eq_some_iff.1 h
  exact ⟨r, hr, rfl⟩
theorem rowsC_of {l : List (List Nat)} {i : Nat} {r : List Nat} (h : l[i]? = some r) : (rowsC l)[i]? = some ((rowI r).map ienc) := by rw [rowsC, List.getElem?_map, h]; rfl
def BdE (f : Nat) : Nat := 900000000 - f * 1000000
abbrev capE (after : List Nat) (row : List Nat) (left : Nat) : List D := [.pt [.v (.int .u32 left)], .pt [.sl ((rowI row).map ienc)], .pt [.sl (after.map uenc)]]
/-- What is known of the iterator's own state. -/
structure ItR (L : Nat) (after : List Nat) (row : List Nat) (left k : Nat) (τ : S) : Prop where
  r1 : τ.regs 1 = .a (.d (.pt [.v (.int .u32 left)]))
  r2 : τ.regs 2 = .a (.d (.pt [.sl ((rowI row).map ienc)]))
  r3 : τ.regs 3 = .a (.d (.pt [.sl (after.map uenc)]))
  r4 : τ.regs 4 = .a (.d (.pt [.v (yieldV L)]))
  r14 : τ.regs 14 = .a (I after.length)
  r15 : τ.regs 15 = .a (I k)
structure ItI (L : Nat) (T : List Value) (after : List Nat) (row : List Nat) (left f : Nat) (Inv : Nat → S → Prop) (k : Nat) (τ : S) : Prop where
  le : k ≤ after.length
  rr : ItR L after row left k τ
  kp : ∃ σ0, KeepsF (BdE (f + 1)) T σ0 τ ∧ Inv (partF after f row left k).length σ0
def FitE : List (List Nat) := [[0], []]
theorem ItR.put {L : Nat} {after row : List Nat} {left k : Nat} {τ : S} {d : Nat} {r : R} (h : ItR L after row left k τ) (hd : (d == 1 || d == 2 || d == 3 || d == 4 || d == 14 || d == 15) = false) : ItR L after row left k (τ.put (some d) r) := by
  simp only [Bool.or_eq_false_iff] at hd
  obtain ⟨⟨⟨⟨⟨h1, h2⟩, h3⟩, h4⟩, h5⟩, h6⟩ := hd
  exact ⟨by simp only [go_sem, simprocAttr, h1, h.r1], by simp only [go_sem, simprocAttr, h2, h.r2], by simp only [go_sem, simprocAttr, h3, h.r3], by simp only [go_sem, simprocAttr, h4, h.r4], by simp only [go_sem, simprocAttr, h5, h.r14], by simp only [go_sem, simprocAttr, h6, h.r15]⟩
/-- A row of the iterator's own is yielded. -/
theorem yield_row {P : Program} {gl : Nat → Option (List D)} {B L k q sz : Nat} {T : Array Value} {dst : Option Tmp} {y z : Tmp} {ts : Array TypeId} {ty : TypeId} {pos : String} {after : Array Edge} {g : Option (Nat × Bool)} {σ0 τ : S} {K : S → Prop} {e : TypeId} {x : List (List D)} {xs : List (List (List D))} {Inv : Nat → S → Prop} {Done : S → Prop}
    (hB : B ≤ 999000000) (hq : decide (q < 999999) = true) (hkp : KeepsF B T.toList σ0 τ) (hy : τ.regs y = .a (.d (.v (yieldV L)))) (hz : τ.regs z = .own q) (hm : τ.mem q = some (.log e sz x)) (hx : xs[k]? = some x) (hInv : Inv k σ0) (hI : ∀ i σ σ', LeftF B σ σ' → Inv i σ → Inv i σ')
    (hY : ∀ i x σ, xs[i]? = some x → Inv i σ → σ.mem 999995 = some (.log e sz x) → YieldF P gl L T σ (Inv (i + 1)) Done)
    (hA : ∀ σ', Inv (k + 1) σ' → K ((S.again T.toList (τ.mv q (upId 999995)) σ').put dst (.a (.d (.v (.bool true)))))) (hD : ∀ σ', Done σ' → K ((S.again T.toList (τ.mv q (upId 999995)) σ').put dst (.a (.d (.v (.bool false)))))) :
    SemOp P gl ⟨dst, .call ⟨.value (.tmp y), #[.tmp z], ts⟩, ty, pos, after, g⟩ τ K := by
  have hq0 := of_decide_eq_true hq
  have hq1 : decide (q < 1000000) = true := decide_eq_true (by omega)
  have hqu : (q == upId 999995) = false := beq_up hq1
  refine SemOp.ghost (g_mv (a := q) (b := upId 999995) (by omega) (by have := upId_le 999995; omega)) (yield_semF (L := L) (T := T) (A' := Inv (k + 1)) (B' := Done) ?_ ?_ ?_ (hY k x _ hx (hI _ _ _ (hkp.leave_mv hB hq) hInv) ?_) hA hD)
  · show (τ.regs y).mv q (upId 999995) = _
    rw [hy]; rfl
  · show (τ.regs z).mv q (upId 999995) = _
    rw [hz]; exact mv_own hqu
  · rw [mv_mo (beq_up rfl) (by simp; omega), hkp.fr]; rfl
  · rw [lv_m rfl, mv_mb, hm]; rfl
/-- A row that was handed to a round is yielded. -/
theorem yield_row2 {P : Program} {gl : Nat → Option (List D)} {B L k sz L2 : Nat} {T : Array Value} {dst : Option Tmp} {y z : Tmp} {ts : Array TypeId} {ty : TypeId} {pos : String} {after : Array Edge} {g : Option (Nat × Bool)} {σ0 τ : S} {K : S → Prop} {e : TypeId} {x : List (List D)} {xs : List (List (List D))} {Inv : Nat → S → Prop} {Done : S → Prop} {vs : List Value} {rs2 : Nat → R} {r2 : Loop}
    (hB : B ≤ 999000000) (hkp : KeepsF B T.toList σ0 τ) (hy : τ.regs y = .a (.d (.v (yieldV L)))) (hz : τ.regs z = .own 999995) (hm : τ.mem 999995 = some (.log e sz x)) (h6 : τ.mem 999996 = some (.frame vs rs2)) (h7 : τ.mem 999997 = some (.sem (recOb L2 r2))) (hx : xs[k]? = some x) (hInv : Inv k σ0) (hI : ∀ i σ σ', LeftF B σ σ' → Inv i σ → Inv i σ')
    (hY : ∀ i x σ, xs[i]? = some x → Inv i σ → σ.mem 999995 = some (.log e sz x) → YieldF P gl L T σ (Inv (i + 1)) Done)
    (hA : ∀ σ', Inv (k + 1) σ' → K ((S.again2 T.toList vs (fun t => (rs2 t).mv 999995 (upId 999995)) L2 r2 (τ.mv 999995 (upId 999995)) σ').put dst (.a (.d (.v (.bool true)))))) (hD : ∀ σ', Done σ' → K ((S.again2 T.toList vs (fun t => (rs2 t).mv 999995 (upId 999995)) L2 r2 (τ.mv 999995 (upId 999995)) σ').put dst (.a (.d (.v (.bool false)))))) :
    SemOp P gl ⟨dst, .call ⟨.value (.tmp y), #[.tmp z], ts⟩, ty, pos, after, g⟩ τ K := by
  have hqu : (999995 == upId 999995) = false := beq_up rfl
  refine SemOp.ghost (g_mv (a := 999995) (b := upId 999995) (by omega) (by have := upId_le 999995; omega)) (yield_semF2 (L := L) (T := T) (A' := Inv (k + 1)) (B' := Done) (vs := vs) (rs2 := fun t => (rs2 t).mv 999995 (upId 999995)) (L2 := L2) (r2 := r2) ?_ ?_ ?_ ?_ ?_ (hY k x _ hx (hI _ _ _ (hkp.leave_mv hB rfl) hInv) ?_) hA hD)
  · show (τ.regs y).mv 999995 (upId 999995) = _
    rw [hy]; rfl
  · show (τ.regs z).mv 999995 (upId 999995) = _
    rw [hz]; exact mv_own hqu
  · rw [mv_mo (beq_up rfl) rfl, hkp.fr]; rfl
  · rw [mv_mo (beq_up rfl) rfl, h6]; rfl
  · rw [mv_mo (beq_up rfl) rfl, h7]; rfl
  · rw [lv_m rfl, mv_mb, hm]; rfl
theorem KeepsF.again2 {B : Nat} {T vs : List Value} {rs : Nat → R} {L2 : Nat} {r2 : Loop} {τ σ : S} (hB : B ≤ 999000000) : KeepsF B T σ (S.again2 T vs rs L2 r2 τ σ) := ((KeepsF.again hB).new rfl).new rfl
/-- What is known in the region that calls on. -/
structure RB (L : Nat) (T : List Value) (after row : List Nat) (left k B : Nat) (σ0 τ : S) : Prop where
  rr : ItR L after row left k τ
  r5 : τ.regs 5 = .a (I k)
  kp : KeepsF B T σ0 τ
def GX (after row : List Nat) (left k : Nat) : Nat → R → (Nat → Option Ob) → Prop
  | 0, r, _ => r = .a (unsA after)
  | 1, r, _ => r = .a (intsA (rowI row))
  | 2, r, _ => r = .cs ((rowI row).map ienc)
  | 3, r, _ => r = .a (I k)
  | 4, r, m => r = .own 34 ∧ m 34 = some (.log 3 1 [ienc k])
  | 5, r, m => (r = .own 35 ∧ m 35 = some (.log 3 1 ((rowI (row ++ [k])).map ienc))) ∨ r = .a (intsA (rowI (row ++ [k])))
  | 6, r, _ => r = .a (U left)
  | 7, r, _ => r = .a (I k)
  | 8, r, _ => r = .a (U (2 ^ k : Nat))
  | 9, r, _ => r = .a (U (andN left (2 ^ k)))
  | 10, r, _ => r = .a (.d (.fn 120 (capE after (row ++ [k]) (andN left (2 ^ k)))))
  | _, _, _ => True
def PostX (L : Nat) (T : List Value) (after row : List Nat) (left k B : Nat) (σ0 : S) (j : Nat) (τ τ' : S) : Prop :=
  RB L T after row left k B σ0 τ' ∧ GX after row left k j (τ'.regs (30 + j)) τ'.mem ∧ ∀ i, i < 11 → i ≠ j → GX after row left k i (τ.regs (30 + i)) τ.mem → GX after row left k i (τ'.regs (30 + i)) τ'.mem
section
variable {L : Nat} {T : List Value} {after row : List Nat} {left k B : Nat} {σ0 τ : S}
theorem RB.put {j : Nat} {r : R} (h : RB L T after row left k B σ0 τ) : RB L T after row left k B σ0 (τ.put (some (30 + j)) r) := by
  have e : ∀ t, t < 30 → (τ.put (some (30 + j)) r).regs t = τ.regs t := fun t ht => by
    simp only [S.put, upd]; rw [if_neg (by omega)]
  exact ⟨⟨(e 1 (by omega)).trans h.rr.r1, (e 2 (by omega)).trans h.rr.r2, (e 3 (by omega)).trans h.rr.r3, (e 4 (by omega)).trans h.rr.r4, (e 14 (by omega)).trans h.rr.r14, (e 15 (by omega)).trans h.rr.r15⟩, (e 5 (by omega)).trans h.r5, h.kp.put⟩
theorem RB.new {d : Nat} {x : Ob} (hd : decide (d < 999999) = true) (h : RB L T after row left k B σ0 τ) : RB L T after row left k B σ0 (τ.newOb d x) := by
  have e : ∀ t y, τ.regs t = .a y → (τ.newOb d x).regs t = .a y := fun t y ht => by
    show (τ.regs t).kill d = _
    rw [ht]; rfl
  exact ⟨⟨e _ _ h.rr.r1, e _ _ h.rr.r2, e _ _ h.rr.r3, e _ _ h.rr.r4, e _ _ h.rr.r14, e _ _ h.rr.r15⟩, e _ _ h.r5, h.kp.new hd⟩
theorem RB.frz {d : Nat} {f : Nat → D} (hd : decide (d < 999999) = true) (h : RB L T after row left k B σ0 τ) : RB L T after row left k B σ0 (τ.frz d f) := by
  have e : ∀ t y, τ.regs t = .a y → (τ.frz d f).regs t = .a y := fun t y ht => by
    show (τ.regs t).frz d f = _
    rw [ht]; rfl
  exact ⟨⟨e _ _ h.rr.r1, e _ _ h.rr.r2, e _ _ h.rr.r3, e _ _ h.rr.r4, e _ _ h.rr.r14, e _ _ h.rr.r15⟩, e _ _ h.r5, h.kp.frz hd⟩
theorem put_at {j i : Nat} {r : R} : (τ.put (some (30 + j)) r).regs (30 + i) = if i = j then r else τ.regs (30 + i) := by
  simp only [S.put, upd]
  by_cases h : i = j
  · subst h; simp
  · rw [if_neg (by omega), if_neg h]
theorem postX_put {j : Nat} {r : R} (h : RB L T after row left k B σ0 τ) (hr : GX after row left k j r τ.mem) : PostX L T after row left k B σ0 j τ (τ.put (some (30 + j)) r) :=
  ⟨h.put, by rw [put_at, if_pos rfl]; exact hr, fun i _ hne hi => by rw [put_at, if_neg hne]; exact hi⟩
theorem GX_new {d i : Nat} {x : Ob} {r : R} {m : Nat → Option Ob} (hd : (d = 34 ∧ i ≠ 4) ∨ (d = 35 ∧ i ≠ 5)) (hi : i < 11) (h : GX after row left k i r m) : GX after row left k i (r.kill d) (fun o => if o = d then some x else (m o).map (Ob.kill d)) := by
  match i, hi, h with
  | 0, _, h => unfold GX at h ⊢; rw [h]; rfl
  | 1, _, h => unfold GX at h ⊢; rw [h]; rfl
  | 2, _, h => unfold GX at h ⊢; rw [h]; rfl
  | 3, _, h => unfold GX at h ⊢; rw [h]; rfl
  | 4, _, h =>
    obtain ⟨h1, h2⟩ := h
    rcases hd with ⟨_, h⟩ | ⟨rfl, _⟩
    · exact absurd rfl h
    · exact ⟨by rw [h1]; rfl, by simp [h2, Ob.kill]⟩
  | 5, _, h =>
    rcases hd with ⟨rfl, _⟩ | ⟨_, h⟩
    · rcases h with ⟨h1, h2⟩ | h
      · exact .inl ⟨by rw [h1]; rfl, by simp [h2, Ob.kill]⟩
      · exact .inr (by rw [h]; rfl)
    · exact absurd rfl h
  | 6, _, h => unfold GX at h ⊢; rw [h]; rfl
  | 7, _, h => unfold GX at h ⊢; rw [h]; rfl
  | 8, _, h => unfold GX at h ⊢; rw [h]; rfl
  | 9, _, h => unfold GX at h ⊢; rw [h]; rfl
  | 10, _, h => unfold GX at h ⊢; rw [h]; rfl
theorem postX_new {j : Nat} {x : Ob} (hj : j = 4 ∨ j = 5) (h : RB L T after row left k B σ0 τ) (hr : GX after row left k j (.own (30 + j)) (fun o => if o = 30 + j then some x else (τ.mem o).map (Ob.kill (30 + j)))) : PostX L T after row left k B σ0 j τ ((τ.newOb (30 + j) x).put (some (30 + j)) (.own (30 + j))) := by
  refine ⟨(h.new (decide_eq_true (by omega))).put, ?_, fun i hi hne hg => ?_⟩
  · rw [put_at, if_pos rfl]; exact hr
  · rw [put_at, if_neg hne]
    exact GX_new (d := 30 + j) (by omega) hi hg
theorem GX_frz {i : Nat} {r : R} {m : Nat → Option Ob} (hi : i < 11) (h : GX after row left k i r m) : GX after row left k i (r.frz 35 fun _ => .sl ((rowI (row ++ [k])).map ienc)) (fun o => if o = 35 then none else (m o).map (Ob.frz 35 fun _ => .sl ((rowI (row ++ [k])).map ienc))) := by
  match i, hi, h with
  | 0, _, h => unfold GX at h ⊢; rw [h]; rfl
  | 1, _, h => unfold GX at h ⊢; rw [h]; rfl
  | 2, _, h => unfold GX at h ⊢; rw [h]; rfl
  | 3, _, h => unfold GX at h ⊢; rw [h]; rfl
  | 4, _, h =>
    obtain ⟨h1, h2⟩ := h
    exact ⟨by rw [h1]; rfl, by simp [h2, Ob.frz]⟩
  | 5, _, h =>
    rcases h with ⟨h1, h2⟩ | h
    · exact .inr (by rw [h1]; rfl)
    · exact .inr (by rw [h]; rfl)
  | 6, _, h => unfold GX at h ⊢; rw [h]; rfl
  | 7, _, h => unfold GX at h ⊢; rw [h]; rfl
  | 8, _, h => unfold GX at h ⊢; rw [h]; rfl
  | 9, _, h => unfold GX at h ⊢; rw [h]; rfl
  | 10, _, h => unfold GX at h ⊢; rw [h]; rfl
theorem postX_frz {r : R} (h : RB L T after row left k B σ0 τ) (hr : r = .a (.d (.fn 120 (capE after (row ++ [k]) (andN left (2 ^ k)))))) : PostX L T after row left k B σ0 10 τ ((τ.frz 35 fun _ => .sl ((rowI (row ++ [k])).map ienc)).put (some 40) r) := by
  refine ⟨(h.frz rfl).put (j := 10), ?_, fun i hi hne hg => ?_⟩
  · rw [show (some 40 : Option Nat) = some (30 + 10) from rfl, put_at, if_pos rfl]; exact hr
  · rw [show (some 40 : Option Nat) = some (30 + 10) from rfl, put_at, if_neg hne]
    exact GX_frz hi hg
end
/-- What is known in the loop over those behind. -/
structure ItK (L : Nat) (T : List Value) (after : List Nat) (row : List Nat) (left f : Nat) (Inv : Nat → S → Prop) (k j : Nat) (τ : S) : Prop where
  rr : ItR L after row left k τ
  kp : ∃ σ0, KeepsF (BdE (f + 1)) T σ0 τ ∧ Inv ((partF after f row left k).length + j) σ0
structure ItD (T : List Value) (f : Nat) (Done : S → Prop) (e : Ex) (τ : S) : Prop where
  ex : e = .ret
  kp : ∃ σ0, KeepsF (BdE (f + 1)) T σ0 τ ∧ Done σ0
theorem iter136 (after : List Nat) (hl : after.length ≤ 6) (ha : ∀ b ∈ after, b < 2 ^ 32) : ∀ (f : Nat) (row : List Nat) (left : Nat), f ≤ 6 → left < 2 ^ after.length → cntB after.length left ≤ f → row.length + f ≤ 100 →
    IterF (BdE f) Tryd.prog GL 120 (capE after row left) 3 1 (rowsC (rowsF after f row left)) := by
  intro f
  induction f with
  | zero =>
    intro row left hf hlt hc hrow
    obtain rfl : left = 0 := bits_zero hlt (cntB_zero (by omega))
    refine iter_bodyF (by kernel_rfl) Tryd.func120 rfl rfl (by kernel_rfl) (by kernel_rfl) (by kernel_rfl) fun L T σ Inv Done hI hD hY h0 => ?_
    have hB : BdE 0 ≤ 999000000 := by unfold BdE; omega
    have hcl := t137 (rowI row) (by simp [rowI]; omega)
    have hx : (rowsC (rowsF after 0 row 0))[0]? = some ((rowI row).map ienc) := rfl
    (refine rO ?_; repeat' ((with_reducible first | refine rG ?_ | (refine rS ?_ ?_ <;> intro hp) | (refine rB ?_ ?_ <;> intro hb <;> try rw [hb]) | refine draw_F FitE (by decide +kernel) ?_ | refine rA ?_ | fail) <;> try simp only [go_sem, simprocAttr, PI, PY, PG, FitE, tiY, List.map_cons, List.map_nil]))
    refine call_dat hcl ?_
    (refine rO ?_; repeat' ((with_reducible first | refine rG ?_ | (refine rS ?_ ?_ <;> intro hp) | (refine rB ?_ ?_ <;> intro hb <;> try rw [hb]) | refine rA ?_ | fail) <;> try simp only [go_sem, simprocAttr, PI, PY, PG, FitE, tiY, List.map_cons, List.map_nil]))
    refine yield_row (B := BdE 0) (q := 11) (σ0 := σ) hB rfl ?_ (by simp only [go_sem, simprocAttr, PI]) (by simp only [go_sem, simprocAttr, PI]) (by simp only [go_sem, simprocAttr, PI]) hx h0 hI hY (fun σ' hA => ?_) (fun σ' hA => ?_)
    · exact (((KeepsF.enter hB).new (d := 4) rfl).new (d := 11) rfl).mem fun o _ => rfl
    · refine iter_end (.inr rfl) (by simp only [go_sem, simprocAttr, PI, PY]) (.inl ?_)
      simp only [PY, PI]
      exact hI _ _ _ (leftF_ud hB _) hA
    · refine iter_end (.inr rfl) (by simp only [go_sem, simprocAttr, PI, PY]) (.inr ?_)
      simp only [PY, PI]
      exact hD _ _ (leftF_ud hB _) hA
  | succ f ih =>
    intro row left hf hlt hc hrow
    refine iter_bodyF (by kernel_rfl) Tryd.func120 rfl rfl (by kernel_rfl) (by kernel_rfl) (by kernel_rfl) fun L T σ Inv Done hI hD hY h0 => ?_
    have hB : BdE (f + 1) ≤ 999000000 := by unfold BdE; omega
    have hcl := t137 (rowI row) (by simp [rowI]; omega)
    have h6 := two6 hl
    have hw : left < 2 ^ 32 := by omega
    (refine rO ?_; repeat' ((with_reducible first | refine rG ?_ | (refine rS ?_ ?_ <;> intro hp) | (refine rB ?_ ?_ <;> intro hb <;> try rw [hb]) | refine draw_F FitE (by decide +kernel) ?_ | refine rA ?_ | fail) <;> try simp only [go_sem, simprocAttr, PI, PY, PG, FitE, tiY, List.map_cons, List.map_nil]))
    · have e0 : left = 0 := by omega
      subst e0
      rw [rowsF_0] at hY ⊢
      have hx : (rowsC [row])[0]? = some ((rowI row).map ienc) := rfl
      refine call_dat hcl ?_
      (refine rO ?_; repeat' ((with_reducible first | refine rG ?_ | (refine rS ?_ ?_ <;> intro hp) | (refine rB ?_ ?_ <;> intro hb <;> try rw [hb]) | refine rA ?_ | fail) <;> try simp only [go_sem, simprocAttr, PI, PY, PG, FitE, tiY, List.map_cons, List.map_nil]))
      refine yield_row (B := BdE (f + 1)) (q := 11) (σ0 := σ) hB rfl ?_ (by simp only [go_sem, simprocAttr, PI]) (by simp only [go_sem, simprocAttr, PI]) (by simp only [go_sem, simprocAttr, PI]) hx h0 hI hY (fun σ' hA => ?_) (fun σ' hA => ?_)
      · exact (((KeepsF.enter hB).new (d := 4) rfl).new (d := 11) rfl).mem fun o _ => rfl
      · refine iter_end (.inr rfl) (by simp only [go_sem, simprocAttr, PI, PY]) (.inl ?_)
        simp only [PY, PI]
        exact hI _ _ _ (leftF_ud hB _) hA
      · refine iter_end (.inr rfl) (by simp only [go_sem, simprocAttr, PI, PY]) (.inr ?_)
        simp only [PY, PI]
        exact hD _ _ (leftF_ud hB _) hA
    have e0 : left ≠ 0 := by omega
    rw [rowsF_s e0] at hY ⊢
    (refine rO ?_; repeat' ((with_reducible first | refine rG ?_ | (refine rS ?_ ?_ <;> intro hp) | (refine rB ?_ ?_ <;> intro hb <;> try rw [hb]) | refine rA ?_ | fail) <;> try simp only [go_sem, simprocAttr, PI, PY, List.map_cons, List.map_nil, List.length_map]))
    refine awp_loopG (ItI L T.toList after row left f Inv) (after.length - ·) 0 ⟨_, g_box (o := 4) (cs := [.a (.d (.v (yieldV L)))]) (ds := [.v (yieldV L)]) (by decide) (by simp only [go_sem, simprocAttr, PI, List.map_cons, List.map_nil]) rfl, ⟨Nat.zero_le _, ⟨?_, ?_, ?_, ?_, ?_, ?_⟩, σ, ?_, h0⟩⟩ ?_
    iterate 6 (· simp only [go_sem, simprocAttr, PI, List.map_cons, List.map_nil, List.length_map]; try rfl)
    · exact KeepsF.frz rfl (KeepsF.mem ((KeepsF.enter hB).new (d := 4) rfl) fun o _ => rfl)
    intro k τ hJ
    obtain ⟨hk, rr, σ0, hkp, hInv⟩ := hJ
    have r1 := rr.r1
    have r2 := rr.r2
    have r3 := rr.r3
    have r4 := rr.r4
    have r14 := rr.r14
    have r15 := rr.r15
    by_cases hkl : k < after.length
    · have hkI : ((k : Int) < (after.length : Int)) = True := eq_true (by omega)
      have hwk := wrap_succ (n := after.length) hkl (by simp only [maxLen]; omega)
      have h2 := u32_bit (k := k) hw
      have s1 := u32_shr (b := left) (k := k) (by omega)
      have hX : extS after left k = (left.testBit k && freeE after left k) := rfl
      have hfree := t135 after left k (by omega) ha hw (by omega)
      have hno : extS after left k = false → partF after f row left (k + 1) = partF after f row left k := fun h => by rw [partF_s, if_neg (by rw [h]; decide), List.append_nil]
      cases hc1 : left.testBit k with
      | false =>
        rw [hc1] at h2 hX
        simp only [Bool.false_eq_true, if_false] at h2
        (refine rO ?_; repeat' ((with_reducible first | refine rG ?_ | (refine rS ?_ ?_ <;> intro hp) | (refine rB ?_ ?_ <;> intro hb <;> try rw [hb]) | refine rA ?_ | fail) <;> try simp only [go_sem, simprocAttr, PI, PY, r1, r2, r3, r4, r14, r15, s1, h2, hwk, hkI]))
        refine ⟨_, k + 1, Ghost.refl _, ⟨hkl, ⟨?_, ?_, ?_, ?_, ?_, ?_⟩, σ0, hkp.mem fun o _ => rfl, by rw [hno hX]; exact hInv⟩, by omega⟩
        iterate 6 (· simp only [go_sem, simprocAttr, r1, r2, r3, r4, r14, r15, hwk])
      | true =>
        rw [hc1] at h2 hX
        simp only [if_true] at h2
        (refine rO ?_; repeat' ((with_reducible first | refine rG ?_ | (refine rS ?_ ?_ <;> intro hp) | (refine rB ?_ ?_ <;> intro hb <;> try rw [hb]) | refine rA ?_ | fail) <;> try simp only [go_sem, simprocAttr, PI, PY, r1, r2, r3, r4, r14, r15, s1, h2, hwk, hkI]))
        refine call_dat hfree ?_
        cases hc2 : freeE after left k with
        | false =>
          rw [hc2] at hX
          (refine rO ?_; repeat' ((with_reducible first | refine rG ?_ | (refine rS ?_ ?_ <;> intro hp) | (refine rB ?_ ?_ <;> intro hb <;> try rw [hb]) | refine rA ?_ | fail) <;> try simp only [go_sem, simprocAttr, PI, PY, r1, r2, r3, r4, r14, r15, s1, h2, hwk, hkI]))
          refine ⟨_, k + 1, Ghost.refl _, ⟨hkl, ⟨?_, ?_, ?_, ?_, ?_, ?_⟩, σ0, hkp.mem fun o _ => rfl, by rw [hno hX]; exact hInv⟩, by omega⟩
          iterate 6 (· simp only [go_sem, simprocAttr, r1, r2, r3, r4, r14, r15, hwk])
        | true =>
          rw [hc2] at hX
          have hb := u32_andn (a := left) (b := 2 ^ k) hw (Nat.pow_lt_pow_right (by omega) (by omega))
          have hsh := u32_shl (k := k) (by omega)
          (refine rO ?_; repeat' ((with_reducible first | refine rG ?_ | (refine rS ?_ ?_ <;> intro hp) | (refine rB ?_ ?_ <;> intro hb <;> try rw [hb]) | refine rA ?_ | fail) <;> try simp only [go_sem, simprocAttr, PI, PY, r1, r2, r3, r4, r14, r15, s1, h2, hwk, hkI]))
          refine draw_I (RB L T.toList after row left k (BdE (f + 1)) σ0) (fun i τ => GX after row left k i (τ.regs (30 + i)) τ.mem) (by decide +kernel) ⟨⟨?_, ?_, ?_, ?_, ?_, ?_⟩, ?_, hkp.mem fun o _ => rfl⟩ (fun j o ho τ2 hb2 hdep => ?_) (fun τ2 hb2 hF => ?_)
          iterate 7 (· simp only [go_sem, simprocAttr, r1, r2, r3, r4, r14, r15])
          · show opsA _ _ _ [o] τ2 (PostX L T.toList after row left k (BdE (f + 1)) σ0 j τ2)
            have q1 := hb2.rr.r1
            have q2 := hb2.rr.r2
            have q3 := hb2.rr.r3
            have q5 := hb2.r5
            match j, ho, hdep with
            | 0, ho, hdep =>
              obtain rfl := Option.some.inj ho
              (refine rO ?_; repeat' ((with_reducible first | refine rG ?_ | (refine rS ?_ ?_ <;> intro hp) | (refine rB ?_ ?_ <;> intro hb <;> try rw [hb]) | refine rD ?_ | refine rA ?_ | fail) <;> try simp only [go_sem, simprocAttr, q1, q2, q3, q5]))
              exact postX_put (j := 0) hb2 rfl
            | 1, ho, hdep =>
              obtain rfl := Option.some.inj ho
              (refine rO ?_; repeat' ((with_reducible first | refine rG ?_ | (refine rS ?_ ?_ <;> intro hp) | (refine rB ?_ ?_ <;> intro hb <;> try rw [hb]) | refine rD ?_ | refine rA ?_ | fail) <;> try simp only [go_sem, simprocAttr, q1, q2, q3, q5]))
              exact postX_put (j := 1) hb2 rfl
            | 2, ho, hdep =>
              obtain rfl := Option.some.inj ho
              have d1 : τ2.regs 31 = _ := hdep 1 (by decide +kernel)
              (refine rO ?_; repeat' ((with_reducible first | refine rG ?_ | (refine rS ?_ ?_ <;> intro hp) | (refine rB ?_ ?_ <;> intro hb <;> try rw [hb]) | refine rD ?_ | refine rA ?_ | fail) <;> try simp only [go_sem, simprocAttr, q1, q2, q3, q5, d1]))
              refine call_dat (t138 (rowI row)) ?_
              (refine rO ?_; repeat' ((with_reducible first | refine rG ?_ | (refine rS ?_ ?_ <;> intro hp) | (refine rB ?_ ?_ <;> intro hb <;> try rw [hb]) | refine rD ?_ | refine rA ?_ | fail) <;> try simp only [go_sem, simprocAttr]))
              exact postX_put (j := 2) hb2 rfl
            | 3, ho, hdep =>
              obtain rfl := Option.some.inj ho
              (refine rO ?_; repeat' ((with_reducible first | refine rG ?_ | (refine rS ?_ ?_ <;> intro hp) | (refine rB ?_ ?_ <;> intro hb <;> try rw [hb]) | refine rD ?_ | refine rA ?_ | fail) <;> try simp only [go_sem, simprocAttr, q1, q2, q3, q5]))
              exact postX_put (j := 3) hb2 rfl
            | 4, ho, hdep =>
              obtain rfl := Option.some.inj ho
              have d3 : τ2.regs 33 = _ := hdep 3 (by decide +kernel)
              (refine rO ?_; repeat' ((with_reducible first | refine rG ?_ | (refine rS ?_ ?_ <;> intro hp) | (refine rB ?_ ?_ <;> intro hb <;> try rw [hb]) | refine rD ?_ | refine rA ?_ | fail) <;> try simp only [go_sem, simprocAttr, q1, q2, q3, q5, d3]))
              exact postX_new (j := 4) (.inl rfl) hb2 ⟨rfl, by simp; rfl⟩
            | 5, ho, hdep =>
              obtain rfl := Option.some.inj ho
              have d2 : τ2.regs 32 = _ := hdep 2 (by decide +kernel)
              obtain ⟨d4, m4⟩ : τ2.regs 34 = .own 34 ∧ τ2.mem 34 = _ := hdep 4 (by decide +kernel)
              have hrw : (rowI row).map ienc ++ [ienc k] = (rowI (row ++ [k])).map ienc := by simp [rowI]
              (refine rO ?_; repeat' ((with_reducible first | refine rG ?_ | (refine rS ?_ ?_ <;> intro hp) | (refine rB ?_ ?_ <;> intro hb <;> try rw [hb]) | refine rD ?_ | refine rA ?_ | fail) <;> try simp only [go_sem, simprocAttr, q1, q2, q3, q5, d2, d4, m4]))
              refine ⟨rfl, by simp [rowI]; omega, ?_⟩
              rw [hrw]
              exact postX_new (j := 5) (.inr rfl) hb2 (.inl ⟨rfl, by simp⟩)
            | 6, ho, hdep =>
              obtain rfl := Option.some.inj ho
              (refine rO ?_; repeat' ((with_reducible first | refine rG ?_ | (refine rS ?_ ?_ <;> intro hp) | (refine rB ?_ ?_ <;> intro hb <;> try rw [hb]) | refine rD ?_ | refine rA ?_ | fail) <;> try simp only [go_sem, simprocAttr, q1, q2, q3, q5]))
              exact postX_put (j := 6) hb2 rfl
            | 7, ho, hdep =>
              obtain rfl := Option.some.inj ho
              (refine rO ?_; repeat' ((with_reducible first | refine rG ?_ | (refine rS ?_ ?_ <;> intro hp) | (refine rB ?_ ?_ <;> intro hb <;> try rw [hb]) | refine rD ?_ | refine rA ?_ | fail) <;> try simp only [go_sem, simprocAttr, q1, q2, q3, q5]))
              exact postX_put (j := 7) hb2 rfl
            | 8, ho, hdep =>
              obtain rfl := Option.some.inj ho
              have d7 : τ2.regs 37 = _ := hdep 7 (by decide +kernel)
              (refine rO ?_; repeat' ((with_reducible first | refine rG ?_ | (refine rS ?_ ?_ <;> intro hp) | (refine rB ?_ ?_ <;> intro hb <;> try rw [hb]) | refine rD ?_ | refine rA ?_ | fail) <;> try simp only [go_sem, simprocAttr, q1, q2, q3, q5, d7, hsh]))
              exact postX_put (j := 8) hb2 rfl
            | 9, ho, hdep =>
              obtain rfl := Option.some.inj ho
              have d6 : τ2.regs 36 = _ := hdep 6 (by decide +kernel)
              have d8 : τ2.regs 38 = _ := hdep 8 (by decide +kernel)
              (refine rO ?_; repeat' ((with_reducible first | refine rG ?_ | (refine rS ?_ ?_ <;> intro hp) | (refine rB ?_ ?_ <;> intro hb <;> try rw [hb]) | refine rD ?_ | refine rA ?_ | fail) <;> try simp only [go_sem, simprocAttr, q1, q2, q3, q5, d6, d8, hb]))
              exact postX_put (j := 9) hb2 rfl
            | 10, ho, hdep =>
              obtain rfl := Option.some.inj ho
              have d0 : τ2.regs 30 = _ := hdep 0 (by decide +kernel)
              have d9 : τ2.regs 39 = _ := hdep 9 (by decide +kernel)
              have d5 := hdep 5 (by decide +kernel)
              rcases d5 with ⟨d5, m5⟩ | d5
              · replace d5 : τ2.regs 35 = .own 35 := d5
                (refine rO ?_; repeat' ((with_reducible first | refine rG ?_ | (refine rS ?_ ?_ <;> intro hp) | (refine rB ?_ ?_ <;> intro hb <;> try rw [hb]) | refine rD ?_ | refine rA ?_ | fail) <;> try simp only [go_sem, simprocAttr, q1, q2, q3, q5, d0, d9, d5, m5]))
                refine call_rest _ (t116 after (rowI (row ++ [k])) (andN left (2 ^ k))) ?_
                simp only [go_sem, simprocAttr, m5]
                exact postX_frz hb2 rfl
              · replace d5 : τ2.regs 35 = .a (intsA (rowI (row ++ [k]))) := d5
                (refine rO ?_; repeat' ((with_reducible first | refine rG ?_ | (refine rS ?_ ?_ <;> intro hp) | (refine rB ?_ ?_ <;> intro hb <;> try rw [hb]) | refine rD ?_ | refine rA ?_ | fail) <;> try simp only [go_sem, simprocAttr, q1, q2, q3, q5, d0, d9, d5]))
                refine call_dat (t116 after (rowI (row ++ [k])) (andN left (2 ^ k))) ?_
                (refine rO ?_; repeat' ((with_reducible first | refine rG ?_ | (refine rS ?_ ?_ <;> intro hp) | (refine rB ?_ ?_ <;> intro hb <;> try rw [hb]) | refine rD ?_ | refine rA ?_ | fail) <;> try simp only [go_sem, simprocAttr]))
                exact postX_put (j := 10) hb2 rfl
            | n + 11, ho, hdep => exact absurd (List.getElem?_eq_some_iff.1 ho).1 (by simp)
          replace hX : extS after left k = true := hX
          have q1 := hb2.rr.r1
          have q40 : τ2.regs 40 = .a (.d (.fn 120 (capE after (row ++ [k]) (andN left (2 ^ k))))) := hF 10 (by simp)
          have hcb := cntB_clr hc1 hkl
          have hit := ih (row ++ [k]) (andN left (2 ^ k)) (by omega) (andN_lt2 hlt) (by omega) (by simp; omega)
          have hBf : BdE (f + 1) + 1000000 ≤ BdE f := by unfold BdE; omega
          refine range_semF (p := 41) (ItK L T.toList after row left f Inv k) (ItD T.toList f Done) q40 hit (decide_eq_true (by unfold BdE; omega)) (by kernel_rfl) (by kernel_rfl) (fun i τ3 τ4 hu h => ?_) (fun e τ3 τ4 hu h => ?_) (fun L2 r2 => ?_) (fun L2 T2 r2 i x τ3 hrs hx hI3 hrec hlog => AwpE.of ?_) (fun τ3 hI3 => ?_) (fun e τ3 hD3 => ?_)
          · obtain ⟨rr3, σ3, hkp3, hInv3⟩ := h
            exact ⟨⟨hu.r rr3.r1 fineR_a, hu.r rr3.r2 fineR_a, hu.r rr3.r3 fineR_a, hu.r rr3.r4 fineR_a, hu.r rr3.r14 fineR_a, hu.r rr3.r15 fineR_a⟩, σ3, hkp3.left hBf hu, hInv3⟩
          · obtain ⟨ex, σ3, hkp3, hD3⟩ := h
            exact ⟨ex, σ3, hkp3.left hBf hu, hD3⟩
          · have q := hb2.rr
            refine ⟨⟨?_, ?_, ?_, ?_, ?_, ?_⟩, σ0, hb2.kp.new rfl, hInv⟩
            iterate 6 (· simp only [go_sem, simprocAttr, q.r1, q.r2, q.r3, q.r4, q.r14, q.r15])
          · obtain ⟨rr3, σ3, hkp3, hInv3⟩ := hI3
            have p1 := rr3.r1
            have p2 := rr3.r2
            have p3 := rr3.r3
            have p4 := rr3.r4
            have p14 := rr3.r14
            have p15 := rr3.r15
            obtain ⟨r', hr', rfl⟩ := rowsC_at hx
            have hx2 := rowsC_of (part_at hkl hX hr')
            (refine rO ?_; repeat' ((with_reducible first | refine rG ?_ | (refine rS ?_ ?_ <;> intro hp) | (refine rB ?_ ?_ <;> intro hb <;> try rw [hb]) | refine rA ?_ | fail) <;> try simp only [go_sem, simprocAttr, PI, PY, PF, PFF, tiY, tiZ, p1, p2, p3, p4, p14, p15, hrec, hlog]))
            refine yield_row2 (B := BdE (f + 1)) (σ0 := σ3) (L := L) (T := T) (vs := T2) (rs2 := killR 999996 τ3.regs) (L2 := L2) (r2 := { r2 with state := .busy }) hB ?_ ?_ ?_ ?_ ?_ ?_ hx2 hInv3 hI hY (fun σ' hA => ?_) (fun σ' hA => ?_)
            · exact KeepsF.mem (KeepsF.set (d := 999997) (x := .sem (recOb L2 { r2 with state := .busy })) rfl (KeepsF.rnd (us := T2) (p := 41) hkp3)) fun o _ => rfl
            iterate 5 (· simp only [go_sem, simprocAttr, PI, PF, PFF, hlog, p4]; try rfl)
            · (refine rO ?_; repeat' ((with_reducible first | refine rG ?_ | (refine rS ?_ ?_ <;> intro hp) | (refine rB ?_ ?_ <;> intro hb <;> try rw [hb]) | refine rA ?_ | fail) <;> try simp only [go_sem, simprocAttr, PI, PY, PF, PFF, p1, p2, p3, p4, p14, p15]))
              refine ⟨_, Ghost.refl _, ?_, ⟨?_, ?_, ?_, ?_, ?_, ?_⟩, σ', ?_, ?_⟩
              iterate 7 (· simp only [go_sem, simprocAttr, PI, PY, PF, PFF, p1, p2, p3, p4, p14, p15, mv_a, pu_a])
              · exact KeepsF.back (KeepsF.set rfl (KeepsF.mem (KeepsF.again2 (vs := T2) (rs := fun t => (R.kill 999996 (τ3.regs t)).mv 999995 (upId 999995)) (L2 := L2) (r2 := { r2 with state := .busy }) hB) fun o _ => rfl))
              · rw [← Nat.add_assoc]; exact hA
            · (refine rO ?_; repeat' ((with_reducible first | refine rG ?_ | (refine rS ?_ ?_ <;> intro hp) | (refine rB ?_ ?_ <;> intro hb <;> try rw [hb]) | refine rA ?_ | fail) <;> try simp only [go_sem, simprocAttr, PI, PY, PF, PFF, p1, p2, p3, p4, p14, p15]))
              refine ⟨rfl, rfl, σ', ?_, hA⟩
              exact KeepsF.back (KeepsF.set rfl (KeepsF.mem (KeepsF.again2 (vs := T2) (rs := fun t => (R.kill 999996 (τ3.regs t)).mv 999995 (upId 999995)) (L2 := L2) (r2 := { r2 with state := .busy }) hB) fun o _ => rfl))
          · obtain ⟨rr3, σ3, hkp3, hInv3⟩ := hI3
            have p1 := rr3.r1
            have p2 := rr3.r2
            have p3 := rr3.r3
            have p4 := rr3.r4
            have p14 := rr3.r14
            have p15 := rr3.r15
            (refine rO ?_; repeat' ((with_reducible first | refine rG ?_ | (refine rS ?_ ?_ <;> intro hp) | (refine rB ?_ ?_ <;> intro hb <;> try rw [hb]) | refine rA ?_ | fail) <;> try simp only [go_sem, simprocAttr, PI, PY, PF, PFF, p1, p2, p3, p4, p14, p15, hwk]))
            refine ⟨_, k + 1, Ghost.refl _, ⟨hkl, ⟨?_, ?_, ?_, ?_, ?_, ?_⟩, σ3, KeepsF.mem (KeepsF.del (d := 999997) rfl hkp3) fun o _ => rfl, ?_⟩, by omega⟩
            iterate 6 (· simp only [go_sem, simprocAttr, PF, p1, p2, p3, p4, p14, p15, hwk])
            rw [partF_s, if_pos hX, List.length_append]
            rw [rowsC_len] at hInv3
            exact hInv3
          · obtain ⟨rfl, σ3, hkp3, hD3⟩ := hD3
            (refine rO ?_; repeat' ((with_reducible first | refine rG ?_ | (refine rS ?_ ?_ <;> intro hp) | (refine rB ?_ ?_ <;> intro hb <;> try rw [hb]) | refine rA ?_ | fail) <;> try simp only [go_sem, simprocAttr, PI, PY, PF, PFF]))
            refine iter_end (.inr rfl) (by simp only [go_sem, simprocAttr, PF, hkp3.fr]) (.inr ?_)
            exact hD _ _ (KeepsF.leave hB (KeepsF.mem (KeepsF.del (d := 999997) rfl hkp3) fun o _ => rfl)) hD3
    · have hkn : k = after.length := by omega
      have hkI : ((k : Int) < (after.length : Int)) = False := eq_false (by omega)
      (refine rO ?_; repeat' ((with_reducible first | refine rG ?_ | (refine rS ?_ ?_ <;> intro hp) | (refine rB ?_ ?_ <;> intro hb <;> try rw [hb]) | refine rA ?_ | fail) <;> try simp only [go_sem, simprocAttr, PI, PY, r1, r2, r3, r4, r14, r15, hkI]))
      subst hkn
      refine iter_end (.inl rfl) (by simp only [go_sem, simprocAttr, hkp.fr]) (.inl ?_)
      rw [rowsC_len]
      exact hI _ _ _ (KeepsF.leave hB (hkp.mem fun o _ => rfl)) hInv
end Go.VC
end
section
set_option maxRecDepth 100000
set_option linter.unusedSimpArgs false
set_option linter.unusedVariables false
set_option linter.unnecessarySimpa false
set_option linter.defProp false
namespace Go.VC
open Go.RowKit Go.Proofs Go.IntWalk
theorem fineR_ref {q o f : Nat} (h : (o == q) = false) : FineR q (.ref o f) := by
  have h1 : R.down (R.up (.ref o f)) = .ref o f := by simp [R.up, R.down, upId_le, upId_sub]
  have h2 : R.kill q (.ref o f) = .ref o f := by simp [R.kill, R.says, R.says0, h]
  exact ⟨h1, by rw [h2]; exact h1⟩
def FineC (q : Nat) (r : R) : Prop := FineR q r ∧ ∀ a, a < 1000000 → (r.up.mv a (upId q)).down = r
theorem fineO_box {q : Nat} {cs : List R} (h : ∀ r ∈ cs, FineC q r) : FineO q (.box cs) := by
  refine ⟨?_, ?_, fun a ha => ?_⟩
  · simp only [Ob.up, Ob.down, List.map_map]
    congr 1
    exact (List.map_congr_left fun r hr => (h r hr).1.1).trans (List.map_id _)
  · simp only [Ob.up, Ob.kill, Ob.down, List.map_map]
    congr 1
    refine (List.map_congr_left fun r hr => ?_).trans (List.map_id _)
    show (r.up.kill (upId q)).down = r
    rw [kill_up_hi]; exact (h r hr).1.2
  · simp only [Ob.up, Ob.mv, Ob.down, List.map_map]
    congr 1
    exact (List.map_congr_left fun r hr => (h r hr).2 a ha).trans (List.map_id _)
theorem fineC_own {q o : Nat} (h : (o == q) = false) : FineC q (.own o) := ⟨fineR_own h, fun a ha => by
  have h1 : R.mv a (upId q) (R.up (.own o)) = R.up (.own o) := by
    show R.mv a (upId q) (.own (upId o)) = .own (upId o)
    exact mv_ownn (by rw [up_up]; exact h) (by have := upId_le o; simp; omega)
  rw [h1]; exact down_own⟩
theorem k_tiesB {o : Nat} {vals : List Value} (hl : vals.length ≤ 80000) (h : (decide (o < 710000) || decide (790000 ≤ o)) = true) : Ob.kill o (.sem (ties 710000 vals)) = .sem (ties 710000 vals) := by
  have : ((ties 710000 vals).os.any fun o' => o' == o) = false := by
    rw [List.any_eq_false]
    intro x hx
    have := ties_os hx
    simp only [Bool.or_eq_true, decide_eq_true_eq] at h
    simp; omega
  simp only [Ob.kill]; rw [this]; rfl
theorem rid_beq {c n : Nat} (h : c < 710000 ∨ 710000 + n < c) : (c == 710000 + n) = false := by simp; omega
theorem rid_beq' {c n : Nat} (h : c < 710000 ∨ 710000 + n < c) : (710000 + n == c) = false := by simp; omega
structure ApI (rows : List (List Int)) (j : Nat) (σ : S) : Prop where
  le : j ≤ rows.length
  r2 : σ.regs 2 = .ref 2 0
  m2 : σ.mem 2 = some (.box [.own 600000])
  vs : ∃ vals : List Value, vals.length = j ∧ σ.mem 700001 = some (.sem (ties 710000 vals)) ∧ σ.mem 600000 = some (.log 24 1 (vals.map fun v => [.v v])) ∧ ∀ i r, i < j → rows[i]? = some r → σ.mem (710000 + i) = some (.log 3 1 (r.map ienc))
theorem rowsD_at {rows : List (List Int)} {i : Nat} {x : List (List D)} (h : (rows.map fun r => r.map ienc)[i]? = some x) : ∃ r, rows[i]? = some r ∧ x = r.map ienc := by
  rw [List.getElem?_map] at h
  obtain ⟨r, hr, rfl⟩ := Option.map_eq_some_iff.1 h
  exact ⟨r, hr, rfl⟩
theorem t1230 {B : Nat} {g : FuncId} {caps : List D} {rows : List (List Int)} (hB : decide (1000000 ≤ B) = true) (hit : IterF B Tryd.prog GL g caps 3 1 (rows.map fun r => r.map ienc)) (hlen : rows.length ≤ 79000) :
    HoldsRows Tryd.prog GL 87 [.cs [], .a (.d (.fn g caps))] 24 3 rows [] := by
  refine rows_of (t0 := 4) (tl := []) (by kernel_rfl) Tryd.func87 rfl rfl (by kernel_rfl) (by kernel_rfl) (by kernel_rfl) rfl rfl (awpE_nil (p := 0) (d := 600000) (e := 24) rfl ?_)
  have hB0 := of_decide_eq_true hB
  (refine rO ?_; repeat' ((with_reducible first | refine rG ?_ | (refine rS ?_ ?_ <;> intro hp) | (refine rB ?_ ?_ <;> intro hb <;> try rw [hb]) | refine rA ?_ | fail) <;> try simp only [go_sem, simprocAttr, pin_r, pin_m, List.getElem?_cons_zero, List.getElem?_cons_succ, Option.getD_some]))
  refine sc_ghost (g_ties0 (o := 700001) (base := 710000)) ?_
  refine range_semF (p := 7) (ApI rows) (fun _ _ => False) (by simp only [go_sem, simprocAttr, pin_r, pin_m, List.getElem?_cons_zero, List.getElem?_cons_succ, Option.getD_some]) hit hB (by kernel_rfl) (by kernel_rfl) (fun j τ τ' hu h => ?_) (fun _ _ _ _ h => h) (fun L r => ?_) (fun L T r j x τ hrs hx hI hrec hlog => awpE_tie (p := 7) (e := 3) (sz := 1) (x := x) ?_ ?_ fun v => ?_) (fun τ hI => ?_) (fun _ _ h => h.elim)
  · obtain ⟨le, r2, m2, vals, hl, m1, mq, mr⟩ := h
    refine ⟨le, hu.r r2 (fineR_ref rfl), hu.m rfl (decide_eq_true (by omega)) m2 (fineO_box fun r hr => ?_), vals, hl, hu.m rfl (decide_eq_true (by omega)) m1 (fineO_ties (by omega)), hu.m rfl (decide_eq_true (by omega)) mq fineO_log, fun i r hi hr => hu.m (by simp; omega) (decide_eq_true (by omega)) (mr i r hi hr) fineO_log⟩
    obtain rfl := List.mem_singleton.1 hr
    exact fineC_own rfl
  · exact ⟨Nat.zero_le _, by simp only [go_sem, simprocAttr], by simp only [go_sem, simprocAttr], [], rfl, by simp only [go_sem, simprocAttr]; rfl, by simp only [go_sem, simprocAttr, k_log], fun i r h => absurd h (by omega)⟩
  · simp only [go_sem, simprocAttr, PF, PFF]
  · simp only [go_sem, simprocAttr, PF, PFF, hlog]
  · obtain ⟨le, r2, m2, vals, hl, m1, mq, mr⟩ := hI
    obtain ⟨row, hrow, rfl⟩ := rowsD_at hx
    have hjl := (List.getElem?_eq_some_iff.1 hrow).1
    have hvl : vals.length ≤ 80000 := by omega
    have hcap : ((vals.map fun v => [D.v v]).length + 1) * 24 ≤ 140737488355328 := by simp; omega
    (refine rO ?_; repeat' ((with_reducible first | refine rG ?_ | (refine rS ?_ ?_ <;> intro hp) | (refine rB ?_ ?_ <;> intro hb <;> try rw [hb]) | refine rA ?_ | fail) <;> try simp only [go_sem, simprocAttr, PF, PFF, r2, m2, hrec, hlog, mq]))
    have b2 : ((2 : Nat) == 710000 + vals.length) = false := rid_beq (by omega)
    have b6 : ((600000 : Nat) == 710000 + vals.length) = false := rid_beq (by omega)
    have b97 : ((999997 : Nat) == 710000 + vals.length) = false := rid_beq (by omega)
    refine ⟨_, g_take (v := v) (vals := vals) (e := 3) (sz := 1) (x := row.map ienc) (by omega) ?_ ?_ ?_, ?_, ?_, ?_, ?_, vals ++ [v], ?_, ?_, ?_, fun i r hi hr => ?_⟩
    iterate 4 (· simp only [go_sem, simprocAttr, PF, PFF, hlog, k_tie1, m1, k_tiesB hvl, k_ties, PM, b97])
    · omega
    · simp only [go_sem, simprocAttr, PF, PFF, PM, b2, r2]
    · simp only [go_sem, simprocAttr, PF, PFF, PM, b2, b6, m2]
    · simp [hl]
    · simp only [go_sem, simprocAttr, PF, PFF, PM]
    · simp only [go_sem, simprocAttr, PF, PFF, PM, b6, List.map_append, List.map_cons, List.map_nil]
    · by_cases e : i = vals.length
      · subst e
        rw [hl, hrow] at hr; cases hr
        have n1 : ¬ vals.length = 289995 := by omega
        simp [S.setOb, S.mv, S.back, S.newOb, S.put, S.rndF, upd, hlog, n1, show ¬ 710000 + vals.length = 700001 by omega, Ob.kill, Ob.mv]
      · have hij : i < j := by omega
        have h := mr i r hij hr
        simp [S.setOb, S.mv, S.back, S.newOb, S.put, S.rndF, upd, h, e, show ¬ 710000 + i = 700001 by omega, show ¬ 710000 + i = 999995 by omega, show ¬ 710000 + i = 999996 by omega, show ¬ 710000 + i = 999997 by omega, show ¬ 710000 + i = 2 by omega, show ¬ 710000 + i = 600000 by omega, show ¬ 710000 + i = 10 by omega, show ¬ 710000 + i = 999994 by omega, Ob.kill, Ob.mv]
  · obtain ⟨le, r2, m2, vals, hl, m1, mq, mr⟩ := hI
    rw [List.length_map] at hl mr
    (refine rO ?_; repeat' ((with_reducible first | refine rG ?_ | (refine rS ?_ ?_ <;> intro hp) | (refine rB ?_ ?_ <;> intro hb <;> try rw [hb]) | refine rA ?_ | fail) <;> try simp only [go_sem, simprocAttr, PF, PFF, r2, m2, mq]))
    refine ⟨600000, vals, by omega, ?_, ?_, ?_, hl, fun i r hr => ?_, rfl⟩
    iterate 3 (· simp only [go_sem, simprocAttr, PF, mq, m1])
    · have h := mr i r (List.getElem?_eq_some_iff.1 hr).1 hr
      have hi := (List.getElem?_eq_some_iff.1 hr).1
      have b97 : ((710000 + i : Nat) == 999997) = false := by simp; omega
      simp only [go_sem, simprocAttr, PF, b97, h]
theorem t1194 {B : Nat} {g : FuncId} {caps : List D} {rows : List (List Int)} (hB : decide (1000000 ≤ B) = true) (hit : IterF B Tryd.prog GL g caps 3 1 (rows.map fun r => r.map ienc)) (hlen : rows.length ≤ 79000) :
    HoldsRows Tryd.prog GL 55 [.a (.d (.fn g caps))] 24 3 rows [] := by
  refine rows_of (t0 := 2) (tl := []) (by kernel_rfl) Tryd.func55 rfl rfl (by kernel_rfl) (by kernel_rfl) (by kernel_rfl) rfl rfl (AwpE.of ?_)
  (refine rO ?_; repeat' ((with_reducible first | refine rG ?_ | (refine rS ?_ ?_ <;> intro hp) | (refine rB ?_ ?_ <;> intro hb <;> try rw [hb]) | refine rA ?_ | fail) <;> try simp only [go_sem, simprocAttr, pin_r, pin_m, List.getElem?_cons_zero, List.getElem?_cons_succ, Option.getD_some]))
  refine call_inl (inl_rows (t1230 hB hit hlen) rfl (by omega) fun vals hl => ?_)
  (refine rO ?_; repeat' ((with_reducible first | refine rG ?_ | (refine rS ?_ ?_ <;> intro hp) | (refine rB ?_ ?_ <;> intro hb <;> try rw [hb]) | refine rA ?_ | fail) <;> try simp only [go_sem, simprocAttr]))
  refine ⟨700000, vals, by omega, ?_, ?_, ?_, hl, fun i r hr => ?_, rfl⟩
  iterate 3 (· simp only [go_sem, simprocAttr, PBR])
  · exact br_i (by omega) hr
/-- All rows that keep an order. -/
def allRows (after : List Nat) : List (List Nat) := rowsF after after.length [] (2 ^ after.length - 1)
theorem t1140 (after : List Nat) (hl : after.length ≤ 6) (ha : ∀ b ∈ after, b < 2 ^ 32) (hm : mayX after = 0) (hlen : (allRows after).length ≤ 79000) : HoldsRows Tryd.prog GL 32 [.a (unsA after)] 24 3 ((allRows after).map rowI) [I 0] := by
  refine rows_of (t0 := 2) (tl := [3]) (by kernel_rfl) Tryd.func32 rfl rfl (by kernel_rfl) (by kernel_rfl) (by kernel_rfl) rfl rfl (AwpE.of ?_)
  have h86 := t86 after hl ha
  rw [hm] at h86
  have h6 := two6 hl
  have h1 : 1 ≤ 2 ^ after.length := Nat.one_le_two_pow
  have hit := iter136 after hl ha after.length [] (2 ^ after.length - 1) hl (by omega) (by rw [cntB_all _ _ (Nat.le_refl _)]; exact Nat.le_refl _) (by simp; omega)
  have e1 : rowsC (rowsF after after.length [] (2 ^ after.length - 1)) = ((allRows after).map rowI).map fun r => r.map ienc := by simp [rowsC, allRows]
  rw [e1] at hit
  (refine rO ?_; repeat' ((with_reducible first | refine rG ?_ | (refine rS ?_ ?_ <;> intro hp) | (refine rB ?_ ?_ <;> intro hb <;> try rw [hb]) | refine rA ?_ | fail) <;> try simp only [go_sem, simprocAttr, pin_r, pin_m, List.getElem?_cons_zero, List.getElem?_cons_succ, Option.getD_some]))
  refine call_dat h86 ?_
  (refine rO ?_; repeat' ((with_reducible first | refine rG ?_ | (refine rS ?_ ?_ <;> intro hp) | (refine rB ?_ ?_ <;> intro hb <;> try rw [hb]) | refine rA ?_ | fail) <;> try simp only [go_sem, simprocAttr]))
  refine call_dat (t87 after hl) ?_
  (refine rO ?_; repeat' ((with_reducible first | refine rG ?_ | (refine rS ?_ ?_ <;> intro hp) | (refine rB ?_ ?_ <;> intro hb <;> try rw [hb]) | refine rA ?_ | fail) <;> try simp only [go_sem, simprocAttr]))
  refine call_inl (inl_rows (t1194 (B := BdE after.length) (decide_eq_true (by unfold BdE; omega)) hit (by simpa using hlen)) rfl (by simp; omega) fun vals hl => ?_)
  (refine rO ?_; repeat' ((with_reducible first | refine rG ?_ | (refine rS ?_ ?_ <;> intro hp) | (refine rB ?_ ?_ <;> intro hb <;> try rw [hb]) | refine rA ?_ | fail) <;> try simp only [go_sem, simprocAttr, PBR]))
  refine ⟨700000, vals, by omega, ?_, ?_, ?_, hl, fun i r hr => ?_, ?_⟩
  iterate 3 (· simp only [go_sem, simprocAttr, PBR])
  · have hlen' : ((allRows after).map rowI).length ≤ 80000 := by simp; omega
    exact br_i hlen' hr
  · simp only [go_sem, simprocAttr, PBR, List.map_cons, List.map_nil]
end Go.VC
end
section
set_option maxRecDepth 100000
set_option linter.unusedSimpArgs false
set_option linter.unusedVariables false
set_option linter.unnecessarySimpa false
namespace Go.VC
open Go.RowKit Go.Proofs Go.IntWalk
abbrev Op.a (o : Op) : A := .ag [dB o.w, dI o.var, dI o.val]
def getM : List Op → Int → Int
  | [], _ => 0
  | o :: m, v => if o.var = v then o.val else getM m v
/-- Two memories are the same. -/
def MemRel (m : List Op) (ms : List Int) : Prop := ms.length = 8 ∧ ∀ v : Nat, v < 8 → ms.getD v 0 = getM m v
theorem MemRel.wrt {m : List Op} {ms : List Int} (h : MemRel m ms) (o : Op) (hv : 0 ≤ o.var ∧ o.var < 8) : MemRel (if o.w then o :: m else m) (wrt ms o) := by
  unfold VC.wrt
  split
  · refine ⟨by rw [List.length_set]; exact h.1, fun v hv8 => ?_⟩
    have := h.1
    rw [List.getD_eq_getElem?_getD, List.getElem?_set]
    by_cases e : o.var.toNat = v
    · rw [if_pos e, if_pos (by omega)]
      simp only [getM, Option.getD_some]
      rw [if_pos (by omega)]
    · rw [if_neg e, ← List.getD_eq_getElem?_getD, h.2 v hv8]
      simp only [getM]
      rw [if_neg (by omega)]
  · exact h
end Go.VC
end
section
set_option maxRecDepth 100000
set_option linter.unusedSimpArgs false
set_option linter.unusedVariables false
namespace Go.VC
open Go.RowKit Go.Proofs
/-- A piece of code by what it does; the deferred calls stay as they are. -/
def SemD (P : Program) (gl : Nat → Option (List D)) (code : Code) (Q : Ex → S → Prop) (σ : S) : Prop :=
  ∀ (c : Cx) (β : Nat → Value) (a : Act) (w : World) (n : Nat), c.P = P → c.gl = gl → c.P.follows .mixedOrders = true → dstOK c.N code = true → Sim c σ β a w → code.wpIn (WF none) n c.P (fun e a' w' => a'.defers = a.defers ∧ Qh c Q e a' w') a w
section
variable {P : Program} {gl : Nat → Option (List D)} {σ : S} {Q : Ex → S → Prop}
theorem sd_skip (h : Q .normal σ) : SemD P gl .skip Q σ := fun c β a w n hP hgl hm hd hs => wpIn_skip ⟨rfl, σ, β, hs, h⟩
theorem sd_seq {x y : Code} (h : SemD P gl x (Ex.then (SemD P gl y Q) Q) σ) : SemD P gl (.seq x y) Q σ := fun c β a w n hP hgl hm hd hs => by
  simp only [dstOK, Bool.and_eq_true] at hd
  refine wpIn_seq (wpIn_mono (h c β a w n hP hgl hm hd.1 hs) fun e a' w' he => ?_)
  obtain ⟨hD, he⟩ := he
  cases e with
  | normal =>
    obtain ⟨σ', β', hs', hk⟩ := he
    exact wpIn_mono (hk c β' a' w' n hP hgl hm hd.2 hs') fun e a2 w2 h2 => ⟨h2.1.trans hD, h2.2⟩
  | exit id => exact ⟨hD, he⟩
  | ret => exact ⟨hD, he⟩
  | goto l => exact ⟨hD, he⟩
  | panic ch => exact ⟨hD, he⟩
  | outgrown => exact he.elim
theorem sd_cond {x : Operand} {y z : Code} {b : Bool} (hb : σ.eval gl x = .a (.d (.v (.bool b)))) (hy : b = true → SemD P gl y Q σ) (hz : b = false → SemD P gl z Q σ) : SemD P gl (.cond x y z) Q σ := fun c β a w n hP hgl hm hd hs => by
  simp only [dstOK, Bool.and_eq_true] at hd
  have hv := hs.eval x
  rw [hgl, hb] at hv
  exact wpIn_cond_split hv.inv_v (fun e => hy e c β a w n hP hgl hm hd.1 hs) (fun e => hz e c β a w n hP hgl hm hd.2 hs)
theorem sd_block {id : Nat} {x : Code} (h : SemD P gl x (Ex.inBlock id Q) σ) : SemD P gl (.block id x) Q σ := fun c β a w n hP hgl hm hd hs => by
  refine wpIn_block (wpIn_mono (h c β a w n hP hgl hm hd hs) fun e a' w' he => ?_)
  obtain ⟨hD, he⟩ := he
  cases e with
  | normal => exact ⟨hD, he⟩
  | exit id' =>
    obtain ⟨σ', β', hs', hk⟩ := he
    simp only [Ex.inBlock] at hk
    simp only [Exit.inBlock]
    split at hk
    · rw [if_pos ‹_›]; exact ⟨hD, σ', β', hs', hk⟩
    · rw [if_neg ‹_›]; exact ⟨hD, σ', β', hs', hk⟩
  | ret => exact ⟨hD, he⟩
  | goto l => exact ⟨hD, he⟩
  | panic ch => exact ⟨hD, he⟩
  | outgrown => exact he.elim
theorem dst_ok {N : Nat} {id : Nat} {ops : Array Oper} {draw : Bool} (hd : dstOK N (.region id ops draw) = true) : ∀ o ∈ ops.toList, ∀ d, o.dst = some d → d < N := fun o ho d hod => by
  have := List.all_eq_true.1 hd o ho
  rw [hod] at this
  simpa using this
theorem sd_region {id : Nat} {l : List Oper} (h : opsA P gl l.toArray l σ (Q .normal)) : SemD P gl (.region id l.toArray false) Q σ := fun c β a w n hP hgl hm hd hs => by
  subst hP; subst hgl
  exact wpIn_region_list (opsA_sound (K := Q .normal) (D := a.defers) (Q := fun e a' w' => a'.defers = a.defers ∧ Qh c Q e a' w') (fun σ β a w hs hD hk => ⟨hD, σ, β, hs, hk⟩) l (by simpa using dst_ok hd) hs rfl h)
theorem sd_draw {id : Nat} {l : List Oper} (h : opsQ P gl l.toArray l σ (Q .normal)) (hok : DrawOk l.toArray := by unfold DrawOk; decide +kernel) : SemD P gl (.region id l.toArray true) Q σ := fun c β a w n hP hgl hm hd hs => by
  subst hP; subst hgl
  simp only [DrawOk, Bool.and_eq_true] at hok
  have := any_lex (K := Q .normal) l 0 true (Array.replicate l.toArray.size false) σ (by simp) hok.2 h
  exact wpIn_region_any hm (anyA_sound (K := Q .normal) (D := a.defers) (Q := fun e a' w' => a'.defers = a.defers ∧ Qh c Q e a' w') (fun σ β a w hs hD hk => ⟨hD, σ, β, hs, hk⟩) (dst_ok hd) l.toArray.size _ (hs.drawn _) rfl (by simpa using this))
theorem sd_lag {id : Nat} {ops : Array Oper} (hB : lagB ops = true) (h : opsL P gl ops ops.toList 0 σ (Q .normal)) : SemD P gl (.region id ops true) Q σ := by
  intro c β a w n hP hgl hm hdN hs
  subst hP; subst hgl
  refine wpIn_region_any hm (lag_sound (K := Q .normal) (D := a.defers) (Q := fun e a' w' => a'.defers = a.defers ∧ Qh c Q e a' w') hB (fun σ β a w hs hD hk => ⟨hD, σ, β, hs, hk⟩) (dst_ok hdN) ops.size ops.toList 0 _ (by simp) (by simp) ?_ ?_ ((hs.drawn _).part rfl rfl rfl fun t => .inr ⟨?_, rfl⟩) rfl h)
  · have : ∀ m, cnt (List.replicate m false) = m := fun m => by simp [cnt]
    simp [this]
  · refine ⟨by simp, fun j _ hj => by simp [hj], fun i o d hi => absurd hi (Nat.not_lt_zero _), fun i o hi => absurd hi (Nat.not_lt_zero _), fun k' j hk' hd => ?_⟩
    have hk : k' < ops.size := by
      rcases Nat.lt_or_ge k' ops.size with h | h
      · exact h
      · simp [Array.getElem?_eq_none, h] at hk'
    obtain ⟨oj, hoj, _⟩ := (lag_at hB (Array.getElem?_eq_getElem hk)).dep j hd
    simp [size_of_at hoj]
  · rw [lagP_else]
    rintro ⟨i, o, hU, _, _⟩
    exact absurd hU.1 (Nat.not_lt_zero _)
theorem sd_drawF {id : Nat} {l : List Oper} (F : List (List Nat)) (hB : (lagB l.toArray && lagFs l.toArray l F 0) = true) (h : opsF P gl l l F σ (Q .normal)) : SemD P gl (.region id l.toArray true) Q σ := by
  rw [Bool.and_eq_true] at hB
  exact sd_lag hB.1 (opsF_L l F 0 hB.2 h)
end
/-- An object that stands for a value of an interface's type: what it holds. -/
def ifaceOb (T : TypeId) (x : A) : SemOb where
  os := []
  p := fun _ st w bv => ∃ v, bv = .iface T v ∧ RelA st w v x
  lt := fun h b hb => by obtain ⟨v, rfl, _⟩ := h; cases hb
  mono := fun H h _ => by obtain ⟨v, e, hr⟩ := h; exact ⟨v, e, hr.mono H⟩
  dep := fun _ h => h
section
variable {P : Program} {gl : Nat → Option (List D)} {σ : S} {K : S → Prop} {dst : Option Tmp} {ty : TypeId} {pos : String} {after : Array Edge} {g : Option (Nat × Bool)}
theorem run_eq_iface {w : World} {d : Nat} {t : TypeId} {ms : Array (String × TypeId)} {T : TypeId} {v : Value} (ht : P.underlying t = some (.interface ms)) : (Op.equalIn (d + 1) t (.iface T v) .nilIface).run P w = .ok false w := by
  simp only [Op.equalIn, Sem.run_bind, run_under ht, Result.andThen_ok]
  rfl
theorem run_eq_nil {w : World} {d : Nat} {t : TypeId} {ms : Array (String × TypeId)} (ht : P.underlying t = some (.interface ms)) : (Op.equalIn (d + 1) t .nilIface .nilIface).run P w = .ok true w := by
  simp only [Op.equalIn, Sem.run_bind, run_under ht, Result.andThen_ok]
  rfl
/-- It is not nil. -/
theorem sem_if_nil {ms : Array (String × TypeId)} {t t' q : Nat} (ht : P.underlying t = some (.interface ms)) {x : Operand} {T : TypeId} {y : A} (hx : σ.eval gl x = .own q) (hm : σ.mem q = some (.sem (ifaceOb T y))) (hk : K (σ.put dst (.a (.d (.v (.bool false)))))) : SemOp P gl ⟨dst, .binOp .eql t x (.const .nilIface) t', ty, pos, after, g⟩ σ K := by
  intro c β a w hP hgl hs hd
  subst hP; subst hgl
  have hv := (hx ▸ hs.eval x).inv_own
  obtain ⟨v, hb, hr⟩ := hs.obj _ _ hm
  rw [hb] at hv
  refine Run.val (v := .bool false) (w' := w) (fun _ e => by cases e) ?_ ⟨_, β, hk, hs.put hd (.a (.v rfl))⟩
  have hr := run_eq_iface (P := c.P) (w := w) (d := 9999) (T := T) (v := v) ht
  have hn : a.eval (.const .nilIface) = .nilIface := rfl
  simp [execOp, hv, hn, eqGuard, binOp, Op.equal, Op.maxDepth, hr]
theorem sem_nil_nil {ms : Array (String × TypeId)} {t t' : Nat} (ht : P.underlying t = some (.interface ms)) {x : Operand} (hx : σ.eval gl x = .a (.d (.v .nilIface))) (hk : K (σ.put dst (.a (.d (.v (.bool true)))))) : SemOp P gl ⟨dst, .binOp .eql t x (.const .nilIface) t', ty, pos, after, g⟩ σ K := by
  intro c β a w hP hgl hs hd
  subst hP; subst hgl
  have hv := (hx ▸ hs.eval x).inv_v
  refine Run.val (v := .bool true) (w' := w) (fun _ e => by cases e) ?_ ⟨_, β, hk, hs.put hd (.a (.v rfl))⟩
  have hr := run_eq_nil (P := c.P) (w := w) (d := 9999) ht
  have hn : a.eval (.const .nilIface) = .nilIface := rfl
  simp [execOp, hv, hn, eqGuard, binOp, Op.equal, Op.maxDepth, hr]
/-- What it holds. -/
theorem sem_assert {q tI T : Nat} {x : Operand} {y : A} {offs : List (Nat × Nat × Bool)} (hT : tk P T = .struct offs) (hx : σ.eval gl x = .own q) (hm : σ.mem q = some (.sem (ifaceOb T y))) (hk : K (σ.put dst (.tp [.a y, .a (.d (.v (.bool true)))]))) : SemOp P gl ⟨dst, .typeAssert x tI T true, ty, pos, after, g⟩ σ K := by
  intro c β a w hP hgl hs hd
  subst hP; subst hgl
  have hv := (hx ▸ hs.eval x).inv_own
  obtain ⟨v, hb, hr⟩ := hs.obj _ _ hm
  rw [hb] at hv
  obtain ⟨fs, hu, _⟩ := tk_struct hT
  have hrun : (Instr.typeAssert (.iface T v) tI T true).run c.P w = .ok (.tuple #[v, .bool true]) w := by
    simp only [Instr.typeAssert, Sem.run_bind, run_under hu, Result.andThen_ok, if_true]
    rfl
  refine Run.val (v := .tuple #[v, .bool true]) (w' := w) (fun _ e => by cases e) ?_ ⟨_, β, hk, hs.put hd (.tp (vs := [v, .bool true]) rfl fun j u r hu hr' => ?_)⟩
  · simp [execOp, hv, hrun]
  · match j with
    | 0 => simp at hu hr'; subst hu; subst hr'; exact .a hr
    | 1 => simp at hu hr'; subst hu; subst hr'; exact .a (.v rfl)
    | j + 2 => simp at hu
end
section
variable {c : Cx} {σ : S} {β : Nat → Value} {a : Act} {w : World}
/-- Other deferred calls below. -/
def cxDf (c : Cx) (df : List Deferred) : Cx := { c with df := df }
theorem Sim.redf {df : List Deferred} {a' : Act} (h : Sim c σ β a w) (ht : a'.tmps = a.tmps) (hd : a'.defers = df) : Sim (cxDf c df) σ β a' w := by
  obtain ⟨Ds, _, m⟩ := h.df
  exact ⟨h.keep, by rw [ht]; exact h.size, ⟨[], (by rw [hd]; rfl), (List.nodup_append.1 m.nd).2.1, fun D hD => m.ok D (List.mem_append_right _ hD), m.lp⟩, h.ext, h.obj, h.blk, h.dis, fun t => by rw [ht]; exact h.reg t, h.env⟩
theorem enter_st {N : Nat} {rs : List R} {Ds : List Nat} {vs : List Value} : ∀ b, stF c σ β w b → stF (cxIn c N Ds) (S.enter vs rs σ) (βIn β) w b ∧ w.heap[b]? = w.heap[b]? := fun b hb => ⟨⟨hb.1, hb.2.1, fun o x hx => by
    rcases enter_at hx with ⟨rfl, _⟩ | ⟨o', y, rfl, hy, _⟩
    · simp [βIn, undef_own]
    · rw [βIn_add]; exact hb.2.2.1 o' y hy, hb.2.2.2⟩, rfl⟩
/-- A frame leaves by its marks, down to the deferred calls below. -/
theorem marks_outD {n : Nat} {fn : Func} {R : Ending → World → Prop} {u : FrameMode} (hu : u ≠ .run) : ∀ (Ds : List Nat) {a : Act} {w : World}, Sim c σ β a w → a.defers = Ds.map markD ++ c.df → MarksOk c σ β w (Ds ++ c.M) →
    (∀ a' w', a'.tmps = a.tmps → a'.defers = c.df → Sim c σ β a' w' → (∀ b, stF c σ β w b → stF c σ β w' b ∧ w'.heap[b]? = w.heap[b]?) → LeavesInM Fence.wide n c.P fn a'.tmps R c.df u w') → LeavesInM Fence.wide n c.P fn a.tmps R (Ds.map markD ++ c.df) u w
  | [], a, w, hs, hd, hm, hR => hR a w rfl hd hs fun b hb => ⟨hb, rfl⟩
  | D :: Ds, a, w, hs, hd, hm, hR => by
    obtain ⟨h1, h2, h3⟩ := hm.ok D (by simp)
    have hlt := lt_of_some h2
    have hnd := hm.nd
    simp only [List.cons_append, List.nodup_cons] at hnd
    refine ⟨hu, .inl ⟨D, w.putObj D (.deferred none), rfl, run_takeDeferred h2, ?_⟩⟩
    have ho : ∀ k, k ≠ D → (w.putObj D (.deferred none)).heap[k]? = w.heap[k]? := fun k hk => World.putObj_heap_other hk
    have hk : Keep (fun b => b = D) w (w.putObj D (.deferred none)) := ⟨rfl, rfl, rfl, by simp [World.putObj], fun k _ hk => ho k hk⟩
    have H : ∀ b, stF c σ β w b → stF c σ β (w.putObj D (.deferred none)) b ∧ (w.putObj D (.deferred none)).heap[b]? = w.heap[b]? := fun b hb => by
      have hne : b ≠ D := fun e => hb.2.2.2.1 _ (e ▸ h2)
      exact ⟨⟨Nat.lt_of_lt_of_le hb.1 hk.size, hb.2.1, hb.2.2.1, hb.2.2.2.same (ho b hne)⟩, ho b hne⟩
    have hm' : MarksOk c σ β (w.putObj D (.deferred none)) (Ds ++ c.M) := ⟨hnd.2, fun D' hD' => by
      obtain ⟨g1, g2, g3⟩ := hm.ok D' (by simp only [List.cons_append, List.mem_cons]; exact .inr hD')
      exact ⟨g1, (ho D' fun e => hnd.1 (e ▸ hD')).trans g2, g3⟩, fun y hy => by
      obtain ⟨g1, g2, g3⟩ := hm.lp y hy
      exact ⟨g1, (ho y.1 fun e => by rw [e, h2] at g2; cases g2).trans g2, g3⟩⟩
    exact marks_outD hu Ds (a := { a with defers := Ds.map markD ++ c.df }) (w := w.putObj D (.deferred none))
      ⟨hs.keep.trans hk (fun j e hj => by omega), hs.size, ⟨Ds, rfl, hm'⟩, c.hE H hs.ext, fun o x hx => (hs.obj o x hx).mono H fun b hb => ho b fun e => h3 o x hx (e ▸ hb), hs.blk, hs.dis, fun t => (hs.reg t).mono H, hs.env.mono H⟩
      rfl hm' fun a' w' h1 h2 h3 h4 => hR a' w' h1 h2 h3 fun b hb => ⟨(h4 b (H b hb).1).1, (h4 b (H b hb).1).2.trans (H b hb).2⟩
end
/-- The end of a deferred closure's body. -/
noncomputable def postC (vs : List Value) (K : S → Prop) : Ex → S → Prop
  | .normal, σ | .ret, σ => fvOf (σ.mem 999999) = some vs ∧ K σ.leave
  | _, _ => False
/-- What is known of a panic. -/
def PanOk (c : Cx) (σ : S) (β : Nat → Value) (w : World) (u : FrameMode) (p : Option (TypeId × A)) : Prop := match p with
  | none => u = .returning
  | some (T, x) => ∃ v, u = .panicking [{ v := .iface T v, recovered := false }] ∧ RelA (stF c σ β w) w v x
/-- A deferred closure's state behind 'recover'. -/
noncomputable def S.recov (σ : S) (d : Tmp) : Option (TypeId × A) → S
  | none => σ.put (some d) (.a (.d (.v .nilIface)))
  | some (T, x) => (σ.newOb 999990 (.sem (ifaceOb T x))).put (some d) (.own 999990)
/-- A deferred closure that asks 'recover' first. -/
theorem closD {P : Program} {gl : Nat → Option (List D)} {f : FuncId} {fn : Func} {y : Code} {id : Nat} {d : Tmp} {ty : TypeId} {pos : String} {after : Array Edge} {rs : List R} {σ : S} {K : S → Prop} {p : Option (TypeId × A)} {at_ : Array TypeId} (hm : P.follows .mixedOrders = true)
    (hf : P.funcs[f]? = some fn) (hb : fn.body = some (.seq (.region id #[⟨some d, .call { callee := .builtin .recover, args := #[], argTypes := at_ }, ty, pos, after, none⟩] false) y)) (hres : fn.results = #[]) (hd : dstOK fn.ntmps y = true) (hdn : d < fn.ntmps) (hN : decide (rs.length ≤ fn.ntmps) = true)
    (h : ∀ vs, SemD P gl y (postC vs K) ((S.enter vs rs σ).recov d p))
    {c : Cx} {β : Nat → Value} {a : Act} {w : World} {vs : List Value} {u : FrameMode} {n : Nat} (hP : c.P = P) (hgl : c.gl = gl) (hs : Sim c σ β a w) (hv : F2 (RelR β (stF c σ β w) w) vs rs) (hp : PanOk c σ β w u p) :
    CallsDIn Fence.wide n P f vs.toArray u w fun e u' w' => ∃ v, e = .returned v ∧ settle u' = .returning ∧ ∃ σ' β', Sim c σ' β' a w' ∧ K σ' := by
  subst hP; subst hgl
  refine callsDIn_of_wpSIn hf hb trivial fun c₀ cs hu => wpSIn_seq (wpSIn_region ?_)
  obtain ⟨Ds, hds, hM⟩ := hs.df
  have hs1 := enter_sim hs hM hv (N := fn.ntmps) (by simpa using hN)
  have hst := enter_st (c := c) (σ := σ) (β := β) (w := w) (N := fn.ntmps) (rs := rs) (Ds := Ds) (vs := a.tmps.toList)
  -- what is done behind 'recover'
  have main : ∀ (v : Value) (m : FrameMode), settle m = .returning → (∃ β1, Sim (cxIn c fn.ntmps Ds) ((S.enter a.tmps.toList rs σ).recov d p) β1 (({ tmps := vs.toArray ++ Array.replicate (fn.ntmps - vs.toArray.size) undef, defers := [] } : Act).put (some d) v) w) →
      (Exit.thenS (y.wpSIn Fence.wide n c.P (bodyPostS c.P fn c₀ cs fun e u' w' => ∃ v, e = .returned v ∧ settle u' = .returning ∧ ∃ σ' β', Sim c σ' β' a w' ∧ K σ')) (bodyPostS c.P fn c₀ cs fun e u' w' => ∃ v, e = .returned v ∧ settle u' = .returning ∧ ∃ σ' β', Sim c σ' β' a w' ∧ K σ')) .normal (({ tmps := vs.toArray ++ Array.replicate (fn.ntmps - vs.toArray.size) undef, defers := [] } : Act).put (some d) v) ({ c₀ with mode := m } :: cs) w := by
    rintro v m hmode ⟨β1, hs2⟩
    refine wpSIn_of_wpIn rfl (wpIn_mono (h a.tmps.toList (cxIn c fn.ntmps Ds) β1 _ w n rfl rfl hm hd hs2) fun e a' w' he => ?_)
    obtain ⟨hD, he⟩ := he
    have hD : a'.defers = [] := hD
    have out : ∀ σ' β', Sim (cxIn c fn.ntmps Ds) σ' β' a' w' → postC a.tmps.toList K .ret σ' → bodyPostS c.P fn c₀ cs (fun e u' w' => ∃ v, e = .returned v ∧ settle u' = .returning ∧ ∃ σ' β', Sim c σ' β' a w' ∧ K σ') .ret a' ({ c₀ with mode := m } :: cs) w' := by
      rintro σ' β' hs' ⟨hfv, hk⟩
      obtain ⟨rs', hfr⟩ : ∃ rs', σ'.mem 999999 = some (.frame a.tmps.toList rs') := by
        unfold fvOf at hfv
        split at hfv
        · rename_i vs' rs' e; cases hfv; exact ⟨rs', e⟩
        · cases hfv
      obtain ⟨hl, _⟩ := leave_sim (a := a) hs' hfr hs.size hds
      refine ⟨hD, m, rfl, .tuple #[], ?_, .tuple #[], rfl, hmode, _, _, hl, hk⟩
      have e1 : results fn a'.tmps = (do let vs ← fn.results.mapM (resG a'.tmps); pure (if h : vs.size = 1 then vs[0] else .tuple vs)) := rfl
      have e2 : (fn.results.mapM (resG a'.tmps)).run c.P w' = .ok #[] w' := by rw [hres]; simp
      rw [e1, Sem.run_bind, e2, Result.andThen_ok]
      rfl
    cases e with
    | normal => obtain ⟨σ', β', hs', hk⟩ := he; exact out σ' β' hs' hk
    | ret => obtain ⟨σ', β', hs', hk⟩ := he; exact out σ' β' hs' hk
    | exit id => obtain ⟨σ', β', hs', hk⟩ := he; exact hk.elim
    | goto l => exact he.elim
    | panic ch => obtain ⟨_, _, _, _, _, _, _, _, hk⟩ := he; exact hk.elim
    | outgrown => exact he.elim
  have hrun : ∀ ev : Operand → Value, (execOp ev ⟨some d, .call { callee := .builtin .recover, args := #[], argTypes := at_ }, ty, pos, after, none⟩).run c.P w = .ok .recover w := fun ev => by
    simp [execOp, resolve, invoke, builtin]
  cases p with
  | none =>
    have hp : u = .returning := hp
    subst hp
    have e0 : recoverD (c₀ :: cs) = none := by simp [recoverD, hu]
    rw [show List.range (#[(⟨some d, .call { callee := .builtin .recover, args := #[], argTypes := at_ }, ty, pos, after, none⟩ : Oper)]).size = [0] from rfl]
    simp only [wpOpsSIn, List.getElem?_toArray, List.getElem?_cons_zero, wanted_none, if_true]
    refine ⟨fun _ _ => trivial, ?_⟩
    rw [hrun]
    simp only [e0]
    have hc0 : ({ c₀ with mode := .returning } : Frame) = c₀ := by rw [← hu]
    have hq := hs1.put (dst := some d) (r := .a (.d (.v .nilIface))) (v := .nilIface) (fun d' e => by cases e; exact hdn) (.a (show Rd _ _ _ _ from .v rfl))
    have := main .nilIface .returning rfl ⟨_, hq⟩
    rw [hc0] at this
    exact this
  | some q =>
    obtain ⟨T, x⟩ := q
    obtain ⟨v, rfl, hr⟩ := hp
    have e0 : recoverD (c₀ :: cs) = some (.iface T v, { c₀ with mode := .panicking [{ v := .iface T v, recovered := true }] } :: cs) := by simp [recoverD, hu]
    rw [show List.range (#[(⟨some d, .call { callee := .builtin .recover, args := #[], argTypes := at_ }, ty, pos, after, none⟩ : Oper)]).size = [0] from rfl]
    simp only [wpOpsSIn, List.getElem?_toArray, List.getElem?_cons_zero, wanted_none, if_true]
    refine ⟨fun _ _ => trivial, ?_⟩
    rw [hrun]
    simp only [e0]
    have hn := hs1.new (o := 999990) (x := .sem (ifaceOb T x)) (bv := .iface T v) (w' := w) ⟨rfl, rfl, rfl, Nat.le_refl _, fun _ _ _ => rfl⟩ (fun b hb => by cases hb) ⟨v, rfl, (hr.mono hst).mono fun b hb => ⟨st_new (Nat.le_refl _) (fun b hb => rfl) (fun b hb => by cases hb) hb, rfl⟩⟩
    have hq := hn.put (dst := some d) (r := .own 999990) (v := .iface T v) (fun d' e => by cases e; exact hdn) (.own (by simp [upd]) rfl)
    exact main (.iface T v) (.panicking [{ v := .iface T v, recovered := true }]) rfl ⟨_, hq⟩
end Go.VC
end
section
set_option maxRecDepth 100000
set_option linter.unusedSimpArgs false
set_option linter.unusedVariables false
namespace Go.VC
open Go.RowKit Go.Proofs
theorem CallsDIn.mono' {F : Fence} {n : Nat} {P : Program} {f : FuncId} {args : Array Value} {u : FrameMode} {w : World} {R R' : Ending → FrameMode → World → Prop} (h : CallsDIn F n P f args u w R) (k : ∀ e u' w', R e u' w' → R' e u' w') : CallsDIn F n P f args u w R' :=
  ⟨h.1, fun c cs hu hr => let ⟨e, u', w', fr, hR, rest⟩ := h.2 c cs hu hr; ⟨e, u', w', fr, k _ _ _ hR, rest⟩⟩
/-- What the deferred closure must do, behind the body that returned (none) or panicked. -/
def ClosK (P : Program) (gl : Nat → Option (List D)) (y : Code) (dg : Tmp) (caps : List (Nat × Nat)) (K5 : S → Prop) (p : Option (TypeId × A)) (σ : S) : Prop :=
  ∀ vs', SemD P gl y (postC vs' K5) ((S.enter vs' (caps.map fun c => .ref c.1 c.2) σ).recov dg p)
/-- How the body behind the 'defer' may end. -/
def postX (cvs : List Value) (caps : List (Nat × Nat)) (cl : Option (TypeId × A) → S → Prop) : Ex → S → Prop
  | .normal, σ => (∃ rs, σ.mem 999991 = some (.frame cvs rs) ∧ ∀ (j : Nat) (c : Nat × Nat), caps[j]? = some c → rs j = .ref c.1 c.2) ∧ cl none σ
  | .panic t r, σ => (∃ rs, σ.mem 999991 = some (.frame cvs rs) ∧ ∀ (j : Nat) (c : Nat × Nat), caps[j]? = some c → rs j = .ref c.1 c.2) ∧ ∃ x, r = .a x ∧ cl (some (t, x)) σ
  | _, _ => False
def capsR (caps : List (Nat × Nat)) (t : Nat) : R := match caps[t]? with
  | some c => .ref c.1 c.2
  | none => .any
/-- What a function with a deferred closure tells, when the closure is done. -/
noncomputable def endDf (P : Program) (vs : List Value) (t : Tmp) (T : TypeId) (K : S → List R → Prop) (σ : S) : Prop :=
  fvOf (σ.mem 999999) = some vs ∧ ∃ o off r, σ.regs t = .ref o off ∧ loadR P σ T (.ref o off) = some r ∧ K σ.leave [r.down]
theorem inl_defer {P : Program} {gl : Nat → Option (List D)} {f g : FuncId} {fn gn : Func} {x0 x2 y : Code} {rs : List R} {t : Tmp} {T : TypeId} {σ : S} {K : S → List R → Prop} {caps : List (Nat × Nat)} {cl : List Operand} {d dg : Tmp} {id idg : Nat} {k : Call} {ty ty' tyg : TypeId} {pos pos' posg : String} {after after' afterg : Array Edge} {at_ : Array TypeId} (hm : P.follows .mixedOrders = true)
    (hf : P.funcs[f]? = some fn) (hb : fn.body = some (.seq x0 (.seq (.region id #[⟨some d, .makeFunc (.func g) #[] cl.toArray, ty, pos, after, none⟩, ⟨none, .defer k, ty', pos', after', none⟩] false) (.seq x2 .ret)))) (hk : k.callee = .value (.tmp d)) (hka : k.args = #[]) (hres : fn.results = #[.cell t T]) (hname : (fn.name == "runtime.NumGoroutine") = false) (hd : dstOK fn.ntmps x0 = true) (hdd : d < fn.ntmps) (hd2 : dstOK fn.ntmps x2 = true) (hN : decide (rs.length ≤ fn.ntmps) = true)
    (hg : P.funcs[g]? = some gn) (hgb : gn.body = some (.seq (.region idg #[⟨some dg, .call { callee := .builtin .recover, args := #[], argTypes := at_ }, tyg, posg, afterg, none⟩] false) y)) (hgres : gn.results = #[]) (hgd : dstOK gn.ntmps y = true) (hgdn : dg < gn.ntmps) (hgN : decide (caps.length ≤ gn.ntmps) = true) (hgname : (gn.name == "runtime.NumGoroutine") = false)
    (hc9 : ∀ c ∈ caps, c.1 ≠ 999991)
    (h : ∀ vs, SemD P gl x0 (fun e σ1 => e = .normal ∧ cl.map (σ1.eval gl) = caps.map (fun c => .ref c.1 c.2) ∧ ∀ cvs, SemCode P gl x2 (postX cvs caps (ClosK P gl y dg caps (endDf P vs t T K))) ((σ1.put (some d) (.clo g caps)).newOb 999991 (.frame cvs (capsR caps)))) (S.enter vs rs σ)) : Inl P gl f rs σ K := by
  refine ⟨⟨fn, hf, by rw [hb]; rfl, hname⟩, fun c β a w vs hP hgl hs hv => ?_⟩
  subst hP; subst hgl
  have h := h a.tmps.toList
  rw [← callsIn_wide (n := 0)]
  refine callsIn_of_wp_marks hf hb trivial ?_
  obtain ⟨Ds, hds, hM⟩ := hs.df
  refine wpIn_seq (wpIn_mono (h (cxIn c fn.ntmps Ds) _ _ _ 0 rfl rfl hm hd (enter_sim hs hM hv (by simpa using hN))) fun e a1 w1 he => ?_)
  obtain ⟨hD1, he⟩ := he
  have hD1 : a1.defers = [] := hD1
  cases e with
  | exit id => obtain ⟨_, _, _, hk⟩ := he; cases hk.1
  | ret => obtain ⟨_, _, _, hk⟩ := he; cases hk.1
  | goto l => exact he.elim
  | panic ch => obtain ⟨_, _, _, _, _, _, _, _, hk⟩ := he; cases hk.1
  | outgrown => exact he.elim
  | normal =>
  obtain ⟨σ1, β1, hs1, _, hcaps, hx2⟩ := he
  show Code.wpIn _ _ _ (.seq _ _) _ _ _
  refine wpIn_seq (wpIn_region_list ?_)
  simp only [wpListIn, wanted_none (o := ⟨some d, .makeFunc (.func g) #[] cl.toArray, ty, pos, after, none⟩) rfl, if_true]
  refine sem_clo (P := c.P) (gl := c.gl) (K := fun σ' => σ' = σ1.put (some d) (.clo g caps)) hcaps rfl (cxIn c fn.ntmps Ds) β1 a1 w1 rfl rfl hs1 (fun d' e => by cases e; exact hdd) none 0 _ _ ?_
  rintro v w2 ⟨σ2, β2, rfl, hs2⟩
  have hsz : d < a1.tmps.size := by rw [hs1.size]; exact hdd
  have htd : (a1.put (some d) v).tmps.getD d undef = v := by simp [Act.put, hsz]
  have hrv := hs2.reg d
  rw [show (a1.put (some d) v).tmps.getD d undef = v from htd, show (σ1.put (some d) (.clo g caps)).regs d = .clo g caps by simp [S.put, upd]] at hrv
  obtain ⟨cvs, rfl, hcv⟩ : ∃ cvs : List Value, v = .func (.func g) #[] cvs.toArray ∧ F2 (fun v c => ∃ b, β2 c.1 = .pointer (some ⟨b, 0, none⟩) ∧ v = .pointer (some ⟨b, c.2, none⟩)) cvs caps := by
    cases hrv with
    | clo hl => exact ⟨_, rfl, hl⟩
  have hev : (a1.put (some d) (.func (.func g) #[] cvs.toArray)).eval (.tmp d) = .func (.func g) #[] cvs.toArray := htd
  simp only [wanted_none (o := ⟨none, .defer k, ty', pos', after', none⟩) rfl, if_true]
  refine ⟨fun _ _ => trivial, ?_⟩
  have hdef : (Oper.semAt Fence.wide.round (a1.put (some d) (.func (.func g) #[] cvs.toArray)).eval ⟨none, .defer k, ty', pos', after', none⟩).run c.P w2 = .ok (.defer { target := .fn (.func g) cvs.toArray, args := #[] }) w2 := by
    rw [show Fence.wide.round = none from rfl, Oper.semAt_none]
    simp [execOp, resolve, hk, hka, hev, Deferred.ofValue]
  rw [hdef]
  have hs3 := Sim.redf (df := [{ target := .fn (.func g) cvs.toArray, args := #[] }]) (a' := { (a1.put (some d) (.func (.func g) #[] cvs.toArray)) with defers := { target := .fn (.func g) cvs.toArray, args := #[] } :: (a1.put (some d) (.func (.func g) #[] cvs.toArray)).defers }) hs2 rfl (by
    show _ :: a1.defers = _
    rw [hD1])
  generalize hc2 : cxDf (cxIn c fn.ntmps Ds) [{ target := .fn (.func g) cvs.toArray, args := #[] }] = c2 at hs3
  have hs4 := hs3.new (o := 999991) (x := .frame cvs (capsR caps)) (bv := undef) (w' := w2) ⟨rfl, rfl, rfl, Nat.le_refl _, fun _ _ _ => rfl⟩ (fun b hb => by simp [undef_own] at hb) ⟨undef_own, fun j => by
    unfold capsR
    split
    · rename_i cp hcp
      obtain ⟨u, hu, b, hb, rfl⟩ := hcv.get hcp
      rw [List.getD_eq_getElem?_getD, hu]
      refine .ref (b := b) ?_
      rw [show upd β2 999991 undef cp.1 = β2 cp.1 by simp [upd, hc9 cp (List.mem_of_getElem? hcp)]]
      exact hb
    · exact .any⟩
  have hc2P : c2.P = c.P := by rw [← hc2]; rfl
  have hc2g : c2.gl = c.gl := by rw [← hc2]; rfl
  have hc2N : c2.N = fn.ntmps := by rw [← hc2]; rfl
  have hc2d : c2.df = [{ target := .fn (.func g) cvs.toArray, args := #[] }] := by rw [← hc2]; rfl
  -- the closure is called
  have leave : ∀ (p : Option (TypeId × A)) (u : FrameMode) (σ3 : S) (β3 : Nat → Value) (a3 : Act) (w3 : World), u ≠ .run → Sim c2 σ3 β3 a3 w3 → PanOk c2 σ3 β3 w3 u p →
      (∃ rs, σ3.mem 999991 = some (.frame cvs rs) ∧ ∀ (j : Nat) (c : Nat × Nat), caps[j]? = some c → rs j = .ref c.1 c.2) → ClosK c.P c.gl y dg caps (endDf c.P a.tmps.toList t T K) p σ3 →
      LeavesInM Fence.wide 0 c.P fn a3.tmps (fun e w' => ∃ (us : List Value) (rs' : List R) (σ' : S) (β' : Nat → Value), e = .returned (retV us) ∧ Sim c σ' β' a w' ∧ F2 (RelR β' (stF c σ' β' w') w') us rs' ∧ K σ' rs') a3.defers u w3 := by
    intro p u σ3 β3 a3 w3 hu hs3 hpan hfr hcl
    obtain ⟨Ds3, hds3, hM3⟩ := hs3.df
    rw [hds3, ← hc2P]
    refine marks_outD hu Ds3 hs3 hds3 hM3 fun a4 w4 ht4 hd4 hs4 hH => ?_
    rw [hc2d]
    have hvs : F2 (RelR β3 (stF c2 σ3 β3 w4) w4) cvs (caps.map fun c => .ref c.1 c.2) := by
      obtain ⟨rs3, hfr, hrs⟩ := hfr
      obtain ⟨_, hfr⟩ := hs4.obj _ _ hfr
      refine ⟨by rw [List.length_map]; exact hcv.1, fun j u r hu hr => ?_⟩
      rw [List.getElem?_map] at hr
      obtain ⟨cp, hcp, rfl⟩ := Option.map_eq_some_iff.1 hr
      have := hfr j
      rw [hrs j cp hcp, List.getD_eq_getElem?_getD, hu] at this
      exact this
    have hpan4 : PanOk c2 σ3 β3 w4 u p := by
      cases p with
      | none => exact hpan
      | some q => obtain ⟨v, e, hr⟩ := hpan; exact ⟨v, e, hr.mono hH⟩
    refine ⟨hu, .inr ⟨fun h => by simp [Fence.wide] at h, .func g, cvs.toArray, g, (#[] ++ cvs.toArray : Array Value), rfl, ?_, fun _ _ => trivial, ?_⟩⟩
    · simp only [invoke]
      exact funcs_run ⟨gn, by rw [hc2P]; exact hg, by rw [hgb]; rfl, hgname⟩
    · have hca : (#[] ++ cvs.toArray : Array Value) = cvs.toArray := by simp
      rw [hca, hc2P]
      refine CallsDIn.mono' (closD (n := 0 - 1) hm hg hgb hgres hgd hgdn (by simpa using hgN) hcl hc2P hc2g hs4 hvs hpan4) fun e u' w' hq => ?_
      obtain ⟨v, rfl, hset, σ5, β5, hs5, hfv, o5, off5, r5, hr5, hl5, hk5⟩ := hq
      show LeavesInM _ _ _ _ _ _ [] (settle u') w'
      rw [hset]
      have hs6 := Sim.redf (df := []) (a' := { a4 with defers := [] }) hs5 rfl rfl
      rw [show cxDf c2 [] = cxIn c fn.ntmps Ds by rw [← hc2]; rfl] at hs6
      obtain ⟨rs', hfr'⟩ : ∃ rs', σ5.mem 999999 = some (.frame a.tmps.toList rs') := by
        unfold fvOf at hfv
        split at hfv
        · rename_i vs' rs' e; cases hfv; exact ⟨rs', e⟩
        · cases hfv
      obtain ⟨hl, hst⟩ := leave_sim (a := a) hs6 hfr' hs.size hds
      have hβ : ∀ o, 1000000 ≤ o → (fun o => β5 (upId o)) (o - 1000000) = β5 o := fun o ho => congrArg β5 (upId_of ho)
      obtain ⟨val, hrun, hrel⟩ := load_run (p := .tmp t) hs6 (show loadR (cxIn c fn.ntmps Ds).P σ5 T (σ5.eval _ (.tmp t)) = some r5 by rw [show σ5.eval (cxIn c fn.ntmps Ds).gl (.tmp t) = σ5.regs t from rfl, hr5]; exact hl5)
      have hpt := hs6.reg t
      rw [hr5] at hpt
      obtain ⟨b, _, hpt⟩ := hpt.inv_ref
      have hrg : (resG a4.tmps (.cell t T)).run c.P w' = .ok val w' := by
        have h1 : ({ a4 with defers := [] } : Act).eval (.tmp t) = .pointer (some ⟨b, off5, none⟩) := hpt
        have h2 : a4.tmps.getD t undef = .pointer (some ⟨b, off5, none⟩) := hpt
        rw [h1] at hrun
        have hrun : (loadVar T ⟨b, off5, none⟩).run (cxIn c fn.ntmps Ds).P w' = .ok val w' := by simpa [Instr.loadAt, Instr.sureAddr] using hrun
        simp only [resG, h2, asAddr, Sem.run_bind, Sem.run_pure, Result.andThen_ok]
        exact hrun
      refine ⟨val, ?_, [val], [r5.down], _, _, rfl, hl, F2.cons (RelR.down (β' := fun o => β5 (upId o)) hβ (hrel.mono hst)) F2.nil, hk5⟩
      have e1 : results fn a4.tmps = (do let vs ← fn.results.mapM (resG a4.tmps); pure (if h : vs.size = 1 then vs[0] else .tuple vs)) := rfl
      have e2 : (fn.results.mapM (resG a4.tmps)).run c.P w' = .ok (fn.results.toList.map (resV c.P a4.tmps w')).toArray w' := run_mapM_arr _ (resV c.P a4.tmps w') fun v hv => by
        rw [hres] at hv
        simp only [List.mem_singleton, Array.mem_toList_iff, Array.mem_singleton] at hv
        subst hv
        rw [resV_of hrg]; exact hrg
      rw [e1, Sem.run_bind, e2, Result.andThen_ok, hres]
      show Result.ok (resV c.P a4.tmps w' (.cell t T)) w' = _
      rw [resV_of hrg]
  show Code.wpIn _ _ _ (.seq x2 .ret) _ _ _
  have hx := hx2 cvs c2 _ _ _ none 0 hc2P hc2g (by rw [hc2P]; exact hm) (by rw [hc2N]; exact hd2) (.inl rfl) hs4
  rw [hc2P] at hx
  refine wpIn_seq (wpIn_mono hx fun e a3 w3 he => ?_)
  cases e with
  | exit id => obtain ⟨_, _, _, hk⟩ := he; exact hk.elim
  | ret => obtain ⟨_, _, _, hk⟩ := he; exact hk.elim
  | goto l => exact he.elim
  | outgrown => exact he.elim
  | normal =>
    obtain ⟨σ3, β3, hs3', hfr, hcl⟩ := he
    exact wpIn_ret (leave none .returning σ3 β3 a3 w3 (by simp) hs3' rfl hfr hcl)
  | panic ch =>
    obtain ⟨σ3, β3, t3, v3, r3, rfl, hs3', hr3, hfr, x3, rfl, hcl⟩ := he
    exact leave (some (t3, x3)) (.panicking [{ v := .iface t3 v3, recovered := false }]) σ3 β3 a3 w3 (by simp) hs3' ⟨v3, rfl, by cases hr3 with | a h => exact h⟩ hfr hcl
end Go.VC
end
section
set_option maxRecDepth 100000
set_option linter.unusedSimpArgs false
set_option linter.unusedVariables false
set_option linter.unnecessarySimpa false
namespace Go.VC
open Go.RowKit Go.Proofs Go.IntWalk
theorem InlP.nilArg {P : Program} {gl : Nat → Option (List D)} {f : FuncId} {r1 r3 : R} {σ : S} {K : S → List R → Prop} {KP : TypeId → R → S → Prop} (h : InlP P gl f [r1, .a (.d (.sl [])), r3] σ K KP) : InlP P gl f [r1, .cs [], r3] σ K KP :=
  ⟨h.1, fun c β a w vs hP hgl hs hv => h.2 c β a w vs hP hgl hs (by
    obtain ⟨u1, l1, rfl, h1, hv⟩ := hv.of_cons
    obtain ⟨u2, l2, rfl, h2, hv2⟩ := hv.of_cons
    obtain ⟨p, n, rfl, h3⟩ := h2.inv_cs
    exact F2.cons h1 (F2.cons (RelR.a (x := .d (.sl [])) (show Rd _ _ _ _ from h3)) hv2))⟩
/-- What a search found. -/
structure Fnd where
  v : Nat
  c : Nat
  row : List Nat
  s : Nat
abbrev Fnd.a (x : Fnd) : A := .ag [dI x.v, .v (.int .u32 x.c), .sl ((rowI x.row).map ienc), dI x.s]
def Out.fnd (C : Nat) : Out → Fnd
  | .ret s => ⟨1, 0, [], s⟩
  | .fin v row s => if v = 0 then ⟨0, C, row, s⟩ else ⟨v, 0, [], s⟩
def foundF (T : List Txn) (who C B : Nat) : Fnd := (goF T who C B (T.length + 1) [] 0).fnd C
/-- The end of search's closure. -/
theorem clos_end {P : Program} {vs vs' : List Value} {T : TypeId} {bs : Nat} {z : List Value} {σ σ3 τ : S} {o : Nat} {K : S → List R → Prop} {ds : List D} (hT : tinf P T = some ⟨4, bs, true, z⟩) (kpc : KeepsB 900000000 vs' 2 σ3 τ) (kp : KeepsB 800000000 vs o σ σ3) (r2 : σ3.regs 2 = .ref 2 0)
    (m2 : τ.mem (upId 2) = some (.box (ds.map fun d => .a (.d d)))) (hl : ds.length = 4) (hK : ∀ σ' : S, LeftB 800000000 o σ σ' → K σ' [.a (.ag ds)]) : postC vs' (endDf P vs 2 T K) .normal τ := by
  have L := KeepsB.leave (Nat.le_refl _) kpc
  have kp2 : KeepsB 800000000 vs o σ τ.leave := ⟨L.m rfl rfl kp.fr up_frame, fun o' x h1 h2 h3 => by
    have := of_decide_eq_true h2
    have := upId_eq o'
    exact L.m (by simp; omega) (decide_eq_true (by omega)) (kp.ob o' x h1 h2 h3) (up_obj x)⟩
  have hm2 : τ.leave.mem 2 = some (.box (ds.map fun d => .a (.d d))) := by
    rw [lv_m rfl, m2]
    simp only [Option.map_some, Ob.down, List.map_map]
    rfl
  refine ⟨by rw [kpc.fr]; rfl, by rw [kp2.fr]; rfl, 2, 0, .a (.ag ds), L.r r2 up_ref1, ?_, hK _ (KeepsB.leave (by omega) kp2)⟩
  have ht : List.take 4 (ds.map fun d => R.a (.d d)) = ds.map fun d => R.a (.d d) := List.take_of_length_le (by simp [hl])
  simp only [loadR, hT, hm2, List.drop_zero, ht, allD_map, Nat.zero_add, List.length_map, hl, Nat.le_refl, if_true, Option.map_some]
theorem search_inl (h : List Ev) (hE : checkE h = 0) (who C B : Nat) (hw : who < 2 ^ (txns h).length) (hC : C < 2 ^ 32) (hB : B ≤ 1000000) {σ : S} {o : Nat} {K : S → List R → Prop} (ho : decide (o < 800000000) = true) (mo : σ.mem o = some (.box (seaR h (txns h) who C B 0)))
    (hK : ∀ σ' : S, LeftB 800000000 o σ σ' → K σ' [.a (foundF (txns h) who C B).a]) : Inl Tryd.prog GL 21 [.ref o 0] σ K := by
  have hO1 := of_decide_eq_true ho
  have hO : decide (o < 999000000) = true := decide_eq_true (by omega)
  have hOU : decide (upId o < 1000000000) = true := up_lt hO
  refine inl_defer (caps := [(1, 0), (2, 0)]) (by kernel_rfl) Tryd.func21 rfl rfl rfl rfl (by kernel_rfl) rfl (by decide) rfl rfl Tryd.func43 rfl rfl rfl (by decide) rfl (by kernel_rfl) (by decide) fun vs => ?_
  refine sd_region ?_
  (refine rO ?_; repeat' ((with_reducible first | refine rG ?_ | (refine rS ?_ ?_ <;> intro hp) | (refine rB ?_ ?_ <;> intro hb <;> try rw [hb]) | refine rD ?_ | refine rA ?_ | fail) <;> try simp only [go_sem, simprocAttr, PI, hO, hOU, mo]))
  generalize hcl : ClosK Tryd.prog GL _ _ _ _ = CL
  have hoU : decide (upId o < Bd ((txns h).length + 1)) = true := decide_eq_true (by have := upId_eq o; have := txns_len6 h; unfold Bd; omega)
  have hl6 := txns_len6 h
  -- what the closure does
  have clos : ∀ (p : Option (TypeId × A)) (σ3 : S) (s' : Nat), KeepsB 800000000 vs o σ σ3 → σ3.mem 1 = some (.box [.ref (upId o) 0]) → σ3.mem 2 = some (.box [.a (I 0), .a (U 0), .a (.d (.sl [])), .a (I 0)]) → σ3.mem (upId o) = some (.box (seaR h (txns h) who C B s')) → σ3.regs 2 = .ref 2 0 →
      ((p = none ∧ goF (txns h) who C B ((txns h).length + 1) [] 0 = .ret s') ∨ ∃ v row', p = some (88, .ag [dI (v : Nat), .sl ((rowI row').map ienc)]) ∧ goF (txns h) who C B ((txns h).length + 1) [] 0 = .fin v row' s') → CL p σ3 := by
    intro p σ3 s' kp m1 m2 mo3 r2 hp
    rw [← hcl]
    intro vs'
    have hU2 : decide (upId o < 999000000) = true := decide_eq_true (by have := upId_eq o; omega)
    have kpc0 : KeepsB 900000000 vs' 2 σ3 (S.enter vs' [.ref 1 0, .ref 2 0] σ3) := KeepsB.enter (Nat.le_refl _)
    have hT44 : tinf Tryd.prog 26 = some ⟨4, 48, true, [.int .i64 0, .int .u32 0, .slice none 0 0, .int .i64 0]⟩ := by kernel_rfl
    have hfo : foundF (txns h) who C B = (goF (txns h) who C B ((txns h).length + 1) [] 0).fnd C := rfl
    rcases hp with ⟨rfl, hgo⟩ | ⟨v, row', rfl, hgo⟩
    · rw [hgo] at hfo
      simp only [S.recov, List.map_cons, List.map_nil]
      refine sd_block (sd_seq (sd_region ?_))
      (refine rO ?_; repeat' ((with_reducible first | refine rG ?_ | (refine rS ?_ ?_ <;> intro hp) | (refine rB ?_ ?_ <;> intro hb <;> try rw [hb]) | refine rD ?_ | refine rA ?_ | fail) <;> try simp only [go_sem, simprocAttr, PI]))
      refine sem_nil_nil Tryd.underlying20 (by simp only [go_sem, simprocAttr]) ?_
      (refine rO ?_; repeat' ((with_reducible first | refine rG ?_ | (refine rS ?_ ?_ <;> intro hp) | (refine rB ?_ ?_ <;> intro hb <;> try rw [hb]) | refine rD ?_ | refine rA ?_ | fail) <;> try simp only [go_sem, simprocAttr, PI]))
      refine sd_cond (b := true) (by simp only [go_sem, simprocAttr]) (fun _ => ?_) (fun e => by cases e)
      refine sd_seq (sd_region ?_)
      (refine rO ?_; repeat' ((with_reducible first | refine rG ?_ | (refine rS ?_ ?_ <;> intro hp) | (refine rB ?_ ?_ <;> intro hb <;> try rw [hb]) | refine rD ?_ | refine rA ?_ | fail) <;> try simp only [go_sem, simprocAttr, PI]))
      refine sd_region ?_
      (refine rO ?_; repeat' ((with_reducible first | refine rG ?_ | (refine rS ?_ ?_ <;> intro hp) | (refine rB ?_ ?_ <;> intro hb <;> try rw [hb]) | refine rD ?_ | refine rA ?_ | fail) <;> try simp only [go_sem, simprocAttr, PI, m1, m2, mo3, hU2]))
      refine SemOp.old ?_
      (refine rO ?_; repeat' ((with_reducible first | refine rG ?_ | (refine rS ?_ ?_ <;> intro hp) | (refine rB ?_ ?_ <;> intro hb <;> try rw [hb]) | refine rD ?_ | refine rA ?_ | fail) <;> try simp only [go_sem, simprocAttr, PI, y_load0, m1, m2, mo3, hU2]))
      refine SemOp.old ?_
      (refine rO ?_; repeat' ((with_reducible first | refine rG ?_ | (refine rS ?_ ?_ <;> intro hp) | (refine rB ?_ ?_ <;> intro hb <;> try rw [hb]) | refine rD ?_ | refine rA ?_ | fail) <;> try simp only [go_sem, simprocAttr, PI, y_build0, m1, m2, mo3, hU2]))
      refine clos_end (ds := [dI 1, .v (.int .u32 0), .sl [], dI s']) hT44 (by repeat' first | (with_reducible exact kpc0) | (with_reducible refine KeepsB.put ?_) | (with_reducible refine KeepsB.setU ?_) | refine KeepsB.new rfl ?_ | exact kpc0) kp r2 (by simp only [go_sem, simprocAttr, PI, m2]; try rfl) rfl (fun σ' hL => ?_)
      have := hK σ' hL
      rw [hfo] at this; exact this
    · rw [hgo] at hfo
      simp only [S.recov, List.map_cons, List.map_nil]
      refine sd_block (sd_seq (sd_region ?_))
      (refine rO ?_; repeat' ((with_reducible first | refine rG ?_ | (refine rS ?_ ?_ <;> intro hp) | (refine rB ?_ ?_ <;> intro hb <;> try rw [hb]) | refine rD ?_ | refine rA ?_ | fail) <;> try simp only [go_sem, simprocAttr, PI]))
      refine sem_if_nil Tryd.underlying20 (q := 999990) (T := 88) (y := .ag [dI (v : Nat), .sl ((rowI row').map ienc)]) (by simp only [go_sem, simprocAttr]) (by simp only [go_sem, simprocAttr]) ?_
      (refine rO ?_; repeat' ((with_reducible first | refine rG ?_ | (refine rS ?_ ?_ <;> intro hp) | (refine rB ?_ ?_ <;> intro hb <;> try rw [hb]) | refine rD ?_ | refine rA ?_ | fail) <;> try simp only [go_sem, simprocAttr, PI]))
      refine sd_cond (b := false) (by simp only [go_sem, simprocAttr]) (fun e => by cases e) (fun _ => ?_)
      refine sd_seq (sd_region ?_)
      (refine rO ?_; repeat' ((with_reducible first | refine rG ?_ | (refine rS ?_ ?_ <;> intro hp) | (refine rB ?_ ?_ <;> intro hb <;> try rw [hb]) | refine rD ?_ | refine rA ?_ | fail) <;> try simp only [go_sem, simprocAttr, PI]))
      refine sem_assert (q := 999990) (y := .ag [dI (v : Nat), .sl ((rowI row').map ienc)]) (offs := [(0, 1, false), (1, 1, false)]) (by kernel_rfl) (by simp only [go_sem, simprocAttr]) (by simp only [go_sem, simprocAttr]) ?_
      (refine rO ?_; repeat' ((with_reducible first | refine rG ?_ | (refine rS ?_ ?_ <;> intro hp) | (refine rB ?_ ?_ <;> intro hb <;> try rw [hb]) | refine rD ?_ | refine rA ?_ | fail) <;> try simp only [go_sem, simprocAttr, PI]))
      refine sd_cond (b := true) (by simp only [go_sem, simprocAttr]) (fun _ => ?_) (fun e => by cases e)
      refine sd_seq (sd_region ?_)
      (refine rO ?_; repeat' ((with_reducible first | refine rG ?_ | (refine rS ?_ ?_ <;> intro hp) | (refine rB ?_ ?_ <;> intro hb <;> try rw [hb]) | refine rD ?_ | refine rA ?_ | fail) <;> try simp only [go_sem, simprocAttr, PI]))
      refine sd_seq (sd_draw ?_)
      (refine rO ?_; repeat' ((with_reducible first | refine rG ?_ | (refine rS ?_ ?_ <;> intro hp) | (refine rB ?_ ?_ <;> intro hb <;> try rw [hb]) | refine rD ?_ | refine rA ?_ | fail) <;> try simp only [go_sem, simprocAttr, PI, m1, m2, mo3, hU2]))
      refine sd_seq (sd_region ?_)
      (refine rO ?_; repeat' ((with_reducible first | refine rG ?_ | (refine rS ?_ ?_ <;> intro hp) | (refine rB ?_ ?_ <;> intro hb <;> try rw [hb]) | refine rD ?_ | refine rA ?_ | fail) <;> try simp only [go_sem, simprocAttr, PI]))
      · have hv0 : v = 0 := by omega
        refine sd_cond (b := true) (by simp only [go_sem, simprocAttr]) (fun _ => ?_) (fun e => by cases e)
        refine sd_drawF [[4, 5], []] (by decide +kernel) ?_
        (refine rO ?_; repeat' ((with_reducible first | refine rG ?_ | (refine rS ?_ ?_ <;> intro hp) | (refine rB ?_ ?_ <;> intro hb <;> try rw [hb]) | refine rD ?_ | refine rA ?_ | fail) <;> try simp only [go_sem, simprocAttr, PG, PI, m1, m2, mo3, hU2]))
        refine clos_end (ds := [dI v, .v (.int .u32 C), .sl ((rowI row').map ienc), dI s']) hT44 (by repeat' first | (with_reducible exact kpc0) | (with_reducible refine KeepsB.put ?_) | (with_reducible refine KeepsB.setU ?_) | refine KeepsB.new rfl ?_ | refine KeepsB.set rfl ?_ | exact kpc0) kp r2 (by simp only [go_sem, simprocAttr, PI, m2]; try rfl) rfl (fun σ' hL => ?_)
        have := hK σ' hL
        rw [hfo] at this
        simp only [Out.fnd, if_pos hv0] at this
        rw [hv0]; exact this
      · have hv0 : ¬ v = 0 := by omega
        refine sd_cond (b := false) (by simp only [go_sem, simprocAttr]) (fun e => by cases e) (fun _ => ?_)
        refine sd_skip ?_
        (refine rO ?_; repeat' ((with_reducible first | refine rG ?_ | (refine rS ?_ ?_ <;> intro hp) | (refine rB ?_ ?_ <;> intro hb <;> try rw [hb]) | refine rD ?_ | refine rA ?_ | fail) <;> try simp only [go_sem, simprocAttr, PI]))
        refine clos_end (ds := [dI v, .v (.int .u32 0), .sl [], dI s']) hT44 (by repeat' first | (with_reducible exact kpc0) | (with_reducible refine KeepsB.put ?_) | (with_reducible refine KeepsB.setU ?_) | refine KeepsB.new rfl ?_ | refine KeepsB.set rfl ?_ | exact kpc0) kp r2 (by simp only [go_sem, simprocAttr, PI, m2]; try rfl) rfl (fun σ' hL => ?_)
        have := hK σ' hL
        rw [hfo] at this
        simp only [Out.fnd, if_neg hv0] at this
        exact this
  intro cvs
  refine sc_region (raw_cons rfl ?_)
  simp only [go_sem, simprocAttr, PI, hO, hOU, mo]
  refine SemOp.old ?_
  simp only [go_sem, simprocAttr, PI, y_load0, hO, hOU, mo]
  refine raw_call (g := 44) (rs := [.ref (upId o) 0, .cs [], .a (U 0)]) rfl rfl (by simp only [go_sem, simprocAttr, PI, List.map_cons, List.map_nil]; rfl) ?_
  refine InlP.nilArg ?_
  have hmo : (S.enter vs [.ref o 0] σ).mem (upId o) = some (.box (seaR h (txns h) who C B 0)) := by simp only [go_sem, simprocAttr, PI, hO, mo]; rfl
  have kp0 : KeepsB 800000000 vs o σ (S.enter vs [.ref o 0] σ) := KeepsB.enter (by omega)
  have hB8 : 800000000 + 1000000 ≤ Bd ((txns h).length + 1) := by unfold Bd; omega
  have d1 : decide (1 < Bd ((txns h).length + 1)) = true := decide_eq_true (by omega)
  have d2 : decide (2 < Bd ((txns h).length + 1)) = true := decide_eq_true (by omega)
  have d9 : decide (999991 < Bd ((txns h).length + 1)) = true := decide_eq_true (by omega)
  have hx1 : Ob.down (Ob.up (.box [.ref (upId o) 0])) = .box [.ref (upId o) 0] := by simp [Ob.up, Ob.down, R.up, R.down, upId_sub, upId_le]
  have hx9 : Ob.down (Ob.up (.frame cvs (capsR [(1, 0), (2, 0)]))) = .frame cvs (capsR [(1, 0), (2, 0)]) := by
    show Ob.frame cvs (fun t => ((capsR [(1, 0), (2, 0)] t).up).down) = _
    congr 1; funext t
    unfold capsR
    split
    · exact up_ref1
    · rfl
  have hcaps : ∀ (j : Nat) (c : Nat × Nat), ([(1, 0), (2, 0)] : List (Nat × Nat))[j]? = some c → capsR [(1, 0), (2, 0)] j = .ref c.1 c.2 := fun j c hc => by unfold capsR; rw [hc]
  refine from_inl h hE who C B hw hC hB ((txns h).length + 1) [] 0 (by omega) (by simp) List.nodup_nil (fun k hk => by cases hk) (Nat.zero_le _) hoU (by simp only [go_sem, simprocAttr, PI, hO, hOU, mo]; rfl) ?_ ?_
  · intro s' σ' hgo hs' hL hm
    have kp2 := KeepsB.left (Bd := 800000000) (vs := vs) (σ0 := σ) (h := (by repeat' first | (with_reducible exact kp0) | (with_reducible refine KeepsB.put ?_) | refine KeepsB.new rfl ?_ | exact kp0)) hB8 hL
    have m1 := hL.m (o := 1) (x := .box [.ref (upId o) 0]) (by simp only [go_sem, simprocAttr, PI]) d1 (by simp only [go_sem, simprocAttr, PI]) hx1
    have m2 := hL.m (o := 2) (x := .box [.a (I 0), .a (U 0), .a (.d (.sl [])), .a (I 0)]) (by simp only [go_sem, simprocAttr, PI]) d2 (by simp only [go_sem, simprocAttr, PI]; rfl) rfl
    have m9 := hL.m (o := 999991) (x := .frame cvs (capsR [(1, 0), (2, 0)])) (by simp only [go_sem, simprocAttr, PI]) d9 (by simp only [go_sem, simprocAttr, PI]) hx9
    have r2 := hL.r (t := 2) (r := .ref 2 0) (by simp only [go_sem, simprocAttr, PI]) up_ref1
    exact ⟨⟨_, m9, hcaps⟩, clos none _ s' (KeepsB.put kp2) m1 m2 hm (by simp only [go_sem, simprocAttr, PI, r2]) (.inl ⟨rfl, hgo⟩)⟩
  · intro v row' s' σ' hgo hs' hL hm
    have kp2 := KeepsB.left (Bd := 800000000) (vs := vs) (σ0 := σ) (h := (by repeat' first | (with_reducible exact kp0) | (with_reducible refine KeepsB.put ?_) | refine KeepsB.new rfl ?_ | exact kp0)) hB8 hL
    have m1 := hL.m (o := 1) (x := .box [.ref (upId o) 0]) (by simp only [go_sem, simprocAttr, PI]) d1 (by simp only [go_sem, simprocAttr, PI]) hx1
    have m2 := hL.m (o := 2) (x := .box [.a (I 0), .a (U 0), .a (.d (.sl [])), .a (I 0)]) (by simp only [go_sem, simprocAttr, PI]) d2 (by simp only [go_sem, simprocAttr, PI]; rfl) rfl
    have m9 := hL.m (o := 999991) (x := .frame cvs (capsR [(1, 0), (2, 0)])) (by simp only [go_sem, simprocAttr, PI]) d9 (by simp only [go_sem, simprocAttr, PI]) hx9
    have r2 := hL.r (t := 2) (r := .ref 2 0) (by simp only [go_sem, simprocAttr, PI]) up_ref1
    exact ⟨⟨_, m9, hcaps⟩, _, rfl, clos _ _ s' kp2 m1 m2 hm r2 (.inr ⟨v, row', rfl, hgo⟩)⟩
end Go.VC
end
section
set_option maxRecDepth 100000
set_option linter.unusedSimpArgs false
set_option linter.unusedVariables false
set_option linter.unnecessarySimpa false
namespace Go.VC
open Go.RowKit Go.Proofs Go.IntWalk
theorem rowI_len (row : List Nat) : (rowI row).length = row.length := by simp [rowI]
end Go.VC
end
section
set_option maxRecDepth 100000
set_option linter.unusedSimpArgs false
set_option linter.unusedVariables false
set_option linter.unnecessarySimpa false
namespace Go.VC
open Go.RowKit Go.Proofs Go.IntWalk
/-- A table that may be searched. -/
structure TabOk (T : List Txn) : Prop where
  len : T.length ≤ 6
  st : StT T
  ops : ∀ t ∈ T, OpsIn t.ops
end Go.VC
end
section
set_option maxRecDepth 100000
set_option linter.unusedSimpArgs false
set_option linter.unusedVariables false
set_option linter.unnecessarySimpa false
namespace Go.VC
open Go.RowKit Go.Proofs Go.IntWalk
/-- What a search found, of any numbers. -/
structure Fd where
  v : Int
  c : Int
  row : List Int
  s : Int
abbrev Fd.a (x : Fd) : A := .ag [dI x.v, .v (.int .u32 x.c), .sl (x.row.map ienc), dI x.s]
def Fnd.fd (x : Fnd) : Fd := ⟨x.v, x.c, rowI x.row, x.s⟩
def sameFd (a b : Fd) : Bool := a.v == b.v && a.c == b.c && a.s == b.s && a.row == b.row
theorem sameFd_refl (a : Fd) : sameFd a a = true := by simp [sameFd]
theorem t1034 (a b : Fd) : Holds Tryd.prog GL 8 [a.a, b.a] [.a (B (sameFd a b))] := by
  refine fn_holds (vs := [.tmp 4]) (by kernel_rfl) Tryd.func8 rfl rfl (by kernel_rfl) (by kernel_rfl) rfl ?_
  have h34 := t34 a.row b.row
  unfold sameFd
  obtain ⟨av, ac, ar, as_⟩ := a
  obtain ⟨bv, bc, br, bs⟩ := b
  simp only at h34 ⊢
  generalize (ar == br) = e at h34
  (refine rO ?_; repeat' ((with_reducible first | refine rG ?_ | (refine rS ?_ ?_ <;> intro hp) | (refine rB ?_ ?_ <;> intro hb <;> try rw [hb]) | refine rD ?_ | refine rA ?_ | fail) <;> try simp only [go_sem, simprocAttr]))
  · refine call_dat h34 ?_
    (refine rO ?_; repeat' ((with_reducible first | refine rG ?_ | (refine rS ?_ ?_ <;> intro hp) | (refine rB ?_ ?_ <;> intro hb <;> try rw [hb]) | refine rD ?_ | refine rA ?_ | fail) <;> try simp only [go_sem, simprocAttr]))
    simp_all
  all_goals simp_all
/-- Why nothing may be searched. -/
def maySE (h : List Ev) (n : Int) : Int := if checkE h = 0 then (if 0 ≤ n ∧ n ≤ 1000000 then 0 else 1) else checkE h
def maySV (h : List Ev) (n : Int) : List Nat := if maySE h n = 0 then afterR (txns h) else []
theorem t1128 (h : List Ev) (n : Int) : Holds Tryd.prog GL 20 [evsA h, I n] [.a (unsA (maySV h n)), .a (I (maySE h n))] := by
  refine fn_holds (vs := [.tmp 4, .tmp 5]) (by kernel_rfl) Tryd.func20 rfl rfl (by kernel_rfl) (by kernel_rfl) rfl ?_
  have h56 := t56 h
  rw [tabD_txns] at h56
  unfold maySV maySE
  by_cases hE : checkE h = 0
  · have hA : aftersV h = afterR (txns h) := by rw [aftersV, if_pos hE]
    rw [hE] at h56 ⊢
    generalize txns h = T at *
    (refine rO ?_; repeat' ((with_reducible first | refine rG ?_ | (refine rS ?_ ?_ <;> intro hp) | (refine rB ?_ ?_ <;> intro hb <;> try rw [hb]) | refine rD ?_ | refine rA ?_ | fail) <;> try simp only [go_sem, simprocAttr]))
    refine call_dat h56 ?_
    by_cases hn : 0 ≤ n ∧ n ≤ 1000000
    · rw [if_pos rfl, if_pos hn, if_pos rfl]
      have n1 : ¬ n < 0 := by omega
      have n2 : ¬ n > 1000000 := by omega
      (refine rO ?_; repeat' ((with_reducible first | refine rG ?_ | (refine rS ?_ ?_ <;> intro hp) | (refine rB ?_ ?_ <;> intro hb <;> try rw [hb]) | refine rD ?_ | apply c15 | refine rA ?_ | fail) <;> try simp only [go_sem, simprocAttr, hE, hA, n1, n2]))
    · rw [if_pos rfl, if_neg hn, if_neg (by decide)]
      (refine rO ?_; repeat' ((with_reducible first | refine rG ?_ | (refine rS ?_ ?_ <;> intro hp) | (refine rB ?_ ?_ <;> intro hb <;> try rw [hb]) | refine rD ?_ | apply c15 | refine rA ?_ | fail) <;> try simp only [go_sem, simprocAttr, hE, hA]))
      exact absurd ⟨by omega, by omega⟩ hn
  · generalize txns h = T at *
    generalize checkE h = c at *
    simp only [if_neg hE]
    (refine rO ?_; repeat' ((with_reducible first | refine rG ?_ | (refine rS ?_ ?_ <;> intro hp) | (refine rB ?_ ?_ <;> intro hb <;> try rw [hb]) | refine rD ?_ | refine rA ?_ | fail) <;> try simp only [go_sem, simprocAttr]))
    refine call_dat h56 ?_
    (refine rO ?_; repeat' ((with_reducible first | refine rG ?_ | (refine rS ?_ ?_ <;> intro hp) | (refine rB ?_ ?_ <;> intro hb <;> try rw [hb]) | refine rD ?_ | refine rA ?_ | fail) <;> try simp only [go_sem, simprocAttr, hE]))
theorem one_go {r : R} : one [r] = r := rfl
def rowE (h : List Ev) (who C : Nat) (n : Int) : Int := if maySE h n = 0 then (if (who ||| C) / 2 ^ (txns h).length = 0 then 0 else 7) else maySE h n
def rowF (h : List Ev) (who C : Nat) (n : Int) : Fnd := if rowE h who C n = 0 then foundF (txns h) who C n.toNat else ⟨0, 0, [], 0⟩
theorem mayS_ok {h : List Ev} {n : Int} (hm : maySE h n = 0) : checkE h = 0 ∧ 0 ≤ n ∧ n ≤ 1000000 := by
  unfold maySE at hm
  split at hm
  · split at hm
    · exact ⟨‹_›, ‹_ ∧ _›⟩
    · cases hm
  · exact absurd hm ‹_›
theorem t1056 (h : List Ev) (who C : Nat) (n : Int) (hw : who < 2 ^ 32) (hC : C < 2 ^ 32) : Holds Tryd.prog GL 33 [evsA h, U who, U C, I n] [.a (rowF h who C n).a, .a (I (rowE h who C n))] := by
  refine fn_holds (vs := [.cell 8 26, .tmp 9]) (by kernel_rfl) Tryd.func33 rfl rfl (by kernel_rfl) (by kernel_rfl) rfl ?_
  have hm := t1128 h n
  have hl6 := txns_len6 h
  have e2 : rowF h who C n = if rowE h who C n = 0 then foundF (txns h) who C n.toNat else ⟨0, 0, [], 0⟩ := rfl
  have hwc : who ||| C < 2 ^ 32 := Nat.or_lt_two_pow hw hC
  have hor := u32_or hw hC
  have hal := afterR_len (txns h)
  have hshr := u32_shr (b := who ||| C) (k := (txns h).length) (by omega)
  by_cases hM : maySE h n = 0
  · obtain ⟨hE, hn0, hn1⟩ := mayS_ok hM
    have e1 : rowE h who C n = if (who ||| C) / 2 ^ (txns h).length = 0 then 0 else 7 := by rw [rowE, if_pos hM]
    rw [maySV, if_pos hM, hM] at hm
    by_cases hb : (who ||| C) / 2 ^ (txns h).length = 0
    · rw [if_pos hb] at e1
      rw [e1, if_pos rfl] at e2
      rw [e1, e2]
      (refine rO ?_; repeat' ((with_reducible first | refine rG ?_ | (refine rS ?_ ?_ <;> intro hp) | (refine rB ?_ ?_ <;> intro hb <;> try rw [hb]) | refine rD ?_ | refine rA ?_ | fail) <;> try simp only [go_sem, simprocAttr]))
      refine call_dat hm ?_
      have hlt := (Nat.div_eq_zero_iff_lt (Nat.two_pow_pos _)).1 hb
      have hw2 : who < 2 ^ (txns h).length := Nat.lt_of_le_of_lt Nat.left_le_or hlt
      obtain ⟨N, rfl⟩ : ∃ N : Nat, n = N := ⟨n.toNat, by omega⟩
      rw [Int.toNat_natCast]
      (refine rO ?_; repeat' ((with_reducible first | refine rG ?_ | (refine rS ?_ ?_ <;> intro hp) | (refine rB ?_ ?_ <;> intro hb <;> try rw [hb]) | refine rD ?_ | refine rA ?_ | fail) <;> try simp only [go_sem, simprocAttr, hor, hshr, hal, List.length_map, hb]))
      refine SemOp.old ?_
      (refine rO ?_; repeat' ((with_reducible first | refine rG ?_ | (refine rS ?_ ?_ <;> intro hp) | (refine rB ?_ ?_ <;> intro hb <;> try rw [hb]) | refine rD ?_ | refine rA ?_ | fail) <;> try simp only [go_sem, simprocAttr, y_build0]))
      refine call_inl (search_inl h hE who C N hw2 hC (by omega) (o := 38) rfl (by simp only [go_sem, simprocAttr]; simp [seaR]) fun σ' hL => ?_)
      have m8 := hL.m (o := 8) (x := .box [.a (I 0), .a (U 0), .a (.d (.sl [])), .a (I 0)]) rfl rfl (by simp only [go_sem, simprocAttr]; rfl) rfl
      have r8 := hL.r (t := 8) (r := .ref 8 0) (by simp only [go_sem, simprocAttr]) up_ref1
      (refine rO ?_; repeat' ((with_reducible first | refine rG ?_ | (refine rS ?_ ?_ <;> intro hp) | (refine rB ?_ ?_ <;> intro hb <;> try rw [hb]) | refine rD ?_ | refine rA ?_ | fail) <;> try simp only [go_sem, simprocAttr, m8, r8, one_go]))
    · rw [if_neg hb] at e1
      rw [e1, if_neg (by decide)] at e2
      rw [e1, e2]
      have hbI : ¬ (((who ||| C) / 2 ^ (txns h).length : Nat) : Int) = 0 := by omega
      (refine rO ?_; repeat' ((with_reducible first | refine rG ?_ | (refine rS ?_ ?_ <;> intro hp) | (refine rB ?_ ?_ <;> intro hb <;> try rw [hb]) | refine rD ?_ | refine rA ?_ | fail) <;> try simp only [go_sem, simprocAttr]))
      refine call_dat hm ?_
      (refine rO ?_; repeat' ((with_reducible first | refine rG ?_ | (refine rS ?_ ?_ <;> intro hp) | (refine rB ?_ ?_ <;> intro hb <;> try rw [hb]) | refine rD ?_ | refine rA ?_ | fail) <;> try simp only [go_sem, simprocAttr, hor, hshr, hal, List.length_map, hbI]))
      refine SemOp.old ?_
      (refine rO ?_; repeat' ((with_reducible first | refine rG ?_ | (refine rS ?_ ?_ <;> intro hp) | (refine rB ?_ ?_ <;> intro hb <;> try rw [hb]) | refine rD ?_ | refine rA ?_ | fail) <;> try simp only [go_sem, simprocAttr, y_build0]))
      rfl
  · have e1 : rowE h who C n = maySE h n := by rw [rowE, if_neg hM]
    rw [e1, if_neg hM] at e2
    rw [maySV, if_neg hM] at hm
    rw [e1, e2]
    (refine rO ?_; repeat' ((with_reducible first | refine rG ?_ | (refine rS ?_ ?_ <;> intro hp) | (refine rB ?_ ?_ <;> intro hb <;> try rw [hb]) | refine rD ?_ | refine rA ?_ | fail) <;> try simp only [go_sem, simprocAttr]))
    refine call_dat hm ?_
    (refine rO ?_; repeat' ((with_reducible first | refine rG ?_ | (refine rS ?_ ?_ <;> intro hp) | (refine rB ?_ ?_ <;> intro hb <;> try rw [hb]) | refine rD ?_ | refine rA ?_ | fail) <;> try simp only [go_sem, simprocAttr, hM]))
    refine SemOp.old ?_
    (refine rO ?_; repeat' ((with_reducible first | refine rG ?_ | (refine rS ?_ ?_ <;> intro hp) | (refine rB ?_ ?_ <;> intro hb <;> try rw [hb]) | refine rD ?_ | refine rA ?_ | fail) <;> try simp only [go_sem, simprocAttr, y_build0]))
    rfl
end Go.VC
end
section
set_option maxRecDepth 100000
set_option linter.unusedSimpArgs false
set_option linter.unusedVariables false
set_option linter.unnecessarySimpa false
set_option linter.defProp false
namespace Go.VC
open Go.RowKit
section
variable {P : Program} {gl : Nat → Option (List D)} {σ : S} {o : Oper} {d : Nat} {x : Ob}
variable {ops : Array Oper}
theorem store_put {t : TypeId} {p r : R} {dst : Option Tmp} {u : R} : storeR P (σ.put dst u) t p r = (storeR P σ t p r).map fun σ' => σ'.put dst u := by
  cases dst with
  | none => simp [S.put]
  | some e =>
    unfold storeR
    have hm : (σ.put (some e) u).mem = σ.mem := rfl
    rw [hm]
    (repeat' split) <;> first | rfl | simp_all
/-- Two operations of which the first tells the same ahead of the second and behind it. -/
def Comm (P : Program) (gl : Nat → Option (List D)) (ops : Array Oper) (oi oj : Oper) : Prop :=
  ∀ (σ : S) (r : R) (K : S → Prop), Tells P gl ops oi r σ → stD P gl ops oj (σ.put oi.dst r) K → stD P gl ops oj σ fun σ' => Tells P gl ops oi r σ' ∧ K (σ'.put oi.dst r)
theorem Comm.quiet {oi oj : Oper} (hq : quietO oj = true) (ha : oi.apart ops oj = true) : Comm P gl ops oi oj := fun σ r K hy h => st_put hq ha hy h
/-- An operation that reads registers alone. -/
def regsO (o : Oper) : Bool := o.guard.isNone && match o.op with
  | .extract _ _ | .move _ => true
  | _ => false
theorem tells_set {oi : Oper} {r : R} {σ' : S} (hi : regsO oi = true) (he : σ'.regs = σ.regs) (h : Tells P gl ops oi r σ) : Tells P gl ops oi r σ' := by
  unfold regsO at hi
  simp only [Bool.and_eq_true, Option.isNone_iff_eq_none] at hi
  obtain ⟨hg, hi⟩ := hi
  have hev : ∀ y, σ'.eval gl y = σ.eval gl y := fun y => by cases y <;> simp [S.eval, he]
  have hw : ∀ τ, wantA ops oi τ = some true := fun τ => by simp [wantA, hg]
  rcases h with ⟨_, h2⟩ | ⟨h1, _⟩
  · refine .inl ⟨hw _, fun K hk => ?_⟩
    have := h2 K hk
    unfold opQ at this ⊢
    split at hi
    · rename_i y i ho
      rw [ho] at this ⊢
      dsimp only at this ⊢
      rw [hev]; exact this
    · rename_i y ho
      rw [ho] at this ⊢
      dsimp only at this ⊢
      rw [hev]; exact this
    · cases hi
  · rw [hw] at h1; cases h1
theorem Comm.store {oi oj : Oper} {t : TypeId} {p y : Operand} (hj : oj.op = .store t p y) (hjd : oj.dst = none) (hjg : oj.guard = none) (hi : regsO oi = true) (ha : oi.apart ops oj = true) : Comm P gl ops oi oj := fun σ r K hy h => by
  obtain ⟨h1, _, _⟩ := Oper.apart_spec ha
  have hq : quietO oj = false := by unfold quietO; rw [hj]
  have hx : isX P oj = false := by unfold isX; rw [hj]
  have hw : ∀ τ, wantA ops oj τ = some true := fun τ => by simp [wantA, hjg]
  have hst : ∀ (τ : S) (K : S → Prop), stD P gl ops oj τ K = (match storeR P τ t (τ.eval gl p) (τ.eval gl y) with | some σ' => K σ' | none => False) := fun τ K => by
    unfold stD inD opA
    rw [hw, hq, hx]
    simp only [opA0, hj, hjd, S.put]
    cases storeR P τ t (τ.eval gl p) (τ.eval gl y) <;> rfl
  rw [hst] at h ⊢
  have e1 : (σ.put oi.dst r).eval gl p = σ.eval gl p := eval_put (looks_op (by rw [hj]; simp [Op.operands]) h1)
  have e2 : (σ.put oi.dst r).eval gl y = σ.eval gl y := eval_put (looks_op (by rw [hj]; simp [Op.operands]) h1)
  rw [e1, e2, store_put] at h
  cases hs : storeR P σ t (σ.eval gl p) (σ.eval gl y) with
  | none => rw [hs] at h; exact h
  | some σ' =>
    rw [hs] at h
    refine ⟨tells_set hi ?_ hy, h⟩
    unfold storeR at hs
    (repeat' split at hs) <;> first | (cases hs; rfl) | (cases hs; done) | simp_all
end
end Go.VC
end
