/- Code is run as the abstract machine says; the contract of a function out of its body; loops. -/
import Derived.Test.YtjmbgnncokeliaaDoorVU
set_option linter.unusedVariables false
set_option linter.unusedSimpArgs false
namespace Go.VC
open Go.RowKit

section
variable {P : Program} {gl : Nat → Option (List D)}
theorem SemCode.mono {code : Code} {Q Q' : Ex → S → Prop} {σ : S} (hq : ∀ e σ, Q e σ → Q' e σ) (h : SemCode P gl code Q σ) : SemCode P gl code Q' σ :=
  fun c β a w ρ n h1 h2 h3 h4 h5 h6 => wpIn_mono (h c β a w ρ n h1 h2 h3 h4 h5 h6) fun e a w he => by
    cases e with
    | normal => obtain ⟨σ, β, hs, hk⟩ := he; exact ⟨σ, β, hs, hq _ _ hk⟩
    | exit id => obtain ⟨σ, β, hs, hk⟩ := he; exact ⟨σ, β, hs, hq _ _ hk⟩
    | ret => obtain ⟨σ, β, hs, hk⟩ := he; exact ⟨σ, β, hs, hq _ _ hk⟩
    | goto l => exact he
    | panic ch => exact he
    | outgrown => exact he
theorem awp_mono : ∀ (code : Code) {Q Q' : Ex → S → Prop} {σ : S}, (∀ e σ, Q e σ → Q' e σ) → awp P gl code Q σ → awp P gl code Q' σ
  | .skip, Q, Q', σ, hq, h => hq _ _ h
  | .label _, Q, Q', σ, hq, h => hq _ _ h
  | .exit _, Q, Q', σ, hq, h => hq _ _ h
  | .ret, Q, Q', σ, hq, h => hq _ _ h
  | .seq a b, Q, Q', σ, hq, h => by
    refine awp_mono a (fun e σ he => ?_) h
    cases e with
    | normal => exact awp_mono b hq he
    | exit id => exact hq _ _ he
    | ret => exact hq _ _ he
  | .cond c x y, Q, Q', σ, hq, h => by
    simp only [awp] at h ⊢
    split at h
    · exact ⟨fun e => awp_mono x hq (h.1 e), fun e => awp_mono y hq (h.2 e)⟩
    · exact h
  | .block id c, Q, Q', σ, hq, h => by
    refine awp_mono c (fun e σ he => ?_) h
    cases e with
    | normal => exact hq _ _ he
    | exit id' =>
      simp only [Ex.inBlock] at he ⊢
      split at he
      · rw [if_pos ‹_›]; exact hq _ _ he
      · rw [if_neg ‹_›]; exact hq _ _ he
    | ret => exact hq _ _ he
  | .scope c, Q, Q', σ, hq, h => awp_mono c hq h
  | .loop c, Q, Q', σ, hq, h => by
    intro I hI hG
    refine h I (fun σ hσ => hI σ (awp_mono c (fun e σ he => ?_) hσ)) hG
    cases e with
    | normal => exact he
    | exit id => exact hq _ _ he
    | ret => exact hq _ _ he
  | .region id ops draw, Q, Q', σ, hq, h => by
    cases draw with
    | false => exact opsA_mono (fun σ => hq _ σ) _ h
    | true => exact h.imp (fun h => ⟨h.1, opsQ_mono (fun σ => hq _ σ) _ h.2⟩) (SemCode.mono hq)
  | .goto _, Q, Q', σ, hq, h => SemCode.mono hq h
  | .refuse _, Q, Q', σ, hq, h => SemCode.mono hq h
  | .rangeFunc _ _ _ _, Q, Q', σ, hq, h => SemCode.mono hq h

theorem awp_loop_unfold {c : Code} {Q : Ex → S → Prop} {σ : S} (h : awp P gl c (Ex.then (awp P gl (.loop c) Q) Q) σ) : awp P gl (.loop c) Q σ := by
  intro I hI hG
  refine hI σ (awp_mono c (fun e σ he => ?_) h)
  cases e with
  | normal => exact he I hI hG
  | exit id => exact he
  | ret => exact he
/-- At a loop's head the same memory may be told otherwise. -/
theorem awp_ghost {c : Code} {Q : Ex → S → Prop} {σ σ' : S} (g : Ghost σ σ') (h : awp P gl (.loop c) Q σ') : awp P gl (.loop c) Q σ := fun I hI hG => hG σ σ' g (h I hI hG)
/-- A loop, by what holds at the head of each round and a number that goes down. -/
theorem awp_loop {c : Code} {Q : Ex → S → Prop} {σ : S} (I : Nat → S → Prop) (n : Nat) (h0 : I n σ)
    (h : ∀ n σ, I n σ → awp P gl c (Ex.then (fun σ' => ∃ m, m < n ∧ I m σ') Q) σ) : awp P gl (.loop c) Q σ := by
  induction n using Nat.strongRecOn generalizing σ with
  | _ n ih =>
    refine awp_loop_unfold (awp_mono c (fun e σ' he => ?_) (h n σ h0))
    cases e with
    | normal => obtain ⟨m, hm, hI⟩ := he; exact ih m hm hI
    | exit id => exact he
    | ret => exact he
end

section
variable {c : Cx}
theorem wpIn_scope0 {F : Fence} {n : Nat} {P : Program} {b : Code} {Q : Exit → Act → World → Prop} {a : Act} {w : World} (hg : ∀ l a w, ¬ Q (.goto l) a w) (h : b.wpIn F n P Q a w) : (Code.scope b).wpIn F n P Q a w := by
  intro fr k cs hro hb hr
  have h0 : (lone (fr.atR a (.code (.scope b) :: k)) cs w).fenced P F := fenced_calm hb hr rfl
  have s0 : step P (lone (fr.atR a (.code (.scope b) :: k)) cs w) = .next (lone (fr.atR a (.code b :: .inScope b :: k)) cs w) := step_lone_go (by simp [stepG, stepG.exec, Frame.atR])
  obtain ⟨e, a₁, w₁, hq, harr⟩ := h fr (.inScope b :: k) cs hro hb hr
  have s1 : step P (lone (fr.atR a₁ (.inScope b :: k)) cs w₁) = .next (lone (fr.atR a₁ k) cs w₁) := step_lone_go (by simp [stepG, stepG.exec, Frame.atR])
  cases e with
  | normal => exact ⟨.normal, a₁, w₁, hq, .head h0 s0 (StepsIn.trans harr (.one (fenced_calm hb hr rfl) s1))⟩
  | exit id =>
    have hx : exitTo id (.inScope b :: k) = exitTo id k := by simp [exitTo]
    exact ⟨_, a₁, w₁, hq, fun k' hk => .head h0 s0 (harr.1 k' (by rw [hx]; exact hk)),
      fun hr' hk => let ⟨k₁, h1, h2⟩ := harr.2 hr' (by rw [hx]; exact hk); ⟨k₁, h1, .head h0 s0 h2⟩⟩
  | goto l => exact (hg l a₁ w₁ hq).elim
  | ret => exact ⟨_, a₁, w₁, hq, .of_steps (.one h0 s0) harr⟩
  | panic ch => exact ⟨_, a₁, w₁, hq, .of_steps (.one h0 s0) harr⟩
  | outgrown => exact ⟨_, a₁, w₁, hq, .of_steps (.one h0 s0) harr⟩

theorem np_l {ρ : Option Nat} {x y : Bool} (h : ρ = none ∨ (x && y) = true) : ρ = none ∨ x = true := h.imp id fun h => (Bool.and_eq_true _ _ ▸ h).1
theorem np_r {ρ : Option Nat} {x y : Bool} (h : ρ = none ∨ (x && y) = true) : ρ = none ∨ y = true := h.imp id fun h => (Bool.and_eq_true _ _ ▸ h).2
theorem awp_sound (hm : c.P.follows .mixedOrders = true) {ρ : Option Nat} {n : Nat} : ∀ (code : Code) {Q : Ex → S → Prop} {σ : S} {β : Nat → Value} {a : Act} {w : World},
    dstOK c.N code = true → (ρ = none ∨ noRng code = true) → awp c.P c.gl code Q σ → Sim c σ β a w → code.wpIn (WF ρ) n c.P (Qh c Q) a w
  | .skip, Q, σ, β, a, w, hd, hp, h, hs => wpIn_skip ⟨σ, β, hs, h⟩
  | .label _, Q, σ, β, a, w, hd, hp, h, hs => wpIn_label ⟨σ, β, hs, h⟩
  | .exit _, Q, σ, β, a, w, hd, hp, h, hs => wpIn_exit ⟨σ, β, hs, h⟩
  | .ret, Q, σ, β, a, w, hd, hp, h, hs => wpIn_ret ⟨σ, β, hs, h⟩
  | .seq x y, Q, σ, β, a, w, hd, hp, h, hs => by
    simp only [dstOK, Bool.and_eq_true] at hd
    refine wpIn_seq (wpIn_mono (awp_sound hm x hd.1 (np_l hp) h hs) fun e a w he => ?_)
    cases e with
    | normal => obtain ⟨σ', β', hs', hk⟩ := he; exact awp_sound hm y hd.2 (np_r hp) hk hs'
    | exit id => exact he
    | ret => exact he
    | goto l => exact he
    | panic ch => exact he
    | outgrown => exact he
  | .cond x y z, Q, σ, β, a, w, hd, hp, h, hs => by
    simp only [dstOK, Bool.and_eq_true] at hd
    simp only [awp] at h
    split at h
    · rename_i b hb
      have hv := hs.eval x
      rw [hb] at hv
      refine wpIn_cond_split hv.inv_v (fun e => awp_sound hm y hd.1 (np_l hp) (h.1 e) hs) (fun e => awp_sound hm z hd.2 (np_r hp) (h.2 e) hs)
    · exact h.elim
  | .block id x, Q, σ, β, a, w, hd, hp, h, hs => by
    refine wpIn_block (wpIn_mono (awp_sound hm x hd hp h hs) fun e a w he => ?_)
    cases e with
    | normal => exact he
    | exit id' =>
      obtain ⟨σ', β', hs', hk⟩ := he
      simp only [Ex.inBlock] at hk
      simp only [Exit.inBlock]
      split at hk
      · rw [if_pos ‹_›]; exact ⟨σ', β', hs', hk⟩
      · rw [if_neg ‹_›]; exact ⟨σ', β', hs', hk⟩
    | ret => exact he
    | goto l => exact he
    | panic ch => exact he
    | outgrown => exact he
  | .scope x, Q, σ, β, a, w, hd, hp, h, hs => wpIn_scope0 (fun _ _ _ h => h) (awp_sound hm x hd hp h hs)
  | .loop x, Q, σ, β, a, w, hd, hp, h, hs => by
    intro b k cs hro hb hr
    have key := h (fun σ => ∀ β a w, Sim c σ β a w → ∃ e a' w', Qh c Q e a' w' ∧ ArrivesIn (Machine.fenced c.P (WF ρ)) c.P (lone (b.atR a (.code x :: .inLoop x :: k)) cs w) b k cs e a' w') (fun σ hσ β a w hs => by
      obtain ⟨e, a₁, w₁, hq, harr⟩ := awp_sound hm x hd hp hσ hs b (.inLoop x :: k) cs hro hb hr
      cases e with
      | normal =>
        obtain ⟨σ', β', hs', hk⟩ := hq
        obtain ⟨e₂, a₂, w₂, hq₂, harr₂⟩ := hk β' a₁ w₁ hs'
        exact ⟨e₂, a₂, w₂, hq₂, .of_steps (StepsIn.trans harr (.one (fenced_calm hb hr rfl) stepR_inLoop)) harr₂⟩
      | exit id =>
        obtain ⟨σ', β', hs', hk⟩ := hq
        exact ⟨.exit id, a₁, w₁, ⟨σ', β', hs', hk⟩, .pass (x := .inLoop x) rfl (fun _ _ => .inl (by simp)) harr⟩
      | ret =>
        obtain ⟨σ', β', hs', hk⟩ := hq
        exact ⟨.ret, a₁, w₁, ⟨σ', β', hs', hk⟩, .pass (x := .inLoop x) rfl (fun _ _ => .inl (by simp)) harr⟩
      | goto l => exact hq.elim
      | panic ch => exact hq.elim
      | outgrown => exact hq.elim) (fun σ σ' g hσ β a w hs => let ⟨β', hs'⟩ := g c β a w hs; hσ β' a w hs')
    obtain ⟨e, a', w', hq, harr⟩ := key β a w hs
    exact ⟨e, a', w', hq, .of_steps (.one (fenced_calm hb hr rfl) stepR_loop) harr⟩
  | .region id ops draw, Q, σ, β, a, w, hd, hp, h, hs => by
    have hdst : ∀ o ∈ ops.toList, ∀ d, o.dst = some d → d < c.N := fun o ho d hod => by
      have := List.all_eq_true.1 hd o ho
      rw [hod] at this
      simpa using this
    cases draw with
    | false => exact wpIn_region_list (opsA_sound (K := Q .normal) (fun σ β a w hs hk => ⟨σ, β, hs, hk⟩) ops.toList hdst hs h)
    | true =>
      rcases h with ⟨hok, h⟩ | h
      case inr => exact h c β a w ρ n rfl rfl hm hd hp hs
      simp only [DrawOk, Bool.and_eq_true] at hok
      have := any_lex (K := Q .normal) ops.toList 0 true (Array.replicate ops.size false) σ (by simp) hok.2 h
      refine wpIn_region_any hm (anyA_sound (K := Q .normal) (fun σ β a w hs hk => ⟨σ, β, hs, hk⟩) hdst ops.size _ (hs.drawn _) (by simpa using this))
  | .goto l, Q, σ, β, a, w, hd, hp, h, hs => h c β a w ρ n rfl rfl hm hd hp hs
  | .refuse _, Q, σ, β, a, w, hd, hp, h, hs => by cases hd
  | .rangeFunc _ _ _ _, Q, σ, β, a, w, hd, hp, h, hs => h c β a w ρ n rfl rfl hm hd hp hs
end

/-! ### Contracts -/
/-- A register's datum, when the call is over. -/
def endD (σ : S) : R → Option D
  | .a (.d x) => some x
  | .cs xs => some (.sl xs)
  | .own o => match σ.mem o with
    | some (.log _ _ xs) => some (.sl xs)
    | _ => none
  | .omp o => match σ.mem o with
    | some (.mpo kv) => some (.mp kv)
    | _ => none
  | .ref o off => match σ.mem o with
    | some (.box cs) => (allD cs).map fun ds => .pt (ds.drop off)
    | _ => none
  | _ => none
def endDs (σ : S) : List R → Option (List D)
  | [] => some []
  | r :: rs => match endD σ r, endDs σ rs with
    | some x, some xs => some (x :: xs)
    | _, _ => none
def endR (P : Program) (σ : S) : ResultVar → R → Rv → Prop
  | .tmp _, r, .a (.d x) => endD σ r = some x
  | .tmp _, r, .a (.ag xs) => r = .a (.ag xs)
  | .tmp _, .cs xs, .clip ys => xs = ys
  | .tmp _, .own o, .fresh e z ys => o < 1000000000 ∧ σ.mem o = some (.log e z ys)
  | .cell _ t, .ref o off, .a (.ag xs) => (match σ.mem o, tinf P t with
    | some (.box cs), some ti => ti.ag = true ∧ off + ti.sz ≤ cs.length ∧ endDs σ ((cs.drop off).take ti.sz) = some xs
    | _, _ => False)
  | .cell _ t, .ref o off, .a (.d x) => (match σ.mem o, tinf P t with
    | some (.box cs), some ti => ti.ag = false ∧ (match cs[off]? with
      | some r => endD σ r = some x
      | none => False)
    | _, _ => False)
  | .cell _ t, .a (.d (.pt cs)), .a (.ag xs) => (match tinf P t with
    | some ti => ti.ag = true ∧ ti.sz ≤ cs.length ∧ cs.take ti.sz = xs
    | none => False)
  | .cell _ t, .a (.d (.pt cs)), .a (.d x) => (match tinf P t with
    | some ti => ti.ag = false ∧ cs[0]? = some x
    | none => False)
  | _, _, _ => False
def rvTmp : ResultVar → Tmp
  | .tmp t => t
  | .cell t _ => t
def endRs (P : Program) (σ : S) : List ResultVar → List Rv → Prop
  | [], [] => True
  | v :: vs, r :: rs => endR P σ v (σ.regs (rvTmp v)) r ∧ endRs P σ vs rs
  | _, _ => False
/-- A result of one's own stands alone. -/
def aloneRs (rs : List Rv) : Prop :=
  rs.all (fun r => !r.isFresh) = true ∨ ((rs.filter Rv.isFresh).length ≤ 1 ∧ rs.all (fun r => r.isFresh || r.flat) = true)
def postA (P : Program) (fn : Func) (res : List Rv) : Ex → S → Prop
  | .normal, σ | .ret, σ => aloneRs res ∧ endRs P σ fn.results.toList res
  | _, _ => False
def initR (as : List A) (t : Nat) : R := match as[t]? with
  | some x => .a x
  | none => .any
def S.init (as : List A) : S := { regs := initR as, mem := fun _ => none }

section
variable {c : Cx} {σ : S} {β : Nat → Value} {a : Act} {w : World}

theorem RelR.inv_a {st : Nat → Prop} {v : Value} {x : A} (h : RelR β st w v (.a x)) : RelA st w v x := by cases h with | a h => exact h
theorem endD_rel {st : Nat → Prop} (h : Sim c σ β a w) {v : Value} {r : R} {x : D} (hv : RelR β (stF c σ β w) w v r) (hx : endD σ r = some x) (h1 : ∀ b, stF c σ β w b → st b) (h2 : ∀ o y b, σ.mem o = some y → ownB (β o) = some b → NotDef w b → st b) : Rd st w v x := by
  unfold endD at hx
  split at hx
  · cases hx; exact hv.inv_d.mono fun b hb => ⟨h1 b hb, rfl⟩
  · cases hx; obtain ⟨p, n, e, hr⟩ := hv.inv_cs; subst e; exact hr.mono fun b hb => ⟨h1 b hb, rfl⟩
  · split at hx
    · rename_i o _ e z xs hm
      cases hx
      obtain ⟨cells, hr, hf, hl⟩ := h.obj _ _ hm
      rw [hv.inv_own]
      exact row_rd hr hf hl h1 fun b hb => h2 o _ b hm hb (hr.nd hb)
    · cases hx
  · split at hx
    · rename_i o _ kv hm
      cases hx
      obtain ⟨r, clock, es, vs, hb, hh, hl, hs', hk, hd⟩ := h.obj _ _ hm
      cases hv with
      | omp e _ => rw [← e, hb]; exact .mp (h2 o _ r hm (by rw [hb]; rfl) (nd_map hh)) hh hl hs' hk fun i p a => (hd i p a).mono fun b hb => ⟨h1 b hb, rfl⟩
    · cases hx
  · split at hx
    · rename_i o off _ cs hm
      obtain ⟨ds, hds, rfl⟩ := Option.map_eq_some_iff.1 hx
      obtain ⟨b, arr, e, hb, hh, hf⟩ := h.obj _ _ hm
      obtain ⟨b', hb', rfl⟩ := hv.inv_ref
      rw [hb] at hb'; cases hb'
      have hcs := allD_inv hds
      refine Rd.mk_pt (h2 o _ b hm (by rw [hb]; rfl) (nd_cells hh)) hh fun j d hj => ?_
      rw [List.getElem?_drop] at hj
      obtain ⟨u, hu, _, hr⟩ := hf.get (show cs[off + j]? = some (.a (.d d)) by rw [hcs]; simp [hj])
      exact ⟨u, by simpa using hu, hr.inv_d.mono fun b hb => ⟨h1 b hb, rfl⟩⟩
    · cases hx
  · cases hx
theorem endDs_at : ∀ {rs : List R} {xs : List D}, endDs σ rs = some xs → rs.length = xs.length ∧ ∀ (i : Nat) (r : R) (x : D), rs[i]? = some r → xs[i]? = some x → endD σ r = some x
  | [], xs, h => by cases h; exact ⟨rfl, fun i r x hr => by simp at hr⟩
  | r :: rs, xs, h => by
    simp only [endDs] at h
    split at h
    · rename_i y ys h1 h2
      cases h
      obtain ⟨hl, hr⟩ := endDs_at h2
      refine ⟨by simp [hl], fun i r' x hr' hx => ?_⟩
      cases i with
      | zero => simp at hr' hx; subst hr'; subst hx; exact h1
      | succ i => exact hr i r' x (by simpa using hr') (by simpa using hx)
    · cases h

/-- What each result is. -/
theorem endR_rel {st : Nat → Prop} {n : Nat} (h : Sim c σ β a w) {v : ResultVar} {r : Rv} (he : endR c.P σ v (σ.regs (rvTmp v)) r) (h1 : ∀ b, stF c σ β w b → st b) (h2 : r.isFresh = false → ∀ o y b, σ.mem o = some y → ownB (β o) = some b → NotDef w b → st b)
    (h3 : r.isFresh = true → ∀ o y b, o < 1000000000 → σ.mem o = some y → ownB (β o) = some b → n ≤ b) :
    ∃ u, (match v with
      | .tmp t => pure (a.tmps.getD t undef)
      | .cell x t => do loadVar t (← asAddr (a.tmps.getD x undef)) : Sem Value).run c.P w = .ok u w ∧ RelV st w n u r := by
  have hreg := h.reg (rvTmp v)
  cases v with
  | tmp t =>
    refine ⟨_, rfl, ?_⟩
    simp only [rvTmp] at hreg he
    cases r with
    | a x =>
      cases x with
      | d x => exact endD_rel h hreg he h1 (h2 rfl)
      | ag xs =>
        simp only [endR] at he
        rw [he] at hreg
        exact RelA.mono (fun b hb => ⟨h1 b hb, rfl⟩) hreg.inv_a
    | clip ys =>
      generalize σ.regs t = rr at he hreg
      generalize a.tmps.getD t undef = vv at hreg ⊢
      cases rr <;> simp only [endR] at he
      subst he
      obtain ⟨p, k, hv, hr⟩ := hreg.inv_cs
      exact ⟨p, k, hv, by rw [hv]; exact hr.mono fun b hb => ⟨h1 b hb, rfl⟩⟩
    | fresh e z ys =>
      generalize σ.regs t = rr at he hreg
      cases rr <;> simp only [endR] at he
      rename_i o
      obtain ⟨cells, hr, hf, hl⟩ := h.obj _ _ he.2
      rw [hreg.inv_own]
      exact ⟨⟨cells, hr, hf.mono fun _ _ => Rd.mono fun b hb => ⟨h1 b hb, rfl⟩, hl⟩, fun b hb => h3 rfl o _ b he.1 he.2 hb⟩
  | cell x t =>
    simp only [rvTmp] at hreg he
    generalize hrr : σ.regs x = rr at he hreg
    cases r with
    | clip ys => cases rr <;> simp only [endR] at he
    | fresh e z ys => cases rr <;> simp only [endR] at he
    | a y =>
      cases rr with
      | ref o off =>
        obtain ⟨b, hb, hv⟩ := hreg.inv_ref
        cases y with
        | d y =>
          simp only [endR] at he
          split at he
          · rename_i cs ti hm hti
            obtain ⟨hag, he⟩ := he
            split at he
            · rename_i rc hrc
              obtain ⟨b', arr, e, hb', hh, hf⟩ := h.obj _ _ hm
              rw [hb] at hb'; cases hb'
              obtain ⟨u, hu, _, hr⟩ := hf.get hrc
              exact ⟨u, by simp only [hv, Sem.run_bind, asAddr, Sem.run_pure, Result.andThen_ok]; exact run_loadVar_one hti hag hh (by simpa using hu), endD_rel h hr he h1 (h2 rfl)⟩
            · exact he.elim
          · exact he.elim
        | ag xs =>
          simp only [endR] at he
          split at he
          · rename_i cs ti hm hti
            obtain ⟨hag, hle, he⟩ := he
            obtain ⟨b', arr, e, hb', hh, hf⟩ := h.obj _ _ hm
            rw [hb] at hb'; cases hb'
            obtain ⟨hl, hat⟩ := endDs_at he
            have ff := (hf.drop off).take ti.sz
            have hlen : ((arr.toList.drop off).take ti.sz).length = ti.sz := by rw [ff.1]; simp; omega
            refine ⟨.agg ((arr.toList.drop off).take ti.sz).toArray, ?_, _, rfl, by rw [ff.1, hl], fun i u d hu hd => ?_⟩
            · simp only [hv, Sem.run_bind, asAddr, Sem.run_pure, Result.andThen_ok]
              refine run_loadVar_agg hti hag hh hlen fun j u hj => ?_
              rw [List.getElem?_take] at hj
              split at hj
              · rw [List.getElem?_drop] at hj; simpa using hj
              · cases hj
            · have hi := (List.getElem?_eq_some_iff.1 hd).1
              rw [← hl] at hi
              exact endD_rel h (ff.2 i u _ hu (List.getElem?_eq_getElem hi)).2 (hat i _ d (List.getElem?_eq_getElem hi) hd) h1 (h2 rfl)
          · exact he.elim
      | a z =>
        cases z with
        | ag _ => cases y <;> simp only [endR] at he
        | d z =>
          cases z with
          | pt cs =>
            have hpt := hreg.inv_d
            obtain ⟨b, off, arr, e, fr, hv, hst, hh, hc⟩ := hpt.inv_pt
            cases y with
            | d y =>
              simp only [endR] at he
              split at he
              · rename_i ti hti
                obtain ⟨u, hu, hr⟩ := hc 0 y he.2
                exact ⟨u, by simp only [hv, Sem.run_bind, asAddr, Sem.run_pure, Result.andThen_ok]; exact run_loadVar_one hti he.1 hh (by simpa using hu), Rd.mono (fun b hb => ⟨h1 b hb, rfl⟩) hr⟩
              · exact he.elim
            | ag xs =>
              simp only [endR] at he
              split at he
              · rename_i ti hti
                obtain ⟨hag, hle, rfl⟩ := he
                have hcell : ∀ j d, (cs.take ti.sz)[j]? = some d → ∃ u, arr.toList[off + j]? = some u ∧ Rd (stF c σ β w) w u d := by
                  intro j d hj
                  rw [List.getElem?_take] at hj
                  split at hj
                  · obtain ⟨u, hu, hr⟩ := hc j d hj
                    exact ⟨u, by simpa using hu, hr⟩
                  · cases hj
                refine ⟨.agg ((List.range ti.sz).map fun j => arr.toList.getD (off + j) undef).toArray, ?_, _, rfl, by simp; omega, fun i u d hu hd => ?_⟩
                · simp only [hv, Sem.run_bind, asAddr, Sem.run_pure, Result.andThen_ok]
                  refine run_loadVar_agg hti hag hh (by simp) fun j u hj => ?_
                  simp only [List.getElem?_map, Option.map_eq_some_iff] at hj
                  obtain ⟨j', hj', rfl⟩ := hj
                  obtain ⟨hlt, rfl⟩ := List.getElem?_eq_some_iff.1 hj'
                  simp only [List.length_range] at hlt
                  obtain ⟨u, hu, _⟩ := hcell j _ (List.getElem?_eq_getElem (by simp; omega))
                  simp only [List.getElem_range]
                  rw [← Array.getElem?_toList, hu, List.getD_eq_getElem?_getD, hu]; rfl
                · simp only [List.getElem?_map, Option.map_eq_some_iff] at hu
                  obtain ⟨j', hj', rfl⟩ := hu
                  obtain ⟨hlt, rfl⟩ := List.getElem?_eq_some_iff.1 hj'
                  simp only [List.getElem_range]
                  obtain ⟨u, hu, hr⟩ := hcell i d hd
                  rw [List.getD_eq_getElem?_getD, hu]
                  exact Rd.mono (fun b hb => ⟨h1 b hb, rfl⟩) hr
              · exact he.elim
          | v x => cases y <;> simp only [endR] at he
          | sl xs => cases y <;> simp only [endR] at he
          | fn f cs => cases y <;> simp only [endR] at he
          | mp kv => cases y <;> simp only [endR] at he
      | any => cases y <;> simp only [endR] at he
      | cs _ => cases y <;> simp only [endR] at he
      | eref _ _ _ _ => cases y <;> simp only [endR] at he
      | sem _ _ => cases y <;> simp only [endR] at he
      | agr _ => cases y <;> simp only [endR] at he
      | own _ => cases y <;> simp only [endR] at he
      | omp _ => cases y <;> simp only [endR] at he
      | clo _ _ => cases y <;> simp only [endR] at he
      | tp _ => cases y <;> simp only [endR] at he

/-! ### The contract of a function, out of its body -/
def resG (tmps : Array Value) : ResultVar → Sem Value
  | .tmp t => pure (tmps.getD t undef)
  | .cell x t => do loadVar t (← asAddr (tmps.getD x undef))
def resV (P : Program) (tmps : Array Value) (w : World) (v : ResultVar) : Value :=
  match (resG tmps v).run P w with
  | .ok u _ => u
  | _ => undef
theorem resV_of {P : Program} {tmps : Array Value} {v : ResultVar} {u : Value} (h : (resG tmps v).run P w = .ok u w) : resV P tmps w v = u := by simp [resV, h]
theorem endR_at {st : Nat → Prop} {n : Nat} (h : Sim c σ β a w) {v : ResultVar} {r : Rv} (he : endR c.P σ v (σ.regs (rvTmp v)) r) (h1 : ∀ b, stF c σ β w b → st b) (h2 : r.isFresh = false → ∀ o y b, σ.mem o = some y → ownB (β o) = some b → NotDef w b → st b)
    (h3 : r.isFresh = true → ∀ o y b, o < 1000000000 → σ.mem o = some y → ownB (β o) = some b → n ≤ b) :
    (resG a.tmps v).run c.P w = .ok (resV c.P a.tmps w v) w ∧ RelV st w n (resV c.P a.tmps w v) r := by
  obtain ⟨u, hu, hr⟩ := endR_rel (n := n) h he h1 h2 h3
  have hu' : (resG a.tmps v).run c.P w = .ok u w := by cases v <;> exact hu
  rw [resV_of hu']
  exact ⟨hu', hr⟩
theorem endRs_at {P : Program} : ∀ {vs : List ResultVar} {rs : List Rv}, endRs P σ vs rs → vs.length = rs.length ∧ ∀ (i : Nat) (v : ResultVar) (r : Rv), vs[i]? = some v → rs[i]? = some r → endR P σ v (σ.regs (rvTmp v)) r
  | [], [], _ => ⟨rfl, fun i v r hv => by simp at hv⟩
  | [], _ :: _, h => h.elim
  | _ :: _, [], h => h.elim
  | v :: vs, r :: rs, h => by
    obtain ⟨h0, hs⟩ := h
    obtain ⟨hl, hr⟩ := endRs_at hs
    refine ⟨by simp [hl], fun i v' r' hv' hr' => ?_⟩
    cases i with
    | zero => simp at hv' hr'; subst hv'; subst hr'; exact h0
    | succ i => exact hr i v' r' (by simpa using hv') (by simpa using hr')
theorem endR_fresh {P : Program} {v : ResultVar} {r : Rv} (he : endR P σ v (σ.regs (rvTmp v)) r) (hr : r.isFresh = true) : ∃ t o e z ys, v = .tmp t ∧ σ.regs t = .own o ∧ o < 1000000000 ∧ σ.mem o = some (.log e z ys) := by
  cases r with
  | a x => cases hr
  | clip x => cases hr
  | fresh e z ys =>
    cases v with
    | cell x t =>
      simp only [rvTmp] at he
      generalize σ.regs x = rr at he
      cases rr <;> simp only [endR] at he
    | tmp t =>
      simp only [rvTmp] at he
      generalize hrr : σ.regs t = rr at he
      cases rr <;> simp only [endR] at he
      exact ⟨_, _, _, _, _, rfl, hrr, he.1, he.2⟩
theorem filter_one {α : Type} {p : α → Bool} : ∀ {l : List α} {i j : Nat} {x y : α}, (l.filter p).length ≤ 1 → l[i]? = some x → l[j]? = some y → p x = true → p y = true → i = j
  | [], i, j, x, y, _, h, _, _, _ => by simp at h
  | a :: l, 0, 0, x, y, _, _, _, _, _ => rfl
  | a :: l, 0, j + 1, x, y, hl, hx, hy, px, py => by
    simp at hx; subst hx
    have hy' : l[j]? = some y := by simpa using hy
    have : y ∈ l.filter p := List.mem_filter.2 ⟨List.mem_of_getElem? hy', py⟩
    simp only [List.filter_cons, px, if_true, List.length_cons] at hl
    have := List.length_pos_of_mem this
    omega
  | a :: l, i + 1, 0, x, y, hl, hx, hy, px, py => by
    simp at hy; subst hy
    have hx' : l[i]? = some x := by simpa using hx
    have : x ∈ l.filter p := List.mem_filter.2 ⟨List.mem_of_getElem? hx', px⟩
    simp only [List.filter_cons, py, if_true, List.length_cons] at hl
    have := List.length_pos_of_mem this
    omega
  | a :: l, i + 1, j + 1, x, y, hl, hx, hy, px, py => by
    have : (l.filter p).length ≤ 1 := by
      simp only [List.filter_cons] at hl
      split at hl
      · simp only [List.length_cons] at hl; omega
      · exact hl
    exact congrArg (· + 1) (filter_one this (by simpa using hx) (by simpa using hy) px py)
theorem Rv.flat_rel {st st' : Nat → Prop} {n : Nat} {u : Value} {r : Rv} (hf : r.flat = true) (h : RelV st w n u r) : RelV st' w n u r := by
  cases r with
  | a x => exact A.flat_rel hf h
  | clip _ => cases hf
  | fresh _ _ _ => cases hf
theorem Rv.flat_not {r : Rv} (h : r.flat = true) : r.isFresh = false := by cases r <;> first | rfl | cases h

def ctx (P : Program) (gl : Nat → Option (List D)) (st : Nat → Prop) (w : World) (N : Nat) : Cx := ⟨P, gl, fun _ => False, st, w, N, [], fun _ _ h => h, [], fun _ _ => True, fun _ _ => trivial⟩
theorem init_sim {P : Program} {gl : Nat → Option (List D)} {st : Nat → Prop} {N : Nat} {as : List A} {vs : List Value} (he : EnvOk gl st w) (hv : F2 (RelA st w) vs as) (hN : as.length ≤ N) :
    Sim (ctx P gl st w N) (S.init as) β { tmps := vs.toArray ++ Array.replicate (N - vs.toArray.size) undef, defers := [] } w := by
  have hst : ∀ b, (st b ∧ b < w.heap.size ∧ NotDef w b) → stF (ctx P gl st w N) (S.init as) β w b ∧ w.heap[b]? = w.heap[b]? := fun b hb => ⟨⟨hb.2.1, fun _ => hb.1, fun o x hx => (by simp [S.init] at hx), hb.2.2⟩, rfl⟩
  have hl := hv.1
  refine ⟨Keep.refl _ _, ?_, ⟨[], rfl, List.nodup_nil, fun D hD => by cases hD⟩, trivial, fun o x hx => by simp [S.init] at hx, fun o x b hx => by simp [S.init] at hx, fun o o' x x' b hx => by simp [S.init] at hx, fun t => ?_, he.here.mono hst⟩
  · simp [ctx]; omega
  · simp only [S.init, initR]
    split
    · rename_i x hx
      obtain ⟨v, hv', hr⟩ := hv.get hx
      have ht := (List.getElem?_eq_some_iff.1 hv').1
      have : (vs.toArray ++ Array.replicate (N - vs.toArray.size) undef).getD t undef = v := by
        rw [Array.getD_eq_getD_getElem?, Array.getElem?_append_left (by simpa using ht)]
        simp [hv']
      rw [this]
      exact .a (hr.here.mono hst)
    · exact .any

/-- A frame leaves by its marks: the blocks are shut. -/
theorem marks_out {c : Cx} {n : Nat} {fn : Func} {R : Ending → World → Prop} {σ : S} {β : Nat → Value} (hdf : c.df = []) : ∀ (Ds : List Nat) {a : Act} {w : World}, Sim c σ β a w → a.defers = Ds.map markD → MarksOk c σ β w (Ds ++ c.M) →
    (∀ a' w', a'.tmps = a.tmps → a'.defers = [] → Sim c σ β a' w' → ∃ v, (results fn a'.tmps).run c.P w' = .ok v w' ∧ R (.returned v) w') → LeavesInM Fence.wide n c.P fn a.tmps R (Ds.map markD) .returning w
  | [], a, w, hs, hd, hm, hR => by
    obtain ⟨v, hv, hr⟩ := hR a w rfl hd hs
    exact ⟨v, hv, hr⟩
  | D :: Ds, a, w, hs, hd, hm, hR => by
    obtain ⟨h1, h2, h3⟩ := hm.ok D (by simp)
    have hlt := lt_of_some h2
    have hnd := hm.nd
    simp only [List.cons_append, List.nodup_cons] at hnd
    refine ⟨by simp, .inl ⟨D, w.putObj D (.deferred none), rfl, run_takeDeferred h2, ?_⟩⟩
    have ho : ∀ k, k ≠ D → (w.putObj D (.deferred none)).heap[k]? = w.heap[k]? := fun k hk => World.putObj_heap_other hk
    have hk : Keep (fun b => b = D) w (w.putObj D (.deferred none)) := ⟨rfl, rfl, rfl, by simp [World.putObj], fun k _ hk => ho k hk⟩
    have H : ∀ b, stF c σ β w b → stF c σ β (w.putObj D (.deferred none)) b ∧ (w.putObj D (.deferred none)).heap[b]? = w.heap[b]? := fun b hb => by
      have hne : b ≠ D := fun e => hb.2.2.2 _ (e ▸ h2)
      exact ⟨⟨Nat.lt_of_lt_of_le hb.1 hk.size, hb.2.1, hb.2.2.1, hb.2.2.2.same (ho b hne)⟩, ho b hne⟩
    have hm' : MarksOk c σ β (w.putObj D (.deferred none)) (Ds ++ c.M) := ⟨hnd.2, fun D' hD' => by
      obtain ⟨g1, g2, g3⟩ := hm.ok D' (by simp only [List.cons_append, List.mem_cons]; exact .inr hD')
      exact ⟨g1, (ho D' fun e => hnd.1 (e ▸ hD')).trans g2, g3⟩⟩
    exact marks_out hdf Ds (a := { a with defers := Ds.map markD }) (w := w.putObj D (.deferred none))
      ⟨hs.keep.trans hk (fun j e hj => by omega), hs.size, ⟨Ds, by rw [hdf]; simp, hm'⟩, c.hE H hs.ext, fun o x hx => (hs.obj o x hx).mono H fun b hb => ho b fun e => h3 o x hx (e ▸ hb), hs.blk, hs.dis, fun t => (hs.reg t).mono H, hs.env.mono H⟩
      rfl hm' hR
theorem holds_of {P : Program} {gl : Nat → Option (List D)} {f : FuncId} {fn : Func} {body : Code} {as : List A} {res : List Rv} (hm : P.follows .mixedOrders = true)
    (hf : P.funcs[f]? = some fn) (hb : fn.body = some body) (hname : (fn.name == "runtime.NumGoroutine") = false) (hd : dstOK fn.ntmps body = true) (hN : as.length ≤ fn.ntmps)
    (h : awp P gl body (postA P fn res) (S.init as)) : Holds P gl f as res := by
  refine ⟨⟨fn, hf, by rw [hb]; rfl, hname⟩, fun st w vs he hv => ?_⟩
  rw [← callsIn_wide (n := 0)]
  refine callsIn_of_wp_marks hf hb trivial ?_
  have hwf : Fence.wide = WF none := rfl
  rw [hwf]
  refine wpIn_mono (awp_sound (c := ctx P gl st w fn.ntmps) (β := fun _ => undef) (ρ := none) hm body hd (.inl rfl) h (init_sim he hv hN)) fun e a w' hq => ?_
  have fin : ∀ σ β a w', Sim (ctx P gl st w fn.ntmps) σ β a w' → aloneRs res → endRs P σ fn.results.toList res → ∃ v, (results fn a.tmps).run P w' = .ok v w' ∧ ∃ us : List Value, Ending.returned v = .returned (retV us) ∧ Keep (fun _ => False) w w' ∧
      F2 (RelV (newSt st w w' us res) w' w.heap.size) us res ∧
      (∀ (i j : Nat) (u u' : Value) (r r' : Rv) (b : Nat), us[i]? = some u → us[j]? = some u' → res[i]? = some r → res[j]? = some r' → r.isFresh = true → r'.isFresh = true → ownB u = some b → ownB u' = some b → i = j) := by
    intro σ β a w' hs hal hends
    obtain ⟨hlen, hat⟩ := endRs_at hends
    have hbig : ∀ v r, endR P σ v (σ.regs (rvTmp v)) r → (resG a.tmps v).run P w' = .ok (resV P a.tmps w' v) w' ∧ RelV (fun _ => True) w' w.heap.size (resV P a.tmps w' v) r := fun v r he =>
      endR_at hs he (fun _ _ => trivial) (fun _ _ _ _ _ _ _ => trivial) fun _ o y b ho hm hb => (hs.blk o y b hm hb).elim id fun hx => hx.1.elim
    let us : List Value := fn.results.toList.map (resV P a.tmps w')
    have husat : ∀ (i : Nat) (u : Value), us[i]? = some u → ∃ v, fn.results.toList[i]? = some v ∧ u = resV P a.tmps w' v := fun i u hu => by
      simp only [us, List.getElem?_map, Option.map_eq_some_iff] at hu
      obtain ⟨v, hv, rfl⟩ := hu
      exact ⟨v, hv, rfl⟩
    have hfr : ∀ b, freshB us res b → ∃ o y, σ.mem o = some y ∧ ownB (β o) = some b := fun b ⟨i, u, r, hu, hr, hfr, hob⟩ => by
      obtain ⟨v, hv, rfl⟩ := husat i u hu
      obtain ⟨t, o, e, z, ys, rfl, hreg, ho, hm⟩ := endR_fresh (hat i v r hv hr) hfr
      have hx := hs.reg t
      rw [hreg] at hx
      have hval : resV P a.tmps w' (.tmp t) = β o := by rw [resV_of (u := a.tmps.getD t undef) rfl]; exact hx.inv_own
      rw [hval] at hob
      exact ⟨o, _, hm, hob⟩
    have h1 : ∀ b, stF (ctx P gl st w fn.ntmps) σ β w' b → newSt st w w' us res b := fun b ⟨hlt, h0, hno, hndf⟩ => by
      by_cases hlt' : b < w.heap.size
      · exact .inl ⟨h0 hlt', hlt'⟩
      · exact .inr ⟨Nat.not_lt.1 hlt', hlt, fun hf => (let ⟨o, y, hm, hb⟩ := hfr b hf; hno o y hm hb), hndf⟩
    have hrel : ∀ (i : Nat) (u : Value) (r : Rv), us[i]? = some u → res[i]? = some r → RelV (newSt st w w' us res) w' w.heap.size u r := fun i u r hu hr => by
      obtain ⟨v, hv, rfl⟩ := husat i u hu
      have he := hat i v r hv hr
      have h3 : ∀ o y b, σ.mem o = some y → ownB (β o) = some b → w.heap.size ≤ b := fun o y b hm hb => (hs.blk o y b hm hb).elim id fun hx => hx.1.elim
      rcases hal with hal | ⟨hone, hall⟩
      · have hnone : ∀ b, ¬ freshB us res b := fun b ⟨i, u, r, hu, hr, hfr, hob⟩ => by
          have := List.all_eq_true.1 hal r (List.mem_of_getElem? hr)
          rw [hfr] at this; cases this
        exact (endR_at hs he h1 (fun _ o y b hm hb hq => .inr ⟨h3 o y b hm hb, (hs.obj o y hm).lt hb, hnone b, hq⟩) fun _ o y b _ hm hb => h3 o y b hm hb).2
      · cases hrf : r.isFresh with
        | true => exact (endR_at hs he h1 (fun hn => by rw [hrf] at hn; cases hn) fun _ o y b _ hm hb => h3 o y b hm hb).2
        | false =>
          have := List.all_eq_true.1 hall r (List.mem_of_getElem? hr)
          rw [hrf, Bool.false_or] at this
          exact Rv.flat_rel this (hbig v r he).2
    refine ⟨retV us, ?_, us, rfl, hs.keep, ⟨by simp [us, hlen], hrel⟩, fun i j u u' r r' b hu hu' hr hr' hfr' hfr'' _ _ => ?_⟩
    · have hrun : (fn.results.mapM (resG a.tmps)).run P w' = .ok us.toArray w' := run_mapM_arr _ (resV P a.tmps w') fun v hv => by
        obtain ⟨i, hi⟩ := List.getElem?_of_mem hv
        obtain ⟨hlt, _⟩ := List.getElem?_eq_some_iff.1 hi
        exact (hbig v _ (hat i v _ hi (List.getElem?_eq_getElem (by rw [← hlen]; exact hlt)))).1
      have : results fn a.tmps = (do let vs ← fn.results.mapM (resG a.tmps); pure (if h : vs.size = 1 then vs[0] else .tuple vs)) := rfl
      rw [this, Sem.run_bind, hrun, Result.andThen_ok]
      show Result.ok _ _ = _
      congr 1
      match us with
      | [] => rfl
      | [_] => rfl
      | _ :: _ :: _ => simp [retV]
    · rcases hal with hal | ⟨hone, _⟩
      · have := List.all_eq_true.1 hal r (List.mem_of_getElem? hr)
        rw [hfr'] at this; cases this
      · exact filter_one hone hr hr' hfr' hfr''
  cases e with
  | normal =>
    obtain ⟨σ, β, hs, hk⟩ := hq
    obtain ⟨Ds, hd, hm⟩ := hs.df
    rw [show (ctx P gl st w fn.ntmps).df = [] from rfl, List.append_nil] at hd
    show LeavesInM _ _ P fn a.tmps _ a.defers .returning w'
    rw [hd]
    exact marks_out rfl Ds hs hd hm fun a' w' _ _ hs' => fin σ β a' w' hs' hk.1 hk.2
  | ret =>
    obtain ⟨σ, β, hs, hk⟩ := hq
    obtain ⟨Ds, hd, hm⟩ := hs.df
    rw [show (ctx P gl st w fn.ntmps).df = [] from rfl, List.append_nil] at hd
    show LeavesInM _ _ P fn a.tmps _ a.defers .returning w'
    rw [hd]
    exact marks_out rfl Ds hs hd hm fun a' w' _ _ hs' => fin σ β a' w' hs' hk.1 hk.2
  | exit id => obtain ⟨σ, β, hs, hk⟩ := hq; exact hk.elim
  | goto l => exact hq.elim
  | panic ch => exact hq.elim
  | outgrown => exact hq.elim
end
end Go.VC
