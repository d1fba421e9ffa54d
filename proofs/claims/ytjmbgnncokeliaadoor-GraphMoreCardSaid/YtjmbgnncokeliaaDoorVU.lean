/- Regions, in order and in drawn order; code; the contract of a function out of its body. -/
import Derived.Test.YtjmbgnncokeliaaDoorVT
import Derived.TacticsIn
set_option linter.unusedVariables false
set_option linter.unusedSimpArgs false
namespace Go.VC
open Go.RowKit

section
variable {P : Program} {gl : Nat → Option (List D)} {ops : Array Oper}

def wantA (ops : Array Oper) (o : Oper) (σ : S) : Option Bool :=
  match o.guard with
  | none => some true
  | some (j, want) => (guardR ops σ j).map (· == some want)
/-- An operation of a drawn region, with its guard. -/
def stD (P : Program) (gl : Nat → Option (List D)) (ops : Array Oper) (o : Oper) (σ : S) (K : S → Prop) : Prop :=
  match wantA ops o σ with
  | some true => inD P gl o σ K
  | some false => K (σ.put o.dst (.tp []))
  | none => False
theorem gK_iff {b want : Bool} {X Y : Prop} : gK b want X Y ↔ ((b == want) = true → X) ∧ ((b == want) = false → Y) := by
  cases b <;> cases want <;> simp [gK, brK]
theorem opsQ_cons {o : Oper} {rest : List Oper} {σ : S} {K : S → Prop} : opsQ P gl ops (o :: rest) σ K ↔ stD P gl ops o σ fun σ' => opsQ P gl ops rest σ' K := by
  unfold stD wantA
  simp only [opsQ]
  cases o.guard with
  | none => exact Iff.rfl
  | some g =>
    obtain ⟨j, want⟩ := g
    dsimp only
    cases guardR ops σ j with
    | none => exact Iff.rfl
    | some b =>
      cases b with
      | none => simp
      | some b =>
        dsimp only [Option.map_some]
        rw [gK_iff]
        have : (some b == some want) = (b == want) := by cases b <;> cases want <;> rfl
        rw [this]
        cases b == want <;> simp
theorem opsA_cons {o : Oper} {rest : List Oper} {σ : S} {K : S → Prop} : opsA P gl ops (o :: rest) σ K ↔ (match wantA ops o σ with
    | some true => opA P gl o σ fun σ' => opsA P gl ops rest σ' K
    | some false => opsA P gl ops rest (σ.put o.dst (.tp [])) K
    | none => False) := by
  unfold wantA
  simp only [opsA]
  cases o.guard with
  | none => exact Iff.rfl
  | some g =>
    obtain ⟨j, want⟩ := g
    dsimp only
    cases guardR ops σ j with
    | none => exact Iff.rfl
    | some b =>
      cases b with
      | none => simp
      | some b =>
        dsimp only [Option.map_some]
        rw [gK_iff]
        have : (some b == some want) = (b == want) := by cases b <;> cases want <;> rfl
        rw [this]
        cases b == want <;> simp
end

section
variable {c : Cx} {σ : S} {β : Nat → Value} {a : Act} {w : World}

theorem und_rel {β : Nat → Value} {st : Nat → Prop} {w : World} : RelR β st w undef (.tp []) := .tp (vs := []) rfl fun j v r hv => by simp at hv
theorem want_sound {ops : Array Oper} {o : Oper} (h : Sim c σ β a w) {b : Bool} (hw : wantA ops o σ = some b) : Region.wanted o (yielded ops a.tmps) = b := by
  unfold wantA at hw
  unfold Region.wanted
  split at hw
  · rename_i hg; cases hw; rw [hg]
  · rename_i j want hg
    rw [hg]
    obtain ⟨b', hb, rfl⟩ := Option.map_eq_some_iff.1 hw
    have key : yielded ops a.tmps j = b' := by
      unfold guardR at hb
      split at hb
      · rename_i b2 hb2
        cases hb
        obtain ⟨t, ht, hr⟩ := Option.map_eq_some_iff.1 hb2
        have hv := h.reg t
        rw [hr] at hv
        have hv := hv.inv_v
        have hsome : a.tmps[t]? = some (.bool b2) := by
          rw [Array.getD_eq_getD_getElem?] at hv
          cases he : a.tmps[t]? with
          | none => rw [he] at hv; simp [undef] at hv
          | some v => rw [he] at hv; simpa using hv
        simp only [yielded, ht, Option.bind_some, hsome]
      · rename_i hb2
        cases hb
        obtain ⟨t, ht, hr⟩ := Option.map_eq_some_iff.1 hb2
        have hv := h.reg t
        rw [hr] at hv
        generalize hvv : a.tmps.getD t undef = v at hv
        cases hv with
        | @tp vs _ hl _ =>
          obtain rfl : vs = [] := List.eq_nil_of_length_eq_zero hl
          rw [Array.getD_eq_getD_getElem?] at hvv
          simp only [yielded, ht, Option.bind_some]
          cases he : a.tmps[t]? with
          | none => rfl
          | some v => rw [he] at hvv; simp only [Option.getD_some] at hvv; rw [hvv]
      · cases hb
    simp only [key]
theorem inD_sound {o : Oper} {K : S → Prop} (h : Sim c σ β a w) (hd : ∀ d, o.dst = some d → d < c.N) (hq : inD c.P c.gl o σ K) : Run c.P o a w (AOut c a o K) := by
  unfold inD at hq
  split at hq
  · exact a_quiet h hd (opQ_sound h hq)
  · exact opA_sound h hd hq

theorem opsA_sound {ρ : Option Nat} {n : Nat} {ops : Array Oper} {Q : Exit → Act → World → Prop} {K : S → Prop} (hQ : ∀ σ β a w, Sim c σ β a w → K σ → Q .normal a w) :
    ∀ (l : List Oper) {σ : S} {β : Nat → Value} {a : Act} {w : World}, (∀ o ∈ l, ∀ d, o.dst = some d → d < c.N) → Sim c σ β a w → opsA c.P c.gl ops l σ K → wpListIn (WF ρ) n c.P ops Q l a w
  | [], σ, β, a, w, _, h, hk => hQ σ β a w h hk
  | o :: rest, σ, β, a, w, hd, h, hk => by
    rw [opsA_cons] at hk
    split at hk
    · rename_i hw
      simp only [wpListIn, want_sound h hw, if_true]
      refine opA_sound h (hd o (by simp)) hk ρ n _ Q ?_
      rintro v w' ⟨σ', β', hk', h'⟩
      exact opsA_sound hQ rest (fun o ho => hd o (by simp [ho])) h' hk'
    · rename_i hw
      simp only [wpListIn, want_sound h hw, Bool.false_eq_true, if_false]
      exact ⟨fun _ _ => trivial, opsA_sound hQ rest (fun o ho => hd o (by simp [ho])) (h.put (hd o (by simp)) und_rel) hk⟩
    · exact hk.elim

/-- Every order. -/
def anyA (P : Program) (gl : Nat → Option (List D)) (ops : Array Oper) (K : S → Prop) : Nat → Array Bool → S → Prop
  | 0, listed, σ => Region.ready .any ops listed = [] ∧ K σ
  | fuel + 1, listed, σ => (Region.ready .any ops listed = [] → K σ) ∧ ∀ i ∈ Region.ready .any ops listed, ∀ o, ops[i]? = some o → stD P gl ops o σ (anyA P gl ops K fuel (listed.setIfInBounds i true))
theorem anyA_sound {ρ : Option Nat} {n : Nat} {ops : Array Oper} {Q : Exit → Act → World → Prop} {K : S → Prop} (hQ : ∀ σ β a w, Sim c σ β a w → K σ → Q .normal a w) (hd : ∀ o ∈ ops.toList, ∀ d, o.dst = some d → d < c.N) :
    ∀ (fuel : Nat) (listed : Array Bool) {σ : S} {β : Nat → Value} {a : Act} {w : World}, Sim c σ β a w → anyA c.P c.gl ops K fuel listed σ → wpAnyIn (WF ρ) n c.P .any ops Q fuel listed a w
  | 0, listed, σ, β, a, w, h, hk => ⟨hk.1, hQ σ β a w h hk.2⟩
  | fuel + 1, listed, σ, β, a, w, h, hk => by
    refine ⟨fun hr => hQ σ β a w h (hk.1 hr), fun i hi => ?_⟩
    obtain ⟨_, o, ho, _⟩ := mem_ready.1 hi
    have hst := hk.2 i hi o ho
    have hdo := hd o (by rw [Array.mem_toList_iff]; exact Array.mem_of_getElem? ho)
    simp only [wpOpIn, ho]
    unfold stD at hst
    split at hst
    · rename_i hw
      rw [want_sound h hw, if_pos rfl]
      refine inD_sound h hdo hst ρ n _ Q ?_
      rintro v w' ⟨σ', β', hk', h'⟩
      exact anyA_sound hQ hd fuel _ h' hk'
    · rename_i hw
      rw [want_sound h hw, if_neg (by simp)]
      exact ⟨fun _ _ => trivial, anyA_sound hQ hd fuel _ (h.put hdo und_rel) hst⟩
    · exact hst.elim
end

/-! ### What a quiet operation tells hangs on its operands alone -/
section
variable {P : Program} {gl : Nat → Option (List D)} {ops : Array Oper} {o : Oper} {σ σ' : S}

theorem idxK_split {n : Int} {xs : List (List D)} {sz : Nat} {f : List D → R} {K : R → Prop} (h : idxK n xs sz fun c => K (f c)) : ∃ r, K r ∧ ∀ K' : R → Prop, K' r → idxK n xs sz fun c => K' (f c) := by
  obtain ⟨h0, h1⟩ := h
  split at h1
  · rename_i c hc
    exact ⟨f c, h1.2, fun K' hk => ⟨h0, by rw [hc]; exact ⟨h1.1, hk⟩⟩⟩
  · exact h1.elim
theorem sliceK_split {xs : List (List D)} {sz : Nat} {l h : Option Int} {m : Option (Option Int)} {K : R → Prop} (hk : sliceK xs sz l h m K) : ∃ r, K r ∧ ∀ K' : R → Prop, K' r → sliceK xs sz l h m K' := by
  unfold sliceK at hk
  split at hk
  · rename_i lo hi
    obtain ⟨h0, h1, h2, h3, hk⟩ := hk
    split at hk
    · exact ⟨_, hk, fun K' hk' => ⟨h0, h1, h2, h3, hk'⟩⟩
    · exact ⟨_, hk.2, fun K' hk' => ⟨h0, h1, h2, h3, hk.1, hk'⟩⟩
    · exact hk.elim
  · exact hk.elim
theorem opQ_split {K : R → Prop} (h : opQ P gl o σ K) : ∃ r, K r ∧ ∀ K' : R → Prop, K' r → opQ P gl o σ K' := by
  unfold opQ at h ⊢
  (repeat' split at h) <;> first
    | exact h.elim
    | exact ⟨_, h, fun K' hk => hk⟩
    | exact ⟨_, h, fun K' hk => by rw [if_pos ‹_›]; exact hk⟩
    | exact ⟨_, h, fun K' hk => by rw [if_neg ‹_›]; exact hk⟩
    | exact ⟨_, h.2, fun K' hk => ⟨h.1, hk⟩⟩
    | exact ⟨_, h.2.2, fun K' hk => ⟨h.1, h.2.1, hk⟩⟩
    | exact idxK_split (f := fun c => .a (.d (.pt c))) h
    | exact idxK_split (f := fun _ => _) h
    | (obtain ⟨h0, h⟩ := h
       obtain ⟨r, h1, h2⟩ := sliceK_split h
       exact ⟨r, h1, fun K' hk => ⟨h0, h2 K' hk⟩⟩)
    | (unfold callQ at h
       obtain ⟨as, res, h1, h2, h3, h4⟩ := h
       exact ⟨_, h4, fun K' hk => ⟨as, res, h1, h2, h3, hk⟩⟩)
    | exact h.2.elim
    | exact h.2.2.elim
theorem argsA_congr (hm : σ'.mem = σ.mem) (rs : List R) : argsA σ' rs = argsA σ rs := by
  induction rs with
  | nil => rfl
  | cons r rs ih =>
    have : argA σ' r = argA σ r := by cases r <;> simp [argA, hm]
    simp only [argsA, this, ih]
theorem bnd_congr {d : Int} {x : Option Operand} (h : ∀ y, x = some y → σ'.eval gl y = σ.eval gl y) : bnd σ' gl d x = bnd σ gl d x := by
  cases x with
  | none => rfl
  | some y => simp only [bnd, h y rfl]
theorem opQ_congr {K : R → Prop} (hm : σ'.mem = σ.mem) (he : ∀ x ∈ o.op.operands, σ'.eval gl x = σ.eval gl x) (h : opQ P gl o σ K) : opQ P gl o σ' K := by
  have hl : ∀ t p, loadR P σ' t p = loadR P σ t p := fun t p => by cases p <;> simp [loadR, hm]
  have hln : ∀ r, lenR σ' r = lenR σ r := fun r => by unfold lenR; rw [hm]
  unfold opQ at h ⊢
  cases ho : o.op <;> simp only [ho] at h he ⊢
  case move x => rw [he x (by simp [Op.operands])]; exact h
  case assign x => rw [he x (by simp [Op.operands])]; exact h
  case pick x y z => rw [he x (by simp [Op.operands]), he y (by simp [Op.operands]), he z (by simp [Op.operands])]; exact h
  case load t p => rw [he p (by simp [Op.operands]), hl]; exact h
  case fieldAddr t p f => rw [he p (by simp [Op.operands])]; exact h
  case indexAddr t x i => rw [he x (by simp [Op.operands]), he i (by simp [Op.operands]), hm]; exact h
  case nilCheck x => rw [he x (by simp [Op.operands])]; exact h
  case binOp op t x y ty => rw [he x (by simp [Op.operands]), he y (by simp [Op.operands])]; exact h
  case unOp op t x => rw [he x (by simp [Op.operands])]; exact h
  case convert s t x => rw [he x (by simp [Op.operands])]; exact h
  case lookup t x i ok =>
    have hmo : ∀ r, mapOf σ' r = mapOf σ r := fun r => by unfold mapOf; rw [hm]
    have hlo : ∀ x i, lookR P σ' t x i ok = lookR P σ t x i ok := fun x i => by unfold lookR; rw [hmo]
    rw [he x (by simp [Op.operands]), he i (by simp [Op.operands]), hlo]; exact h
  case extract x i => rw [he x (by simp [Op.operands])]; exact h
  case slice t x l hi m =>
    have e1 := bnd_congr (gl := gl) (σ := σ) (σ' := σ') (d := 0) (x := l) fun y hy => he y (by simp [Op.operands, hy])
    have e2 : ∀ d : Int, bnd σ' gl d hi = bnd σ gl d hi := fun d => bnd_congr fun y hy => he y (by simp [Op.operands, hy])
    have e3 : (m.map fun y => bnd σ' gl 0 (some y)) = m.map fun y => bnd σ gl 0 (some y) := by
      cases m with
      | none => rfl
      | some y => simp only [Option.map_some]; rw [bnd_congr fun z hz => by cases hz; exact he y (by simp [Op.operands])]
    rw [he x (by simp [Op.operands]), e1, e3]
    simp only [e2]
    exact h
  case call k =>
    have hargs : ∀ x ∈ k.args.toList, σ'.eval gl x = σ.eval gl x := fun x hx => he x (by simp only [Op.operands, Call.operands]; rw [Array.mem_append]; right; simpa using hx)
    cases hc : k.callee with
    | builtin b =>
      rw [hc] at h
      dsimp only at h ⊢
      generalize k.args.toList = as at hargs h ⊢
      generalize k.argTypes.toList = tys at h ⊢
      split at h
      · rename_i x t
        rw [hargs x (by simp), hln]; exact h
      · rename_i x y
        rw [hargs x (by simp), hargs y (by simp)]; exact h
      · rename_i x y
        rw [hargs x (by simp), hargs y (by simp)]; exact h
      · exact h.elim
    | value f =>
      rw [hc] at h
      dsimp only at h ⊢
      rw [he f (by simp [Op.operands, Call.operands, hc])]
      have e : k.args.toList.map (σ'.eval gl) = k.args.toList.map (σ.eval gl) := List.map_congr_left hargs
      rw [e]
      split at h
      · rename_i g caps hf
        obtain ⟨as, res, h1, h2, h3, h4⟩ := h
        exact ⟨as, res, by rw [argsA_congr hm]; exact h1, h2, h3, h4⟩
      · exact h.elim
    | invoke r m => rw [hc] at h; exact h.elim
  all_goals exact h.elim

/-! ### More may hold behind -/
section
variable {σ : S} {K K' : S → Prop}
theorem rowK_mono {K K' : S → List (Nat × A) → Prop} (hk : ∀ σ l, K σ l → K' σ l) : ∀ (ps : List (Nat × Operand)) {σ : S} {acc : List (Nat × A)}, rowK σ gl ps acc K → rowK σ gl ps acc K'
  | [], σ, acc, h => hk _ _ h
  | (i, x) :: ps, σ, acc, h => by
    simp only [rowK] at h ⊢
    split at h
    · exact ⟨h.1, rowK_mono hk ps h.2⟩
    · exact h
theorem rest_mono {K K' : S → List A → Prop} (hk : ∀ σ l, K σ l → K' σ l) : ∀ (rs : List R) {σ : S} {acc : List A}, σ.rest rs acc K → σ.rest rs acc K'
  | [], σ, acc, h => hk _ _ h
  | r :: rs, σ, acc, h => by
    simp only [S.rest] at h ⊢
    split at h
    · exact ⟨h.1, rest_mono hk rs h.2⟩
    · exact h
theorem ret_mono (hk : ∀ σ, K σ → K' σ) {dst : Option Tmp} {res : List Rv} (h : σ.ret dst res K) : σ.ret dst res K' := by
  unfold S.ret at h ⊢
  split at h
  · exact hk _ h
  · refine ⟨h.1, h.2.1, ?_⟩
    have := h.2.2
    split at this
    · exact hk _ this
    · exact hk _ this
theorem callK_mono (hk : ∀ σ, K σ → K' σ) {f : FuncId} {rs : List R} {dst : Option Tmp} (h : callK P gl f rs dst σ K) : callK P gl f rs dst σ K' := by
  rcases h with ⟨as, res, h1, h2, h3, h4⟩ | ⟨res, h⟩ | ⟨h0, h⟩
  · exact .inl ⟨as, res, h1, h2, h3, ret_mono hk h4⟩
  · exact .inr (.inl ⟨res, rest_mono (fun σ l hl => ⟨hl.1, ret_mono hk hl.2⟩) _ h⟩)
  · exact .inr (.inr ⟨h0, fun c β a w vs e1 e2 hs hv => (h c β a w vs e1 e2 hs hv).mono fun e w' ⟨us, rs', σ', β', h1, h2, h3, h4⟩ => ⟨us, rs', σ', β', h1, h2, h3, hk _ h4⟩⟩)
theorem appK_mono (hk : ∀ σ, K σ → K' σ) {t : TypeId} {x y : R} {dst : Option Tmp} (h : appK P σ t x y dst K) : appK P σ t x y dst K' := by
  unfold appK at h ⊢
  split at h
  · split at h
    · obtain ⟨h1, h2, h3, h4, h⟩ := h
      refine ⟨h1, h2, h3, h4, ?_⟩
      split at h
      · split at h
        · exact ⟨h.1, h.2.1, h.2.2.1, hk _ h.2.2.2⟩
        · exact h
      · exact ⟨h.1, h.2.1, h.2.2.1, hk _ h.2.2.2⟩
      · exact h
    · exact h
  · exact h
theorem opQ_mono {K K' : R → Prop} (hk : ∀ r, K r → K' r) (h : opQ P gl o σ K) : opQ P gl o σ K' := by
  obtain ⟨r, h1, h2⟩ := opQ_split h
  exact h2 K' (hk r h1)
theorem sliceK_mono {xs : List (List D)} {sz : Nat} {l h : Option Int} {m : Option (Option Int)} {K K' : R → Prop} (hk : ∀ r, K r → K' r) (hh : sliceK xs sz l h m K) : sliceK xs sz l h m K' := by
  obtain ⟨r, h1, h2⟩ := sliceK_split hh
  exact h2 K' (hk r h1)
theorem updK_mono {K K' : S → Prop} (hk : ∀ σ, K σ → K' σ) {t : TypeId} {m k v : Operand} (h : updK P gl σ t m k v K) : updK P gl σ t m k v K' := by
  unfold updK at h ⊢
  split at h
  · refine rest_mono (fun σ l hl => ?_) _ h
    split at hl
    · exact hk _ hl
    · exact hl
  · exact h
theorem SemOp.mono (hk : ∀ σ, K σ → K' σ) (h : SemOp P gl o σ K) : SemOp P gl o σ K' :=
  fun c β a w h1 h2 h3 h4 => (h c β a w h1 h2 h3 h4).mono fun v w' ⟨σ', β', h5, h6⟩ => ⟨σ', β', hk _ h5, h6⟩
theorem Inl_mono {f : FuncId} {rs : List R} {K K' : S → List R → Prop} (hk : ∀ σ l, K σ l → K' σ l) (h : Inl P gl f rs σ K) : Inl P gl f rs σ K' :=
  ⟨h.1, fun c β a w vs h1 h2 h3 h4 => (h.2 c β a w vs h1 h2 h3 h4).mono fun e w' ⟨us, rs', σ', β', e1, e2, e3, e4⟩ => ⟨us, rs', σ', β', e1, e2, e3, hk _ _ e4⟩⟩
theorem opA0_mono (hk : ∀ σ, K σ → K' σ) (h : opA0 P gl o σ K) : opA0 P gl o σ K' := by
  have q : opQ P gl o σ (fun r => K (σ.put o.dst r)) → opQ P gl o σ fun r => K' (σ.put o.dst r) := opQ_mono fun r => hk _
  unfold opA0 at h ⊢
  split at h
  · split at h
    · split at h
      · split at h
        · exact hk _ h
        · exact h
      · exact h
    · exact q h
  · split at h
    · exact hk _ h
    · exact h
  · split at h
    · exact ⟨h.1, hk _ h.2⟩
    · exact h
  · split at h
    · exact hk _ h
    · exact h
  · split at h
    · split at h
      · split at h
        · exact ⟨h.1, h.2.1, sliceK_mono (fun r => hk _) h.2.2⟩
        · exact h
      · exact h
    · exact q h
  · refine rowK_mono (fun σ l hl => ?_) _ h
    split at hl
    · refine ⟨hl.1, hl.2.1, ?_⟩
      have := hl.2.2
      split at this
      · exact hk _ this
      · exact this
    · exact hl
  · split at h
    · rw [if_pos ‹_›]
      refine ⟨h.1, ?_⟩
      have h := h.2
      split at h
      · split at h
        · exact hk _ h
        · exact h
      · exact h
    rw [if_neg ‹_›]
    refine rowK_mono (fun σ l hl => ?_) _ h
    split at hl
    · split at hl
      · refine ⟨hl.1, hl.2.1, hl.2.2.1, hl.2.2.2.1, hl.2.2.2.2.1, ?_⟩
        have := hl.2.2.2.2.2
        split at this
        · exact hk _ this
        · exact this
      · exact hl
    · exact hl
  · unfold rangeK at h ⊢
    split at h
    · exact hk _ h
    · exact h
  · unfold nextK at h ⊢
    split at h
    · split at h
      · exact ⟨fun i p a b => hk _ (h.1 i p a b), fun a => hk _ (h.2 a)⟩
      · exact h
    · exact h
  · unfold entryK at h ⊢
    split at h
    · split at h
      · split at h
        · exact hk _ h
        · exact h
      · exact h
    · exact h
  · split at h
    · exact hk _ h
    · exact h
  · exact updK_mono (fun σ hσ => hk _ hσ) h
  · exact updK_mono (fun σ hσ => hk _ hσ) h
  · split at h
    · refine rest_mono (fun σ l hl => ?_) _ h
      split at hl
      · exact hk _ hl
      · exact hl
    · exact h
  · split at h
    · split at h
      · exact ⟨h.1, appK_mono hk h.2⟩
      · exact h
    · split at h
      · exact callK_mono hk h
      · exact Inl_mono (fun σ l => hk _) h
      · exact SemOp.mono hk h
      · exact h
    · exact q h
  · exact q h
theorem opA_mono (hk : ∀ σ, K σ → K' σ) (h : opA P gl o σ K) : opA P gl o σ K' := by
  unfold opA at h ⊢
  split at h
  · exact SemOp.mono hk h
  · exact opA0_mono hk h
theorem inD_mono (hk : ∀ σ, K σ → K' σ) (h : inD P gl o σ K) : inD P gl o σ K' := by
  unfold inD at h ⊢
  split at h
  · exact opQ_mono (fun r => hk _) h
  · exact opA_mono hk h
theorem opsA_mono (hk : ∀ σ, K σ → K' σ) : ∀ (l : List Oper) {σ : S}, opsA P gl ops l σ K → opsA P gl ops l σ K'
  | [], σ, h => hk _ h
  | o :: l, σ, h => by
    rw [opsA_cons] at h ⊢
    split at h
    · exact opA_mono (fun σ => opsA_mono hk l) h
    · exact opsA_mono hk l h
    · exact h
theorem opsQ_mono (hk : ∀ σ, K σ → K' σ) : ∀ (l : List Oper) {σ : S}, opsQ P gl ops l σ K → opsQ P gl ops l σ K'
  | [], σ, h => hk _ h
  | o :: l, σ, h => by
    rw [opsQ_cons] at h ⊢
    unfold stD at h ⊢
    split at h
    · exact inD_mono (fun σ => opsQ_mono hk l) h
    · exact opsQ_mono hk l h
    · exact h
end

/-! ### A quiet operation may be taken first -/
theorem eval_put {x : Operand} {dst : Option Tmp} {r : R} (h : ∀ d, dst = some d → x ≠ .tmp d) : (σ.put dst r).eval gl x = σ.eval gl x := by
  cases dst with
  | none => rfl
  | some d =>
    cases x with
    | tmp t =>
      have : t ≠ d := fun e => h d rfl (by rw [e])
      simp [S.put, S.eval, upd, this]
    | const v => rfl
    | global g => rfl
    | func f => rfl
theorem mem_put {dst : Option Tmp} {r : R} : (σ.put dst r).mem = σ.mem := by cases dst <;> rfl
theorem put_comm {x y : Option Tmp} {r u : R} (h : ∀ d, x = some d → y ≠ some d) : (σ.put x r).put y u = (σ.put y u).put x r := by
  cases x with
  | none => rfl
  | some d =>
    cases y with
    | none => rfl
    | some e =>
      have hne : d ≠ e := fun h' => h d rfl (by rw [h'])
      simp only [S.put]
      congr 1
      funext t
      simp only [upd]
      by_cases h1 : t = d
      · subst h1; simp [hne]
      · simp [h1]
theorem looks_op {x : Operand} (hx : x ∈ o.op.operands) {dst : Option Tmp} (h : ∀ d, dst = some d → d ∉ o.looksAt ops) : ∀ d, dst = some d → x ≠ .tmp d := fun d hd e => by
  refine h d hd ?_
  simp only [Oper.looksAt, List.mem_append, List.mem_filterMap]
  exact .inl ⟨x, by simpa using hx, by rw [e]⟩
theorem guard_put {j : Nat} {want : Bool} (hg : o.guard = some (j, want)) {dst : Option Tmp} {r : R} (h : ∀ d, dst = some d → d ∉ o.looksAt ops) : guardR ops (σ.put dst r) j = guardR ops σ j := by
  unfold guardR
  cases dst with
  | none => rfl
  | some d =>
    cases hb : (ops[j]?).bind (·.dst) with
    | none => rfl
    | some t =>
      have : t ≠ d := fun e => h d rfl (by
        simp only [Oper.looksAt, hg, List.mem_append]
        exact .inr (by rw [hb, e]; simp))
      simp [S.put, upd, this]
theorem want_put {dst : Option Tmp} {r : R} (h : ∀ d, dst = some d → d ∉ o.looksAt ops) : wantA ops o (σ.put dst r) = wantA ops o σ := by
  unfold wantA
  cases hg : o.guard with
  | none => rfl
  | some g => obtain ⟨j, want⟩ := g; simp only [guard_put hg h]
theorem opQ_put {K : R → Prop} {dst : Option Tmp} {r : R} (h : ∀ d, dst = some d → d ∉ o.looksAt ops) : opQ P gl o (σ.put dst r) K ↔ opQ P gl o σ K :=
  ⟨opQ_congr mem_put.symm fun x hx => (eval_put (looks_op hx h)).symm, opQ_congr mem_put fun x hx => eval_put (looks_op hx h)⟩

/-- The operation tells r, whatever else has been told. -/
def Tells (P : Program) (gl : Nat → Option (List D)) (ops : Array Oper) (o : Oper) (r : R) (σ : S) : Prop :=
  (wantA ops o σ = some true ∧ ∀ K : R → Prop, K r → opQ P gl o σ K) ∨ (wantA ops o σ = some false ∧ r = .tp [])
theorem Tells.st {r : R} (hq : quietO o = true) (h : Tells P gl ops o r σ) {K : S → Prop} (hk : K (σ.put o.dst r)) : stD P gl ops o σ K := by
  unfold stD inD
  rcases h with ⟨h1, h2⟩ | ⟨h1, rfl⟩
  · rw [h1, hq]; exact h2 (fun r => K (σ.put o.dst r)) hk
  · rw [h1]; exact hk
theorem Tells.of_st (hq : quietO o = true) {K : S → Prop} (h : stD P gl ops o σ K) : ∃ r, Tells P gl ops o r σ ∧ K (σ.put o.dst r) := by
  unfold stD inD at h
  split at h
  · rename_i hw
    rw [hq] at h
    obtain ⟨r, h1, h2⟩ := opQ_split h
    exact ⟨r, .inl ⟨hw, h2⟩, h1⟩
  · rename_i hw; exact ⟨.tp [], .inr ⟨hw, rfl⟩, h⟩
  · exact h.elim
theorem Tells.put {r u : R} {dst : Option Tmp} (h : Tells P gl ops o r σ) (hd : ∀ d, dst = some d → d ∉ o.looksAt ops) : Tells P gl ops o r (σ.put dst u) := by
  rcases h with ⟨h1, h2⟩ | ⟨h1, rfl⟩
  · exact .inl ⟨by rw [want_put hd]; exact h1, fun K hk => (opQ_put hd).2 (h2 K hk)⟩
  · exact .inr ⟨by rw [want_put hd]; exact h1, rfl⟩
theorem st_put {oi oj : Oper} {r : R} (hqj : quietO oj = true) (hap : oi.apart ops oj = true) {K : S → Prop} (hy : Tells P gl ops oi r σ) (h : stD P gl ops oj (σ.put oi.dst r) K) :
    stD P gl ops oj σ fun σ' => Tells P gl ops oi r σ' ∧ K (σ'.put oi.dst r) := by
  obtain ⟨h1, h2, h3⟩ := Oper.apart_spec hap
  obtain ⟨u, hu, hk⟩ := Tells.of_st hqj h
  have hu' : Tells P gl ops oj u σ := by
    rcases hu with ⟨a1, a2⟩ | ⟨a1, rfl⟩
    · exact .inl ⟨by rw [← want_put (r := r) h1]; exact a1, fun K hk => (opQ_put h1).1 (a2 K hk)⟩
    · exact .inr ⟨by rw [← want_put (r := r) h1]; exact a1, rfl⟩
  exact hu'.st hqj ⟨hy.put h3, by rw [← put_comm h2]; exact hk⟩
theorem stD_mono {K K' : S → Prop} (hk : ∀ σ, K σ → K' σ) (hq : quietO o = true) (h : stD P gl ops o σ K) : stD P gl ops o σ K' := by
  obtain ⟨r, h1, h2⟩ := Tells.of_st hq h
  exact h1.st hq (hk _ h2)

theorem any_first {K : S → Prop} {dep : Nat → Bool} {i : Nat} {oi : Oper} {r : R} (hi : ops[i]? = some oi) (hqi : quietO oi = true) :
    ∀ (fuel : Nat) (listed : Array Bool) (σ : S),
      (∀ j, dep j = true → listed.getD j true = false ∧ ∃ oj, ops[j]? = some oj ∧ ∃ e ∈ oj.after, Region.binds .any e = true ∧ (e.on = i ∨ dep e.on = true)) →
      (∀ j oj, ops[j]? = some oj → j ≠ i → listed.getD j true = false → dep j = false → quietO oj = true ∧ oi.apart ops oj = true) →
      i ∈ Region.ready .any ops listed → Tells P gl ops oi r σ → anyA P gl ops K fuel (listed.setIfInBounds i true) (σ.put oi.dst r) → anyA P gl ops K (fuel + 1) listed σ := by
  intro fuel
  induction fuel with
  | zero =>
    intro listed σ hdep hfree hr hy H
    refine ⟨fun h => (by rw [h] at hr; cases hr), fun j hj oj hoj => ?_⟩
    by_cases hji : j = i
    · subst hji; rw [hi] at hoj; cases hoj; exact hy.st hqi H
    · have := ready_mono hj hji
      rw [H.1] at this
      cases this
  | succ fuel ih =>
    intro listed σ hdep hfree hr hy H
    refine ⟨fun h => (by rw [h] at hr; cases hr), fun j hj oj hoj => ?_⟩
    by_cases hji : j = i
    · subst hji; rw [hi] at hoj; cases hoj; exact hy.st hqi H
    · have h1 := H.2 j (ready_mono hj hji) oj hoj
      obtain ⟨hjun, oj', hoj', hall⟩ := mem_ready.1 hj
      rw [hoj] at hoj'; cases hoj'
      have key : ∀ m, listed.getD m true = false → listed.getD m false = true → False := fun m h0 h1 => by
        rcases Nat.lt_or_ge m listed.size with h' | h'
        · simp [h'] at h0 h1; rw [h0] at h1; cases h1
        · simp [Array.getElem?_eq_none h'] at h1
      have hnot : dep j = false := by
        cases hdj : dep j with
        | false => rfl
        | true =>
          obtain ⟨_, oj', ho', e, he, hb, hon⟩ := hdep j hdj
          rw [hoj] at ho'; cases ho'
          have h9 := hall e he hb
          rcases hon with hon | hon
          · rw [hon] at h9; exact (key _ (mem_ready.1 hr).1 h9).elim
          · exact (key _ (hdep _ hon).1 h9).elim
      obtain ⟨hqj, hap⟩ := hfree j oj hoj hji hjun hnot
      have h2 := st_put hqj hap hy h1
      have hfree' : ∀ k ok, ops[k]? = some ok → k ≠ i → (listed.setIfInBounds j true).getD k true = false →
          dep k = false → quietO ok = true ∧ oi.apart ops ok = true := fun k ok hk hki hun hno => by
        refine hfree k ok hk hki ?_ hno
        by_cases hjk : j = k
        · subst hjk; exact hjun
        · rw [getD_set_ne true hjk] at hun; exact hun
      have hdep' : ∀ k, dep k = true → (listed.setIfInBounds j true).getD k true = false ∧ ∃ oj, ops[k]? = some oj ∧ ∃ e ∈ oj.after, Region.binds .any e = true ∧ (e.on = i ∨ dep e.on = true) := fun k hk => by
        have hjk : j ≠ k := fun e => by rw [e, hk] at hnot; cases hnot
        exact ⟨by rw [getD_set_ne true hjk]; exact (hdep k hk).1, (hdep k hk).2⟩
      refine stD_mono (fun σ' h3 => ih (listed.setIfInBounds j true) σ' hdep' hfree' (ready_mono hr (Ne.symm hji)) h3.1 ?_) hqj h2
      rw [Array.setIfInBounds_comm _ _ hji]
      exact h3.2

theorem any_lex {K : S → Prop} : ∀ (l : List Oper) (k : Nat) (q : Bool) (listed : Array Bool) (σ : S), (∀ j, l[j]? = ops[k + j]?) → drawFrom ops l k q listed = true → opsQ P gl ops l σ K → anyA P gl ops K l.length listed σ
  | [], k, q, listed, σ, _, hB, h => ⟨by simpa [drawFrom] using hB, h⟩
  | o :: l, k, q, listed, σ, hl, hB, h => by
    have h0 : ops[k]? = some o := by simpa using (hl 0).symm
    have hl' : ∀ j, l[j]? = ops[k + 1 + j]? := fun j => by have := hl (j + 1); simpa [Nat.add_assoc, Nat.add_comm 1 j] using this
    rw [opsQ_cons] at h
    simp only [drawFrom, Bool.and_eq_true] at hB
    obtain ⟨⟨hr, hf⟩, hB'⟩ := hB
    split at hf
    · rename_i hqo
      obtain ⟨r, hy, hk⟩ := Tells.of_st hqo.2 h
      unfold freeQ at hf
      rw [h0] at hf
      generalize depA ops listed k = d at hf
      unfold freeW at hf
      simp only [Bool.and_eq_true, List.all_eq_true] at hf
      refine any_first (dep := fun j => d.getD j false) h0 hqo.2 l.length listed σ (fun j hdj => ?_) (fun j oj hoj hjk hun hno => ?_) (by simpa using hr) hy (any_lex l (k + 1) _ _ _ hl' hB' hk)
      · have hj : j < d.size := by
          rcases Nat.lt_or_ge j d.size with h | h
          · exact h
          · simp [Array.getElem?_eq_none h] at hdj
        have h3 := hf.2.1 j (List.mem_range.2 hj)
        unfold depOk at h3
        rw [hdj] at h3
        simp only [Bool.not_true, Bool.false_or] at h3
        split at h3
        · cases h3
        · rename_i oj hoj
          simp only [Bool.and_eq_true, Bool.not_eq_true', Array.any_eq_true', Bool.or_eq_true, beq_iff_eq] at h3
          obtain ⟨hu, e, he, hb, hon⟩ := h3
          exact ⟨hu, oj, hoj, e, he, hb, hon⟩
      have hj : j < ops.size := by
        rcases Nat.lt_or_ge j ops.size with h | h
        · exact h
        · rw [Array.getElem?_eq_none h] at hoj; cases hoj
      have := hf.2.2 j (List.mem_range.2 hj)
      rw [hoj] at this
      simp only [Bool.or_eq_true, Bool.and_eq_true, beq_iff_eq, List.any_eq_true, Array.any_eq_true'] at this
      rcases this with ((this | this) | this) | this
      · exact absurd this hjk
      · rw [hun] at this; cases this
      · rw [hno] at this; cases this
      · exact this
    · simp only [beq_iff_eq] at hf
      refine ⟨fun h => (by rw [hf] at h; cases h), fun i hi oi hoi => ?_⟩
      rw [hf, List.mem_singleton] at hi
      subst hi
      rw [h0] at hoi; cases hoi
      unfold stD at h ⊢
      split at h
      · unfold inD at h ⊢
        have := any_lex l (i + 1) (q && quietO o) (listed.setIfInBounds i true) (K := K)
        split at h
        · obtain ⟨r, h1, h2⟩ := opQ_split h
          exact h2 (fun r => anyA P gl ops K l.length (listed.setIfInBounds i true) (σ.put o.dst r)) (this _ hl' hB' h1)
        · exact opA_mono (fun σ' h' => this σ' hl' hB' h') h
      · exact any_lex l (i + 1) _ _ _ hl' hB' h
      · exact h
end
end Go.VC
