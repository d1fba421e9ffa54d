/- Plain laws of values' writers. -/
import Derived.Test.YtjmbgnncokeliaaDoorVTm
import Derived.Test.YtjmbgnncokeliaaDoorVTn
set_option linter.unusedSimpArgs false
set_option linter.unusedVariables false
namespace Go.VC
open Go.RowKit Go.Proofs Go.IntWalk
/-! ### Who wrote what -/
/-- A transaction of a table writes a value of a variable. -/
def Wr (rs : List Kp) (i : Nat) (p : Int × Int) : Prop := ∃ r o, rs[i]? = some r ∧ o ∈ r.ops ∧ o.w = true ∧ (o.var, o.val) = p
def KvIs (kv : PKv) (W : Nat → Int × Int → Prop) : Prop := ∀ p v, pGet kv p = some v ↔ ∃ j : Nat, v = (j : Int) ∧ W j p
def OkW (W : Nat → Int × Int → Prop) : Prop := ∀ j p, W j p → p.2 ≠ 0
def BadW (W : Nat → Int × Int → Prop) : Prop := (∃ j p, W j p ∧ p.2 = 0) ∨ ∃ j j' p, W j p ∧ W j' p ∧ j ≠ j'
theorem pGet_set (q p : Int × Int) (x : Int) : ∀ kv : PKv, pGet (pSet kv p x) q = if q = p then some x else pGet kv q
  | [] => by simp only [pSet, pGet]; split <;> split <;> simp_all
  | (k, y) :: kv => by
    simp only [pSet]
    split
    · rename_i hk; subst hk
      simp only [pGet]
      split <;> split <;> simp_all
    · simp only [pGet, pGet_set q p x kv]
      split <;> split <;> simp_all
theorem wrOp_ok {i : Nat} {kv : PKv} {o : Op} {W : Nat → Int × Int → Prop} (hk : KvIs kv W) (hz : OkW W) :
    (∀ kv', wrOp i kv o = some kv' → KvIs kv' (fun j p => W j p ∨ (j = i ∧ o.w = true ∧ (o.var, o.val) = p)) ∧ OkW (fun j p => W j p ∨ (j = i ∧ o.w = true ∧ (o.var, o.val) = p))) ∧
    (wrOp i kv o = none → BadW (fun j p => W j p ∨ (j = i ∧ o.w = true ∧ (o.var, o.val) = p))) := by
  unfold wrOp
  by_cases hw : o.w = false
  · rw [if_pos hw]
    have e : (fun j p => W j p ∨ (j = i ∧ o.w = true ∧ (o.var, o.val) = p)) = W := by funext j p; simp [hw]
    rw [e]
    exact ⟨fun kv' h => by cases h; exact ⟨hk, hz⟩, fun h => by cases h⟩
  · have hw' : o.w = true := by simpa using hw
    rw [if_neg hw]
    by_cases hc : (∃ v, pGet kv (o.var, o.val) = some v ∧ v ≠ i) ∨ o.val = 0
    · rw [if_pos hc]
      refine ⟨fun kv' h => (by cases h), fun _ => ?_⟩
      rcases hc with ⟨v, hv, hne⟩ | h0
      · obtain ⟨j, rfl, hj⟩ := (hk _ _).1 hv
        exact .inr ⟨j, i, _, .inl hj, .inr ⟨rfl, hw', rfl⟩, fun e => hne (by rw [e])⟩
      · exact .inl ⟨i, _, .inr ⟨rfl, hw', rfl⟩, h0⟩
    · rw [if_neg hc]
      refine ⟨fun kv' h => ?_, fun h => by cases h⟩
      cases h
      have h1 : ∀ v, pGet kv (o.var, o.val) = some v → v = i := fun v hv => Classical.byContradiction fun hn => hc (.inl ⟨v, hv, hn⟩)
      refine ⟨fun p v => ?_, fun j p hp => ?_⟩
      · rw [pGet_set]
        split
        · rename_i e; subst e
          constructor
          · intro h; cases h; exact ⟨i, rfl, .inr ⟨rfl, hw', rfl⟩⟩
          · rintro ⟨j, rfl, hj | ⟨rfl, _, _⟩⟩
            · rw [h1 j ((hk _ _).2 ⟨j, rfl, hj⟩)]
            · rfl
        · rename_i e
          rw [hk]
          constructor
          · rintro ⟨j, rfl, hj⟩; exact ⟨j, rfl, .inl hj⟩
          · rintro ⟨j, rfl, hj | ⟨rfl, _, e2⟩⟩
            · exact ⟨j, rfl, hj⟩
            · exact absurd e2.symm e
      · rcases hp with hp | ⟨_, _, rfl⟩
        · exact hz j p hp
        · exact fun h0 => hc (.inr h0)
theorem BadW.mono {W W' : Nat → Int × Int → Prop} (h : BadW W) (k : ∀ j p, W j p → W' j p) : BadW W' := by
  rcases h with ⟨j, p, h1, h2⟩ | ⟨j, j', p, h1, h2, h3⟩
  · exact .inl ⟨j, p, k _ _ h1, h2⟩
  · exact .inr ⟨j, j', p, k _ _ h1, k _ _ h2, h3⟩
theorem wrOps_ok {i : Nat} : ∀ (ops : List Op) {kv : PKv} {W : Nat → Int × Int → Prop} (hk : KvIs kv W) (hz : OkW W),
    (∀ kv', wrOps i ops kv = some kv' → KvIs kv' (fun j p => W j p ∨ (j = i ∧ ∃ o ∈ ops, o.w = true ∧ (o.var, o.val) = p)) ∧ OkW (fun j p => W j p ∨ (j = i ∧ ∃ o ∈ ops, o.w = true ∧ (o.var, o.val) = p))) ∧
    (wrOps i ops kv = none → BadW (fun j p => W j p ∨ (j = i ∧ ∃ o ∈ ops, o.w = true ∧ (o.var, o.val) = p)))
  | [], kv, W, hk, hz => by
    have e : (fun j p => W j p ∨ (j = i ∧ ∃ o ∈ ([] : List Op), o.w = true ∧ (o.var, o.val) = p)) = W := by funext j p; simp
    rw [e]
    exact ⟨fun kv' h => by cases h; exact ⟨hk, hz⟩, fun h => by cases h⟩
  | o :: os, kv, W, hk, hz => by
    have e : (fun j p => W j p ∨ (j = i ∧ ∃ o' ∈ o :: os, o'.w = true ∧ (o'.var, o'.val) = p)) = fun j p => (W j p ∨ (j = i ∧ o.w = true ∧ (o.var, o.val) = p)) ∨ (j = i ∧ ∃ o' ∈ os, o'.w = true ∧ (o'.var, o'.val) = p) := by
      funext j p
      simp only [List.mem_cons, exists_eq_or_imp, eq_iff_iff]
      constructor
      · rintro (h | ⟨h1, h2 | h2⟩)
        · exact .inl (.inl h)
        · exact .inl (.inr ⟨h1, h2⟩)
        · exact .inr ⟨h1, h2⟩
      · rintro ((h | ⟨h1, h2⟩) | ⟨h1, h2⟩)
        · exact .inl h
        · exact .inr ⟨h1, .inl h2⟩
        · exact .inr ⟨h1, .inr h2⟩
    rw [e]
    obtain ⟨h1, h2⟩ := wrOp_ok (i := i) (o := o) hk hz
    simp only [wrOps]
    cases hw : wrOp i kv o with
    | none => exact ⟨fun kv' h => (by cases h), fun _ => (h2 hw).mono fun j p h => .inl h⟩
    | some kv1 =>
      obtain ⟨k1, z1⟩ := h1 kv1 hw
      exact wrOps_ok os k1 z1
theorem wrAll_ok : ∀ (rs : List Kp) (i : Nat) {kv : PKv} {W : Nat → Int × Int → Prop} (hk : KvIs kv W) (hz : OkW W),
    (∀ kv', wrAll rs i kv = some kv' → KvIs kv' (fun j p => W j p ∨ ∃ m, j = i + m ∧ Wr rs m p) ∧ OkW (fun j p => W j p ∨ ∃ m, j = i + m ∧ Wr rs m p)) ∧
    (wrAll rs i kv = none → BadW (fun j p => W j p ∨ ∃ m, j = i + m ∧ Wr rs m p))
  | [], i, kv, W, hk, hz => by
    have e : (fun j p => W j p ∨ ∃ m, j = i + m ∧ Wr [] m p) = W := by funext j p; simp [Wr]
    rw [e]
    exact ⟨fun kv' h => by cases h; exact ⟨hk, hz⟩, fun h => by cases h⟩
  | r :: rs, i, kv, W, hk, hz => by
    have e : (fun j p => W j p ∨ ∃ m, j = i + m ∧ Wr (r :: rs) m p) = fun j p => (W j p ∨ (j = i ∧ ∃ o ∈ r.ops, o.w = true ∧ (o.var, o.val) = p)) ∨ ∃ m, j = i + 1 + m ∧ Wr rs m p := by
      funext j p
      simp only [eq_iff_iff]
      constructor
      · rintro (h | ⟨m, hm, r', o, h1, h2⟩)
        · exact .inl (.inl h)
        · cases m with
          | zero => simp at h1; subst h1; exact .inl (.inr ⟨hm, o, h2⟩)
          | succ m => exact .inr ⟨m, by omega, r', o, by simpa using h1, h2⟩
      · rintro ((h | ⟨h1, o, h2⟩) | ⟨m, hm, r', o, h1, h2⟩)
        · exact .inl h
        · exact .inr ⟨0, h1, r, o, rfl, h2⟩
        · exact .inr ⟨m + 1, by omega, r', o, by simpa using h1, h2⟩
    rw [e]
    obtain ⟨h1, h2⟩ := wrOps_ok (i := i) r.ops hk hz
    simp only [wrAll]
    cases hw : wrOps i r.ops kv with
    | none => exact ⟨fun kv' h => (by cases h), fun _ => (h2 hw).mono fun j p h => .inl h⟩
    | some kv1 =>
      obtain ⟨k1, z1⟩ := h1 kv1 hw
      have := wrAll_ok rs (i + 1) k1 z1
      simpa using this
/-- Values are unique. -/
def UniqL (rs : List Kp) : Prop := ∀ i p, Wr rs i p → p.2 ≠ 0 ∧ ∀ j, Wr rs j p → j = i
theorem wr_zero (rs : List Kp) : (fun (j : Nat) p => False ∨ ∃ m, j = 0 + m ∧ Wr rs m p) = Wr rs := by
  funext j p
  simp only [false_or, Nat.zero_add, eq_iff_iff]
  exact ⟨fun ⟨m, e, h⟩ => e ▸ h, fun h => ⟨j, rfl, h⟩⟩
theorem wr_some {rs : List Kp} {kv : PKv} (h : wrAll rs 0 [] = some kv) : UniqL rs ∧ ∀ p v, pGet kv p = some v ↔ ∃ j : Nat, v = (j : Int) ∧ Wr rs j p := by
  have := (wrAll_ok rs 0 (kv := []) (W := fun _ _ => False) (fun p v => by simp [pGet]) (fun _ _ h => h.elim)).1 kv h
  rw [wr_zero] at this
  obtain ⟨h1, h2⟩ := this
  refine ⟨fun i p hi => ⟨h2 i p hi, fun j hj => ?_⟩, h1⟩
  have a := (h1 p i).2 ⟨i, rfl, hi⟩
  have b := (h1 p j).2 ⟨j, rfl, hj⟩
  rw [a] at b
  have := Option.some.inj b
  omega
theorem wr_none {rs : List Kp} (h : wrAll rs 0 [] = none) : ¬ UniqL rs := by
  have := (wrAll_ok rs 0 (kv := []) (W := fun _ _ => False) (fun p v => by simp [pGet]) (fun _ _ h => h.elim)).2 h
  rw [wr_zero] at this
  intro hu
  rcases this with ⟨j, p, h1, h2⟩ | ⟨j, j', p, h1, h2, h3⟩
  · exact (hu j p h1).1 h2
  · exact h3 ((hu j' p h2).2 j h1)
/-! ### Whose value it is -/
def ownsR (ops : List Op) (v : Int) : Bool := ops.any fun o => o.w && o.var == v
theorem srcRow_at {kv : PKv} {t : Int} : ∀ (ops : List Op) (own : List (Int × Bool)) (f : Int → Bool) (i : Nat), (∀ v, (assoc own v).getD false = f v) →
    (srcRow kv t ops own)[i]? = (ops[i]?).map fun o => if f o.var || ownsR (ops.take i) o.var || o.w then t else srcOf kv t o
  | [], own, f, i, hf => by simp [srcRow]
  | o :: os, own, f, 0, hf => by simp [srcRow, hf, ownsR]
  | o :: os, own, f, i + 1, hf => by
    have := srcRow_at (kv := kv) (t := t) os (assocSet own o.var ((assoc own o.var).getD false || o.w)) (fun v => f v || (o.w && o.var == v)) i (fun v => by
      by_cases hv : v = o.var
      · subst hv; rw [assoc_self, hf]; simp
      · have hb : (o.var == v) = false := by simpa using fun h => hv h.symm
        rw [hb, Bool.and_false, Bool.or_false, ← hf]
        congr 1
        generalize ((assoc own o.var).getD false || o.w) = b
        clear hf
        induction own with
        | nil => simp [assocSet, assoc]; intro h; exact absurd h.symm hv
        | cons q own ih =>
          obtain ⟨k, x⟩ := q
          simp only [assocSet]
          split
          · rename_i hk; subst hk
            simp only [assoc]; rw [if_neg fun h => hv h.symm, if_neg fun h => hv h.symm]
          · simp only [assoc, ih])
    simp only [srcRow, List.getElem?_cons_succ, this]
    congr 1; funext o'
    simp only [List.take_succ_cons, ownsR, List.any_cons]
    cases f o'.var <;> simp
theorem srcRow_len {kv : PKv} {t : Int} : ∀ (ops : List Op) (own : List (Int × Bool)), (srcRow kv t ops own).length = ops.length
  | [], own => rfl
  | o :: os, own => by simp [srcRow, srcRow_len os]
theorem srcRow_get {kv : PKv} {t : Int} (ops : List Op) (i : Nat) : (srcRow kv t ops [])[i]? = (ops[i]?).map fun o => if ownsR (ops.take i) o.var || o.w then t else srcOf kv t o := by
  rw [srcRow_at ops [] (fun _ => false) i (fun v => rfl)]
  simp
theorem srcRows_get {kv : PKv} : ∀ (rs : List Kp) (i t : Nat), (srcRows kv rs i)[t]? = (rs[t]?).map fun r => srcRow kv ((i + t : Nat) : Int) r.ops []
  | [], i, t => by simp [srcRows]
  | r :: rs, i, 0 => by simp [srcRows]
  | r :: rs, i, t + 1 => by
    have := srcRows_get (kv := kv) rs (i + 1) t
    simp only [srcRows, List.getElem?_cons_succ]
    rw [show ((i : Int) + 1) = ((i + 1 : Nat) : Int) by omega, this, show i + 1 + t = i + (t + 1) by omega]
theorem srcRows_len {kv : PKv} : ∀ (rs : List Kp) (i : Int), (srcRows kv rs i).length = rs.length
  | [], i => rfl
  | r :: rs, i => by simp [srcRows, srcRows_len rs]
theorem sources_ok {h : List Ev} (h0 : sourcesE h = 0) : checkE h = 0 ∧ ∃ kv, wrAll (tabOf h) 0 [] = some kv ∧ sourcesR h = srcRows kv (tabOf h) 0 := by
  unfold sourcesE at h0
  by_cases hc : checkE h = 0
  · rw [if_pos hc] at h0
    refine ⟨hc, ?_⟩
    unfold sourcesR tabOf
    rw [if_pos hc]
    cases hw : wrAll (tabAt h h.length) 0 [] with
    | none => rw [hw] at h0; simp at h0
    | some kv => exact ⟨kv, rfl, rfl⟩
  · rw [if_neg hc] at h0; exact absurd h0 hc
theorem sources_bad {h : List Ev} (h0 : ¬ sourcesE h = 0) : sourcesR h = [] := by
  unfold sourcesE at h0
  unfold sourcesR
  by_cases hc : checkE h = 0
  · rw [if_pos hc] at h0 ⊢
    cases hw : wrAll (tabAt h h.length) 0 [] with
    | none => rfl
    | some kv => rw [hw] at h0; exact absurd rfl h0
  · rw [if_neg hc]
/-- Sources of a prefix. -/
theorem grows_law {h : List Ev} (h0 : sourcesE h = 0) {k : Nat} (hk : k ≤ h.length) :
    sourcesE (h.take k) = 0 ∧ (sourcesR (h.take k)).length ≤ (sourcesR h).length ∧ ∀ (t : Nat) row, (sourcesR (h.take k))[t]? = some row → ∃ row2, (sourcesR h)[t]? = some row2 ∧ row.length ≤ row2.length ∧
      ∀ (i : Nat) from', row[i]? = some from' → ∃ y, row2[i]? = some y ∧ (from' = y ∨ (from' = -2 ∧ 0 ≤ y ∧ y ≠ t)) := by
  obtain ⟨hc, kv, hw, hR⟩ := sources_ok h0
  obtain ⟨hu, hkv⟩ := wr_some hw
  have hext : TExt (tabOf (h.take k)) (tabOf h) := by
    rw [tabOf_take hk]
    have := tab_ext h k (h.length - k)
    rwa [show k + (h.length - k) = h.length by omega] at this
  have hwr : ∀ i p, Wr (tabOf (h.take k)) i p → Wr (tabOf h) i p := fun i p ⟨r, o, h1, h2, h3⟩ => by
    obtain ⟨r2, g1, _, _, g4⟩ := hext i r h1
    exact ⟨r2, o, g1, g4.subset h2, h3⟩
  have hc' := check_take hc hk
  have hu' : UniqL (tabOf (h.take k)) := fun i p hi => ⟨(hu i p (hwr i p hi)).1, fun j hj => (hu i p (hwr i p hi)).2 j (hwr j p hj)⟩
  obtain ⟨kv', hw'⟩ : ∃ kv', wrAll (tabOf (h.take k)) 0 [] = some kv' := by
    cases hw' : wrAll (tabOf (h.take k)) 0 [] with
    | some kv' => exact ⟨kv', rfl⟩
    | none => exact absurd hu' (wr_none hw')
  have hkv' := (wr_some hw').2
  have h0' : sourcesE (h.take k) = 0 := by
    unfold sourcesE
    rw [if_pos hc', show tabAt (h.take k) (h.take k).length = tabOf (h.take k) from rfl, hw']; rfl
  have hR' : sourcesR (h.take k) = srcRows kv' (tabOf (h.take k)) 0 := by
    unfold sourcesR
    rw [if_pos hc', show tabAt (h.take k) (h.take k).length = tabOf (h.take k) from rfl, hw']
  refine ⟨h0', ?_, fun t row hrow => ?_⟩
  · rw [hR, hR', srcRows_len, srcRows_len]; exact hext.len
  · have g1 := srcRows_get (kv := kv') (tabOf (h.take k)) 0 t
    have g2 := srcRows_get (kv := kv) (tabOf h) 0 t
    simp only [Nat.zero_add] at g1 g2
    rw [hR'] at hrow
    rw [show (srcRows kv' (tabOf (h.take k)) 0)[t]? = _ from g1] at hrow
    obtain ⟨r, hr, rfl⟩ := Option.map_eq_some_iff.1 hrow
    obtain ⟨r2, hr2, _, _, hops⟩ := hext t r hr
    refine ⟨srcRow kv t r2.ops [], by rw [hR]; exact Eq.trans g2 (by rw [hr2]; rfl), ?_, fun i from' hfrom => ?_⟩
    · rw [srcRow_len, srcRow_len]; exact hops.length_le
    · rw [srcRow_get] at hfrom
      obtain ⟨o, ho, rfl⟩ := Option.map_eq_some_iff.1 hfrom
      have hil := (List.getElem?_eq_some_iff.1 ho).1
      obtain ⟨s, hs⟩ := hops
      have ho2 : r2.ops[i]? = some o := by rw [← hs, List.getElem?_append_left hil]; exact ho
      have ht2 : r2.ops.take i = r.ops.take i := by rw [← hs, List.take_append_of_le_length (by omega)]
      refine ⟨if ownsR (r2.ops.take i) o.var || o.w then (t : Int) else srcOf kv t o, by rw [srcRow_get, ho2]; rfl, ?_⟩
      rw [ht2]
      by_cases hcn : (ownsR (r.ops.take i) o.var || o.w) = true
      · left; rw [if_pos hcn, if_pos hcn]
      · simp only [if_neg hcn]
        unfold srcOf
        by_cases hv0 : o.val = 0
        · left; rw [if_pos hv0, if_pos hv0]
        · simp only [if_neg hv0]
          cases hp' : pGet kv' (o.var, o.val) with
          | some v =>
            obtain ⟨j, rfl, hj⟩ := (hkv' _ _).1 hp'
            rw [(hkv _ _).2 ⟨j, rfl, hwr j _ hj⟩]
            exact .inl rfl
          | none =>
            cases hp : pGet kv (o.var, o.val) with
            | none => exact .inl rfl
            | some v =>
              obtain ⟨j, rfl, hj⟩ := (hkv _ _).1 hp
              by_cases hjt : (j : Int) = t
              · exact .inl (by simp [hjt])
              · exact .inr ⟨rfl, by simp [hjt], by simp [hjt]⟩
end Go.VC
