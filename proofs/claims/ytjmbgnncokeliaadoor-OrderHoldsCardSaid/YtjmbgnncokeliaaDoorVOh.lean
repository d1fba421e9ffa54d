/- Orders of tables: plain laws. -/
import Derived.Test.YtjmbgnncokeliaaDoorVOb
set_option maxRecDepth 100000
set_option linter.unusedSimpArgs false
set_option linter.unusedVariables false
namespace Go.VC
open Go.RowKit Go.Proofs Go.IntWalk
theorem fl_le {h : List Ev} {n : Int} : ∀ k, (flTo h n k).1 ≤ (flTo h n k).2
  | 0 => by simp [flTo]
  | k + 1 => by
    have a := fl_lt (h := h) (n := n) k
    have b := fl_le (h := h) (n := n) k
    simp only [flTo]
    split
    · split
      · dsimp only; split <;> omega
      · omega
    · omega
theorem step_len {ks : List Kp} {i : Int} {e : Ev} {j : Nat} (h : pos ks e.tx = some j) : (tabStep ks i e).length = ks.length := by
  unfold tabStep
  rw [h]
  dsimp only
  split <;> simp
theorem new_first {i : Int} {e : Ev} : (newKp i e).first = i := (takeK_ext _ i e).first
theorem tab_inc {h : List Ev} (hw : WFl h) : ∀ k, k ≤ h.length → ∀ (p q : Nat) (a b : Kp), p < q → (tabAt h k)[p]? = some a → (tabAt h k)[q]? = some b → a.first < b.first
  | 0, _, p, q, a, b, _, ha, _ => by simp [tabAt] at ha
  | k + 1, hk, p, q, a, b, hpq, ha, hb => by
    have hkl : k < h.length := by omega
    have hx : h[k]? = some h[k] := List.getElem?_eq_getElem hkl
    have ih := tab_inc hw k (by omega)
    have T := tabT hw k (by omega)
    have hext := tab_ext h k 1
    have old : ∀ (r : Nat) (c : Kp), r < (tabAt h k).length → (tabAt h (k + 1))[r]? = some c → ∃ c0, (tabAt h k)[r]? = some c0 ∧ c.first = c0.first := by
      intro r c hr hc
      obtain ⟨y, hy, e⟩ := hext r _ (List.getElem?_eq_getElem hr)
      rw [hc] at hy; cases hy
      exact ⟨_, List.getElem?_eq_getElem hr, e.first⟩
    by_cases hq : q < (tabAt h k).length
    · obtain ⟨a0, ha0, ea⟩ := old p a (by omega) ha
      obtain ⟨b0, hb0, eb⟩ := old q b hq hb
      rw [ea, eb]; exact ih p q a0 b0 hpq ha0 hb0
    · have hb' := hb
      simp only [tabAt, hx, tabStep] at hb
      split at hb
      · rename_i j hj
        exfalso
        have : (tabAt h (k + 1)).length = (tabAt h k).length := by
          simp only [tabAt, hx]; exact step_len hj
        have := (List.getElem?_eq_some_iff.1 hb').1
        omega
      · rw [List.getElem?_append_right (by omega)] at hb
        have hq0 : q - (tabAt h k).length = 0 := by
          rcases Nat.eq_zero_or_pos (q - (tabAt h k).length) with h | h
          · exact h
          · rw [List.getElem?_eq_none (by simp; omega)] at hb; cases hb
        rw [hq0] at hb
        simp only [List.getElem?_cons_zero, Option.some.injEq] at hb
        obtain ⟨a0, ha0, ea⟩ := old p a (by omega) ha
        have t := T.told _ (List.mem_of_getElem? ha0)
        have := (fl_lt (h := h) (n := a0.name) k).1
        rw [t.fl] at this
        rw [ea, ← hb, new_first]
        exact this
/-- What a table's transactions are to each other. -/
structure Lawful (l : List Txn) : Prop where
  fl : ∀ t ∈ l, t.first ≤ t.last
  inc : ∀ (p q : Nat) (a b : Txn), p < q → l[p]? = some a → l[q]? = some b → a.first < b.first
theorem txns_law {h : List Ev} (h0 : checkE h = 0) : Lawful (txns h) := by
  refine ⟨fun t ht => ?_, fun p q a b hpq ha hb => ?_⟩
  · obtain ⟨i, hi⟩ := List.getElem?_of_mem ht
    obtain ⟨kp, _, rfl, T⟩ := txns_at h0 hi
    have := fl_le (h := h) (n := kp.name) h.length
    rw [T.fl] at this; exact this
  · obtain ⟨ka, h1, rfl, _⟩ := txns_at h0 ha
    obtain ⟨kb, h2, rfl, _⟩ := txns_at h0 hb
    exact tab_inc (check_wfl h0) h.length (Nat.le_refl _) p q ka kb hpq h1 h2
theorem bef_iff {l : List Txn} {i k : Nat} (hi : i < l.length) (hk : k < l.length) : beforeB l i k = true ↔ 2 ≤ l[i].st ∧ l[i].last < l[k].first := by
  simp only [beforeB, List.getElem?_eq_getElem hi, List.getElem?_eq_getElem hk, Bool.and_eq_true, decide_eq_true_eq]
theorem bef_irr {l : List Txn} (L : Lawful l) {i : Nat} (hi : i < l.length) : beforeB l i i = false := by
  cases h : beforeB l i i with
  | false => rfl
  | true =>
    have h1 := (bef_iff hi hi).1 h
    have h2 := L.fl _ (List.getElem_mem hi)
    omega
theorem bef_trans {l : List Txn} (L : Lawful l) {i j k : Nat} (hi : i < l.length) (hj : j < l.length) (hk : k < l.length) (h1 : beforeB l i j = true) (h2 : beforeB l j k = true) : beforeB l i k = true := by
  rw [bef_iff hi hj] at h1
  rw [bef_iff hj hk] at h2
  rw [bef_iff hi hk]
  have h3 := L.fl _ (List.getElem_mem hj)
  omega
theorem bef_int {l : List Txn} (L : Lawful l) {i j k m : Nat} (hi : i < l.length) (hj : j < l.length) (hk : k < l.length) (hm : m < l.length) (h1 : beforeB l i j = true) (h2 : beforeB l k m = true) (h3 : beforeB l i m = false) : beforeB l k j = true := by
  rw [bef_iff hi hj] at h1
  rw [bef_iff hk hm] at h2
  rw [bef_iff hk hj]
  have h4 : ¬ (2 ≤ l[i].st ∧ l[i].last < l[m].first) := fun h => by rw [(bef_iff hi hm).2 h] at h3; cases h3
  omega
/-- The row of all places. -/
def allI (n : Nat) : List Int := (List.range n).map fun (i : Nat) => (i : Int)
theorem allI_len (n : Nat) : (allI n).length = n := by simp [allI]
theorem allI_s (n : Nat) : allI (n + 1) = allI n ++ [(n : Int)] := by simp [allI, List.range_succ]
theorem allI_in (n : Nat) : (allI n).all (inT n) = true := by
  simp only [allI, List.all_map, List.all_eq_true, List.mem_range, Function.comp]
  intro x hx
  rw [inT_nat]; exact decide_eq_true hx
theorem allI_keeps {l : List Txn} (L : Lawful l) : keepsFrom l (allI l.length) 0 = true := by
  simp only [keepsFrom, List.drop_zero, List.all_eq_true, List.mem_range, allI_len]
  intro i hi
  have hx : (allI l.length)[i]? = some (i : Int) := by rw [allI, List.getElem?_map, List.getElem?_range hi]; rfl
  simp only [okAt, hx, List.all_eq_true, Int.toNat_natCast]
  intro y hy
  rw [allI, ← List.map_take, List.take_range, List.mem_map] at hy
  obtain ⟨j, hj, rfl⟩ := hy
  have hj := List.mem_range.1 hj
  have hji : j < i := by omega
  have hjl : j < l.length := by omega
  have h1 : ((i : Int) == (j : Int)) = false := by simp; omega
  rw [h1, Bool.false_or, Int.toNat_natCast]
  cases h : beforeB l i j with
  | false => rfl
  | true =>
    have a := (bef_iff hi hjl).1 h
    have b := L.inc j i _ _ hji (List.getElem?_eq_getElem hjl) (List.getElem?_eq_getElem hi)
    have c := L.fl _ (List.getElem_mem hi)
    omega
theorem allI_kep {h : List Ev} (h0 : checkE h = 0) : kepE h (allI (txns h).length) = 0 ∧ kepV h (allI (txns h).length) = true := by
  have L := txns_law h0
  constructor
  · simp [kepE, h0, allI_in]
  · simp [kepV, h0, allI_in, allI_keeps L]
end Go.VC
