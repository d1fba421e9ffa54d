/- The law ProperGoes: its function. -/
import Derived.Test.YtjmbgnncokeliaaDoorVD
import Derived.Test.YtjmbgnncokeliaaDoorVCg
set_option maxRecDepth 100000
set_option linter.unusedSimpArgs false
set_option linter.unusedVariables false
namespace Go.VC
open Go.RowKit Go.Proofs Go.IntWalk
/-! ### The plain law -/
theorem name_grow (e : Ev) (acc : List Int) : acc.length ≤ (nameStep acc e).length := by
  unfold nameStep; split <;> simp
theorem names_grow : ∀ (h : List Ev) (acc : List Int), acc.length ≤ (h.foldl nameStep acc).length
  | [], acc => Nat.le_refl _
  | e :: h, acc => Nat.le_trans (name_grow e acc) (names_grow h _)
theorem names_app (h s : List Ev) : (namesE h).length ≤ (namesE (h ++ s)).length := by
  unfold namesE; rw [List.foldl_append]; exact names_grow s _
theorem right_app {h s : List Ev} (hr : rightH (h ++ s) = true) : rightH h = true := by
  have hn := names_app h s
  simp only [rightH, Bool.and_eq_true, decide_eq_true_eq, List.all_append, List.length_append] at hr ⊢
  exact ⟨⟨by omega, hr.1.2.1⟩, by omega⟩
theorem run_app : ∀ (h s : List Ev) (now : List (Int × Int)), (runF h now).1 < h.length → (runF (h ++ s) now).1 = (runF h now).1
  | [], s, now, hl => by simp at hl
  | e :: h, s, now, hl => by
    simp only [List.cons_append, runF] at hl ⊢
    split
    · rename_i hn
      rw [if_pos hn] at hl
      simp only [] at hl ⊢
      rw [run_app h s _ (by simpa using hl)]
    · rfl
theorem run_app2 : ∀ (h s : List Ev) (now : List (Int × Int)), (runF h now).1 = h.length → (runF (h ++ s) now).1 = h.length + (runF s (runF h now).2).1
  | [], s, now, _ => by simp [runF]
  | e :: h, s, now, hl => by
    simp only [List.cons_append, runF, List.length_cons] at hl ⊢
    split
    · rename_i hn
      rw [if_pos hn] at hl
      simp only [] at hl ⊢
      rw [run_app2 h s _ (by omega)]; omega
    · rename_i hn
      rw [if_neg hn] at hl; simp at hl
theorem run_take (h : List Ev) (k : Nat) (hk : k ≤ h.length) : (runF (h.take k) []).1 = min k (runF h []).1 := by
  have hl : (h.take k).length = k := by simp [hk]
  have hle := runF_le (h.take k) []
  have hsplit : h = h.take k ++ h.drop k := (List.take_append_drop k h).symm
  rcases Nat.lt_or_ge (runF (h.take k) []).1 k with hlt | hge
  · have := run_app (h.take k) (h.drop k) [] (by omega)
    rw [List.take_append_drop] at this; omega
  · have := run_app2 (h.take k) (h.drop k) [] (by omega)
    rw [List.take_append_drop] at this; omega
theorem check_arg {h : List Ev} : checkE h = 1 ↔ rightH h = false := by
  cases hr : rightH h with
  | false => simp [checkE, hr]
  | true =>
    simp only [checkE, hr, if_true]
    constructor
    · intro h1; split at h1 <;> simp at h1
    · intro h1; cases h1
theorem check_form {h : List Ev} (hr : rightH h = true) : (checkE h = 6 ↔ (runF h []).1 < h.length) ∧ (checkE h = 0 ↔ (runF h []).1 = h.length) ∧ checkI h = ((runF h []).1 : Int) := by
  have hle := runF_le h []
  simp only [checkE, checkI, hr, if_true]
  refine ⟨?_, ?_, trivial⟩
  · constructor
    · intro h1; by_cases hc : (runF h []).1 < h.length
      · exact hc
      · simp [hc] at h1
    · intro h1; simp [h1]
  · constructor
    · intro h1; by_cases hc : (runF h []).1 < h.length
      · simp [hc] at h1
      · omega
    · intro h1; simp [h1]
theorem goes_take {h : List Ev} {k : Nat} (hk : k ≤ h.length) (hb : ¬ checkE h = 1) : (checkE (h.take k) = 0 ↔ k ≤ (runF h []).1) ∧ (checkE (h.take k) = 6 ↔ (runF h []).1 < k) ∧ checkI (h.take k) = ((min k (runF h []).1 : Nat) : Int) := by
  have hr : rightH h = true := by
    cases hr : rightH h with
    | true => rfl
    | false => exact absurd (check_arg.2 hr) hb
  have hrk : rightH (h.take k) = true := right_app (s := h.drop k) (by rw [List.take_append_drop]; exact hr)
  obtain ⟨h1, h2, h3⟩ := check_form hrk
  have hl : (h.take k).length = k := by simp [hk]
  have ht := run_take h k hk
  rw [h1, h2, h3, hl, ht]
  refine ⟨?_, ?_, rfl⟩ <;> omega
theorem keys_assoc : ∀ (m : List (Int × Int)) (k : Int), (keysOf m).any (fun y => k == y) = (assoc m k).isSome
  | [], k => rfl
  | (a, b) :: m, k => by
    have ih := keys_assoc m k
    simp only [keysOf, List.map_cons, List.any_cons, assoc] at ih ⊢
    by_cases h : a = k
    · subst h; simp
    · have h' : ¬ k = a := fun e => h e.symm
      simp [h, beq_eq_false_iff_ne.2 h', ih]
theorem any_sorted (l : List Int) (p : Int → Bool) : (sorted l).any p = l.any p := by
  rw [Bool.eq_iff_iff, List.any_eq_true, List.any_eq_true]
  simp only [sorted, List.mem_mergeSort]
theorem goes_next {h : List Ev} (h0 : checkE h = 0) (e : Ev) (hm : ¬ checkE (h ++ [e]) = 1) : (checkE (h ++ [e]) = 0 ↔ (nextV h e.tx).any (fun y => e.kind == y) = true) ∧ (¬ checkE (h ++ [e]) = 0 → checkI (h ++ [e]) = (h.length : Int)) := by
  have hr : rightH h = true := by
    cases hr : rightH h with
    | true => rfl
    | false => rw [check_arg.2 hr] at h0; cases h0
  have hrm : rightH (h ++ [e]) = true := by
    cases hrm : rightH (h ++ [e]) with
    | true => rfl
    | false => exact absurd (check_arg.2 hrm) hm
  have hl := (check_form hr).2.1.1 h0
  obtain ⟨_, h2, h3⟩ := check_form hrm
  have ha := run_app2 h [e] [] hl
  have hn : (nextV h e.tx).any (fun y => e.kind == y) = (nextS (runF h []).2 e).isSome := by
    unfold nextV
    rw [if_pos ⟨hr, hl⟩, any_sorted, keys_assoc]; rfl
  rw [h2, h3, hn, ha, List.length_append, List.length_cons, List.length_nil]
  simp only [runF]
  cases hs : (nextS (runF h []).2 e).isSome <;> simp
theorem goes_form {h : List Ev} (h6 : checkE h = 6) (e : Ev) (hm : ¬ checkE (h ++ [e]) = 1) : checkE (h ++ [e]) = 6 ∧ checkI (h ++ [e]) = checkI h := by
  have hr : rightH h = true := by
    cases hr : rightH h with
    | true => rfl
    | false => rw [check_arg.2 hr] at h6; cases h6
  have hrm : rightH (h ++ [e]) = true := by
    cases hrm : rightH (h ++ [e]) with
    | true => rfl
    | false => exact absurd (check_arg.2 hrm) hm
  have hl := (check_form hr).1.1 h6
  obtain ⟨h1, _, h3⟩ := check_form hrm
  have ha := run_app h [e] [] hl
  rw [h1, h3, (check_form hr).2.2, ha]
  simp; omega
theorem check_three (h : List Ev) : checkE h = 1 ∨ checkE h = 6 ∨ checkE h = 0 := by
  unfold checkE
  split
  · split <;> simp
  · simp
/-! ### The law's function -/
theorem cutN (N : Nat) (h : List Ev) : List.take (min (h.length : Int) N).toNat (h.map Ev.enc) = (h.take N).map Ev.enc := by
  have : (min (h.length : Int) N).toNat = min h.length N := by omega
  rw [this, ← List.map_take]
  congr 1
  rcases Nat.le_total h.length N with hl | hl
  · rw [Nat.min_eq_left hl, List.take_of_length_le (Nat.le_refl _), List.take_of_length_le hl]
  · rw [Nat.min_eq_right hl]
/-- A place of a row, out of any number. -/
def placeIn (k : Int) (n : Nat) : Nat := ((k.tmod ((n : Int) + 1) + n + 1).tmod ((n : Int) + 1)).toNat
theorem place_le (k : Int) (n : Nat) : placeIn k n ≤ n := by
  have h1 := Int.tmod_lt_of_pos (k.tmod ((n : Int) + 1) + n + 1) (show (0 : Int) < (n : Int) + 1 by omega)
  unfold placeIn; omega
theorem place_eq (k : Int) (n : Nat) : (k.tmod ((n : Int) + 1) + n + 1).tmod ((n : Int) + 1) = (placeIn k n : Int) := by
  have h0 := Int.lt_tmod_of_pos k (show (0 : Int) < (n : Int) + 1 by omega)
  have h1 : 0 ≤ (k.tmod ((n : Int) + 1) + n + 1).tmod ((n : Int) + 1) := Int.tmod_nonneg _ (by omega)
  unfold placeIn; omega
theorem place_w (k : Int) (n : Nat) (hn : n ≤ 1000000) : IntKind.i64.wrap ((n : Int) + 1) = (n : Int) + 1 ∧ IntKind.i64.wrap (k.tmod ((n : Int) + 1) + n) = k.tmod ((n : Int) + 1) + n ∧ IntKind.i64.wrap (k.tmod ((n : Int) + 1) + n + 1) = k.tmod ((n : Int) + 1) + n + 1 := by
  have h0 := Int.lt_tmod_of_pos k (show (0 : Int) < (n : Int) + 1 by omega)
  have h1 := Int.tmod_lt_of_pos k (show (0 : Int) < (n : Int) + 1 by omega)
  exact ⟨i64_in _ (by omega), i64_in _ (by omega), i64_in _ (by omega)⟩
set_option maxHeartbeats 4000000 in
theorem t14 (h0 : List Ev) (e : Ev) (k0 : Int) : Holds Tryd.prog GL 14 [evsA h0, e.a, I k0] [.a (B true)] := by
  refine fn_holds (vs := [.tmp 6]) (by kernel_rfl) Tryd.func14 rfl rfl (by kernel_rfl) (by kernel_rfl) rfl ?_
  have m0 : (0 : Int) ≤ min (h0.length : Int) 58 := by omega
  have m1 : min (h0.length : Int) 58 ≤ (h0.length : Int) := by omega
  have hc : List.take (min (h0.length : Int) 58).toNat (h0.map Ev.enc) = (h0.take 58).map Ev.enc := cutN 58 h0
  have hl58 : (h0.take 58).length ≤ 58 := by simp; omega
  generalize h0.take 58 = h at hc hl58
  obtain ⟨w1, w2, w3⟩ := place_w k0 h.length (by omega)
  have pe := place_eq k0 h.length
  have pl := place_le k0 h.length
  generalize placeIn k0 h.length = k at pe pl
  have hne : ¬ ((h.length : Int) + 1 = 0) := by omega
  have hk1 : (k : Int) ≤ (h.length : Int) := by omega
  have htk : List.take k (h.map Ev.enc) = (h.take k).map Ev.enc := by rw [List.map_take]
  have e61 : ((6 : Int) = 1) = False := by simp
  have e01 : ((0 : Int) = 1) = False := by simp
  have e06 : ((0 : Int) = 6) = False := by simp
  have e60 : ((6 : Int) = 0) = False := by simp
  have e16 : ((1 : Int) = 6) = False := by simp
  have hsum : sumLen [h, [e]] ≤ 1000000 := by simp [sumLen]; omega
  have hcat : [h, [e]].flatten.map Ev.enc = (h ++ [e]).map Ev.enc := by simp
  have hml : (h ++ [e]).length ≤ 59 := by simp; omega
  rcases check_three h with hb | hb | hb
  · have hi : checkI h = 0 := by simp [checkI, check_arg.1 hb]
    (refine of_gate ?_; repeat' ((first | (with_reducible refine gate_in ?_) | (with_reducible refine spK_intro ?_ ?_ <;> intro hp) | (with_reducible refine brK_intro ?_ ?_ <;> intro hb <;> try rw [hb]) | (with_reducible refine draw_in (by unfold DrawOk; decide +kernel) ?_) | (with_reducible apply c45) | (with_reducible apply c43)) <;> try simp only [↓PR, PO, PC, PX, tyI, tyF, tyX, tyL, tyK, tyB, tyE, tyM, tyP, tyQ, Nat.reduceBEq, Nat.reduceAdd, Nat.reduceMul, Nat.reduceSub, Nat.reduceLeDiff, Nat.reduceEqDiff, Nat.reduceLT, Nat.reducePow, Nat.reduceBneDiff, Nat.reduceBNe, Int.reduceBEq, Int.reduceEq, Int.reduceLT, Int.reduceLE, Int.reduceToNat, String.reduceBEq, List.length_map, m0, m1, hc, w1, w2, w3, pe, hne, hk1, htk, hb, hi, Int.le_refl, Int.toNat_zero]))
  · have hr : ¬ checkE h = 1 := by rw [hb]; decide
    obtain ⟨t0, t6, ti⟩ := goes_take pl hr
    have hi : checkI h = ((runF h []).1 : Int) := (check_form (by cases hq : rightH h with | true => rfl | false => exact absurd (check_arg.2 hq) hr)).2.2
    by_cases hki : k ≤ (runF h []).1
    · have a1 := t0.2 hki
      have a2 : ((k : Int) ≤ ((runF h []).1 : Int)) = True := by simp; exact hki
      rw [Nat.min_eq_left hki] at ti
      (refine of_gate ?_; repeat' ((first | (with_reducible refine gate_in ?_) | (with_reducible refine spK_intro ?_ ?_ <;> intro hp) | (with_reducible refine brK_intro ?_ ?_ <;> intro hb <;> try rw [hb]) | (with_reducible refine draw_in (by unfold DrawOk; decide +kernel) ?_) | (with_reducible apply c45) | (with_reducible apply c43)) <;> try simp only [↓PR, PO, PC, PX, tyI, tyF, tyX, tyL, tyK, tyB, tyE, tyM, tyP, tyQ, Nat.reduceBEq, Nat.reduceAdd, Nat.reduceMul, Nat.reduceSub, Nat.reduceLeDiff, Nat.reduceEqDiff, Nat.reduceLT, Nat.reducePow, Nat.reduceBneDiff, Nat.reduceBNe, Int.reduceBEq, Int.reduceEq, Int.reduceLT, Int.reduceLE, Int.reduceToNat, String.reduceBEq, List.length_map, m0, m1, hc, w1, w2, w3, pe, hne, hk1, htk, hb, hi, a1, a2, ti, e61, e60, e06, Int.le_refl, Int.toNat_zero, bne_self_eq_false]))
      refine call_rest _ (t54 [h, [e]] (by simp) hsum) ?_
      simp only [↓PR, PO, PC, PX, tyI, tyF, tyX, tyL, tyK, tyB, tyE, tyM, tyP, tyQ, Nat.reduceBEq, Nat.reduceAdd, Nat.reduceMul, Nat.reduceSub, Nat.reduceLeDiff, Nat.reduceEqDiff, Nat.reduceLT, Nat.reducePow, Nat.reduceBneDiff, Nat.reduceBNe, Int.reduceBEq, Int.reduceEq, Int.reduceLT, Int.reduceLE, Int.reduceToNat, String.reduceBEq, hcat]
      refine ⟨by simp [rowsD, Ev.enc_eq], ?_⟩
      (refine of_gate ?_; repeat' ((first | (with_reducible refine gate_in ?_) | (with_reducible refine spK_intro ?_ ?_ <;> intro hp) | (with_reducible refine brK_intro ?_ ?_ <;> intro hb <;> try rw [hb]) | (with_reducible refine draw_in (by unfold DrawOk; decide +kernel) ?_)) <;> try simp only [↓PR, PO, PC, PX, tyI, tyF, tyX, tyL, tyK, tyB, tyE, tyM, tyP, tyQ, Nat.reduceBEq, Nat.reduceAdd, Nat.reduceMul, Nat.reduceSub, Nat.reduceLeDiff, Nat.reduceEqDiff, Nat.reduceLT, Nat.reducePow, Nat.reduceBneDiff, Nat.reduceBNe, Int.reduceBEq, Int.reduceEq, Int.reduceLT, Int.reduceLE, Int.reduceToNat, String.reduceBEq]))
      refine call_own _ (t45 (h ++ [e])) (by simp only [↓PR, PO, PC, PX, tyI, tyF, tyX, tyL, tyK, tyB, tyE, tyM, tyP, tyQ, Nat.reduceBEq, Nat.reduceAdd, Nat.reduceMul, Nat.reduceSub, Nat.reduceLeDiff, Nat.reduceEqDiff, Nat.reduceLT, Nat.reducePow, Nat.reduceBneDiff, Nat.reduceBNe, Int.reduceBEq, Int.reduceEq, Int.reduceLT, Int.reduceLE, Int.reduceToNat, String.reduceBEq, argsA, argA]) rfl ?_
      rcases Classical.em (checkE (h ++ [e]) = 1) with hm | hm
      · have hmi : checkI (h ++ [e]) = 0 := by simp [checkI, check_arg.1 hm]
        (refine of_gate ?_; repeat' ((first | (with_reducible refine gate_in ?_) | (with_reducible refine spK_intro ?_ ?_ <;> intro hp) | (with_reducible refine brK_intro ?_ ?_ <;> intro hb <;> try rw [hb]) | (with_reducible refine draw_in (by unfold DrawOk; decide +kernel) ?_)) <;> try simp only [↓PR, PO, PC, PX, tyI, tyF, tyX, tyL, tyK, tyB, tyE, tyM, tyP, tyQ, Nat.reduceBEq, Nat.reduceAdd, Nat.reduceMul, Nat.reduceSub, Nat.reduceLeDiff, Nat.reduceEqDiff, Nat.reduceLT, Nat.reducePow, Nat.reduceBneDiff, Nat.reduceBNe, Int.reduceBEq, Int.reduceEq, Int.reduceLT, Int.reduceLE, Int.reduceToNat, String.reduceBEq, List.length_map, hb, hi, hm, hmi, e61, e60, e06]))
      · obtain ⟨g1, g2⟩ := goes_form hb e hm
        (refine of_gate ?_; repeat' ((first | (with_reducible refine gate_in ?_) | (with_reducible refine spK_intro ?_ ?_ <;> intro hp) | (with_reducible refine brK_intro ?_ ?_ <;> intro hb <;> try rw [hb]) | (with_reducible refine draw_in (by unfold DrawOk; decide +kernel) ?_)) <;> try simp only [↓PR, PO, PC, PX, tyI, tyF, tyX, tyL, tyK, tyB, tyE, tyM, tyP, tyQ, Nat.reduceBEq, Nat.reduceAdd, Nat.reduceMul, Nat.reduceSub, Nat.reduceLeDiff, Nat.reduceEqDiff, Nat.reduceLT, Nat.reducePow, Nat.reduceBneDiff, Nat.reduceBNe, Int.reduceBEq, Int.reduceEq, Int.reduceLT, Int.reduceLE, Int.reduceToNat, String.reduceBEq, List.length_map, hb, hi, g1, g2, e61, e60, e06]))
    · have a1 := t6.2 (by omega)
      have a2 : ((k : Int) ≤ ((runF h []).1 : Int)) = False := by simp; omega
      rw [Nat.min_eq_right (by omega)] at ti
      (refine of_gate ?_; repeat' ((first | (with_reducible refine gate_in ?_) | (with_reducible refine spK_intro ?_ ?_ <;> intro hp) | (with_reducible refine brK_intro ?_ ?_ <;> intro hb <;> try rw [hb]) | (with_reducible refine draw_in (by unfold DrawOk; decide +kernel) ?_) | (with_reducible apply c45) | (with_reducible apply c43)) <;> try simp only [↓PR, PO, PC, PX, tyI, tyF, tyX, tyL, tyK, tyB, tyE, tyM, tyP, tyQ, Nat.reduceBEq, Nat.reduceAdd, Nat.reduceMul, Nat.reduceSub, Nat.reduceLeDiff, Nat.reduceEqDiff, Nat.reduceLT, Nat.reducePow, Nat.reduceBneDiff, Nat.reduceBNe, Int.reduceBEq, Int.reduceEq, Int.reduceLT, Int.reduceLE, Int.reduceToNat, String.reduceBEq, List.length_map, m0, m1, hc, w1, w2, w3, pe, hne, hk1, htk, hb, hi, a1, a2, ti, e61, e60, e06, Int.le_refl, Int.toNat_zero, bne_self_eq_false]))
      refine call_rest _ (t54 [h, [e]] (by simp) hsum) ?_
      simp only [↓PR, PO, PC, PX, tyI, tyF, tyX, tyL, tyK, tyB, tyE, tyM, tyP, tyQ, Nat.reduceBEq, Nat.reduceAdd, Nat.reduceMul, Nat.reduceSub, Nat.reduceLeDiff, Nat.reduceEqDiff, Nat.reduceLT, Nat.reducePow, Nat.reduceBneDiff, Nat.reduceBNe, Int.reduceBEq, Int.reduceEq, Int.reduceLT, Int.reduceLE, Int.reduceToNat, String.reduceBEq, hcat]
      refine ⟨by simp [rowsD, Ev.enc_eq], ?_⟩
      (refine of_gate ?_; repeat' ((first | (with_reducible refine gate_in ?_) | (with_reducible refine spK_intro ?_ ?_ <;> intro hp) | (with_reducible refine brK_intro ?_ ?_ <;> intro hb <;> try rw [hb]) | (with_reducible refine draw_in (by unfold DrawOk; decide +kernel) ?_)) <;> try simp only [↓PR, PO, PC, PX, tyI, tyF, tyX, tyL, tyK, tyB, tyE, tyM, tyP, tyQ, Nat.reduceBEq, Nat.reduceAdd, Nat.reduceMul, Nat.reduceSub, Nat.reduceLeDiff, Nat.reduceEqDiff, Nat.reduceLT, Nat.reducePow, Nat.reduceBneDiff, Nat.reduceBNe, Int.reduceBEq, Int.reduceEq, Int.reduceLT, Int.reduceLE, Int.reduceToNat, String.reduceBEq]))
      refine call_own _ (t45 (h ++ [e])) (by simp only [↓PR, PO, PC, PX, tyI, tyF, tyX, tyL, tyK, tyB, tyE, tyM, tyP, tyQ, Nat.reduceBEq, Nat.reduceAdd, Nat.reduceMul, Nat.reduceSub, Nat.reduceLeDiff, Nat.reduceEqDiff, Nat.reduceLT, Nat.reducePow, Nat.reduceBneDiff, Nat.reduceBNe, Int.reduceBEq, Int.reduceEq, Int.reduceLT, Int.reduceLE, Int.reduceToNat, String.reduceBEq, argsA, argA]) rfl ?_
      rcases Classical.em (checkE (h ++ [e]) = 1) with hm | hm
      · have hmi : checkI (h ++ [e]) = 0 := by simp [checkI, check_arg.1 hm]
        (refine of_gate ?_; repeat' ((first | (with_reducible refine gate_in ?_) | (with_reducible refine spK_intro ?_ ?_ <;> intro hp) | (with_reducible refine brK_intro ?_ ?_ <;> intro hb <;> try rw [hb]) | (with_reducible refine draw_in (by unfold DrawOk; decide +kernel) ?_)) <;> try simp only [↓PR, PO, PC, PX, tyI, tyF, tyX, tyL, tyK, tyB, tyE, tyM, tyP, tyQ, Nat.reduceBEq, Nat.reduceAdd, Nat.reduceMul, Nat.reduceSub, Nat.reduceLeDiff, Nat.reduceEqDiff, Nat.reduceLT, Nat.reducePow, Nat.reduceBneDiff, Nat.reduceBNe, Int.reduceBEq, Int.reduceEq, Int.reduceLT, Int.reduceLE, Int.reduceToNat, String.reduceBEq, List.length_map, hb, hi, hm, hmi, e61, e60, e06]))
      · obtain ⟨g1, g2⟩ := goes_form hb e hm
        (refine of_gate ?_; repeat' ((first | (with_reducible refine gate_in ?_) | (with_reducible refine spK_intro ?_ ?_ <;> intro hp) | (with_reducible refine brK_intro ?_ ?_ <;> intro hb <;> try rw [hb]) | (with_reducible refine draw_in (by unfold DrawOk; decide +kernel) ?_)) <;> try simp only [↓PR, PO, PC, PX, tyI, tyF, tyX, tyL, tyK, tyB, tyE, tyM, tyP, tyQ, Nat.reduceBEq, Nat.reduceAdd, Nat.reduceMul, Nat.reduceSub, Nat.reduceLeDiff, Nat.reduceEqDiff, Nat.reduceLT, Nat.reducePow, Nat.reduceBneDiff, Nat.reduceBNe, Int.reduceBEq, Int.reduceEq, Int.reduceLT, Int.reduceLE, Int.reduceToNat, String.reduceBEq, List.length_map, hb, hi, g1, g2, e61, e60, e06]))
  · have hr : ¬ checkE h = 1 := by rw [hb]; decide
    obtain ⟨t0, t6, ti⟩ := goes_take pl hr
    have hrr : rightH h = true := by cases hq : rightH h with | true => rfl | false => exact absurd (check_arg.2 hq) hr
    have hfull := (check_form hrr).2.1.1 hb
    have hi : checkI h = (h.length : Int) := by rw [(check_form hrr).2.2, hfull]
    rw [hfull] at t0 ti
    have a1 := t0.2 pl
    rw [Nat.min_eq_left pl] at ti
    (refine of_gate ?_; repeat' ((first | (with_reducible refine gate_in ?_) | (with_reducible refine spK_intro ?_ ?_ <;> intro hp) | (with_reducible refine brK_intro ?_ ?_ <;> intro hb <;> try rw [hb]) | (with_reducible refine draw_in (by unfold DrawOk; decide +kernel) ?_) | (with_reducible apply c45) | (with_reducible apply c43)) <;> try simp only [↓PR, PO, PC, PX, tyI, tyF, tyX, tyL, tyK, tyB, tyE, tyM, tyP, tyQ, Nat.reduceBEq, Nat.reduceAdd, Nat.reduceMul, Nat.reduceSub, Nat.reduceLeDiff, Nat.reduceEqDiff, Nat.reduceLT, Nat.reducePow, Nat.reduceBneDiff, Nat.reduceBNe, Int.reduceBEq, Int.reduceEq, Int.reduceLT, Int.reduceLE, Int.reduceToNat, String.reduceBEq, List.length_map, m0, m1, hc, w1, w2, w3, pe, hne, hk1, htk, hb, hi, a1, ti, e01, e60, e06, Int.le_refl, Int.toNat_zero, bne_self_eq_false]))
    refine call_rest _ (t54 [h, [e]] (by simp) hsum) ?_
    simp only [↓PR, PO, PC, PX, tyI, tyF, tyX, tyL, tyK, tyB, tyE, tyM, tyP, tyQ, Nat.reduceBEq, Nat.reduceAdd, Nat.reduceMul, Nat.reduceSub, Nat.reduceLeDiff, Nat.reduceEqDiff, Nat.reduceLT, Nat.reducePow, Nat.reduceBneDiff, Nat.reduceBNe, Int.reduceBEq, Int.reduceEq, Int.reduceLT, Int.reduceLE, Int.reduceToNat, String.reduceBEq, hcat]
    refine ⟨by simp [rowsD, Ev.enc_eq], ?_⟩
    (refine of_gate ?_; repeat' ((first | (with_reducible refine gate_in ?_) | (with_reducible refine spK_intro ?_ ?_ <;> intro hp) | (with_reducible refine brK_intro ?_ ?_ <;> intro hb <;> try rw [hb]) | (with_reducible refine draw_in (by unfold DrawOk; decide +kernel) ?_)) <;> try simp only [↓PR, PO, PC, PX, tyI, tyF, tyX, tyL, tyK, tyB, tyE, tyM, tyP, tyQ, Nat.reduceBEq, Nat.reduceAdd, Nat.reduceMul, Nat.reduceSub, Nat.reduceLeDiff, Nat.reduceEqDiff, Nat.reduceLT, Nat.reducePow, Nat.reduceBneDiff, Nat.reduceBNe, Int.reduceBEq, Int.reduceEq, Int.reduceLT, Int.reduceLE, Int.reduceToNat, String.reduceBEq]))
    refine call_own _ (t45 (h ++ [e])) (by simp only [↓PR, PO, PC, PX, tyI, tyF, tyX, tyL, tyK, tyB, tyE, tyM, tyP, tyQ, Nat.reduceBEq, Nat.reduceAdd, Nat.reduceMul, Nat.reduceSub, Nat.reduceLeDiff, Nat.reduceEqDiff, Nat.reduceLT, Nat.reducePow, Nat.reduceBneDiff, Nat.reduceBNe, Int.reduceBEq, Int.reduceEq, Int.reduceLT, Int.reduceLE, Int.reduceToNat, String.reduceBEq, argsA, argA]) rfl ?_
    rcases Classical.em (checkE (h ++ [e]) = 1) with hm | hm
    · have hmi : checkI (h ++ [e]) = 0 := by simp [checkI, check_arg.1 hm]
      (refine of_gate ?_; repeat' ((first | (with_reducible refine gate_in ?_) | (with_reducible refine spK_intro ?_ ?_ <;> intro hp) | (with_reducible refine brK_intro ?_ ?_ <;> intro hb <;> try rw [hb]) | (with_reducible refine draw_in (by unfold DrawOk; decide +kernel) ?_)) <;> try simp only [↓PR, PO, PC, PX, tyI, tyF, tyX, tyL, tyK, tyB, tyE, tyM, tyP, tyQ, Nat.reduceBEq, Nat.reduceAdd, Nat.reduceMul, Nat.reduceSub, Nat.reduceLeDiff, Nat.reduceEqDiff, Nat.reduceLT, Nat.reducePow, Nat.reduceBneDiff, Nat.reduceBNe, Int.reduceBEq, Int.reduceEq, Int.reduceLT, Int.reduceLE, Int.reduceToNat, String.reduceBEq, List.length_map, hb, hi, hm, hmi, e01, e60, e06]))
    · obtain ⟨g1, g2⟩ := goes_next hb e hm
      have hne0 : nextE h = 0 := hb
      have hm' := eq_false hm
      rcases Classical.em (checkE (h ++ [e]) = 0) with h0' | h0'
      · have g1' := g1.1 h0'
        (refine of_gate ?_; repeat' ((first | (with_reducible refine gate_in ?_) | (with_reducible refine spK_intro ?_ ?_ <;> intro hp) | (with_reducible refine brK_intro ?_ ?_ <;> intro hb <;> try rw [hb]) | (with_reducible refine draw_in (by unfold DrawOk; decide +kernel) ?_) | (with_reducible apply c42) | (with_reducible apply c55)) <;> try simp only [↓PR, PO, PC, PX, tyI, tyF, tyX, tyL, tyK, tyB, tyE, tyM, tyP, tyQ, Nat.reduceBEq, Nat.reduceAdd, Nat.reduceMul, Nat.reduceSub, Nat.reduceLeDiff, Nat.reduceEqDiff, Nat.reduceLT, Nat.reducePow, Nat.reduceBneDiff, Nat.reduceBNe, Int.reduceBEq, Int.reduceEq, Int.reduceLT, Int.reduceLE, Int.reduceToNat, String.reduceBEq, List.length_map, hb, hi, h0', g1', hne0, e01, e60, e06, beq_self_eq_true]))
      · have g1' : (nextV h e.tx).any (fun y => e.kind == y) = false := by
          cases hq : (nextV h e.tx).any (fun y => e.kind == y) with
          | false => rfl
          | true => exact absurd (g1.2 hq) h0'
        have h0f := eq_false h0'
        (refine of_gate ?_; repeat' ((first | (with_reducible refine gate_in ?_) | (with_reducible refine spK_intro ?_ ?_ <;> intro hp) | (with_reducible refine brK_intro ?_ ?_ <;> intro hb <;> try rw [hb]) | (with_reducible refine draw_in (by unfold DrawOk; decide +kernel) ?_) | (with_reducible apply c42) | (with_reducible apply c55)) <;> try simp only [↓PR, PO, PC, PX, tyI, tyF, tyX, tyL, tyK, tyB, tyE, tyM, tyP, tyQ, Nat.reduceBEq, Nat.reduceAdd, Nat.reduceMul, Nat.reduceSub, Nat.reduceLeDiff, Nat.reduceEqDiff, Nat.reduceLT, Nat.reducePow, Nat.reduceBneDiff, Nat.reduceBNe, Int.reduceBEq, Int.reduceEq, Int.reduceLT, Int.reduceLE, Int.reduceToNat, String.reduceBEq, List.length_map, hb, hi, hm', h0f, g1', g2 h0', hne0, e01, e60, e06, beq_self_eq_true]))
end Go.VC
