/- The laws of layer 5: their functions. -/
import Derived.Test.YtjmbgnncokeliaaDoorVK
set_option maxRecDepth 100000
set_option linter.unusedSimpArgs false
set_option linter.unusedVariables false
namespace Go.VC
open Go.RowKit Go.Proofs Go.IntWalk
/-- A call that may keep what is handed to it. -/
theorem call_rest {P : Program} {gl : Nat → Option (List D)} {f : FuncId} {rs : List R} (ys : List A) {res : List Rv} {dst : Option Tmp} {σ : S} {K : S → Prop} (hH : Holds P gl f ys res) (h : S.rest σ rs [] fun σ' xs => xs = ys ∧ S.ret σ' dst res K) : callV P gl f rs dst σ K :=
  .inr (.inl ⟨res, rest_mono (fun σ xs ⟨e, k⟩ => ⟨e ▸ hH, k⟩) _ h⟩)
def aliveH : List Ev := [⟨0, 1, 0, 0⟩, ⟨1, 1, 0, 0⟩]
theorem alive_e : nextE aliveH = 0 := by decide
theorem sorted_of {l : List Int} (h : l.Pairwise fun a b => decide (a ≤ b) = true) : sorted l = l := List.mergeSort_of_pairwise h
theorem alive_v : nextV aliveH 1 = [2, 4, 6, 8] := by
  have h1 : rightH aliveH = true := by decide
  have h2 : (runF aliveH []).1 = aliveH.length := by decide
  have h3 : keysOf (movesOf (stOf (runF aliveH []).2 1)) = [2, 4, 6, 8] := by decide
  unfold nextV
  rw [if_pos ⟨h1, h2⟩, h3]
  exact sorted_of (by simp)
theorem t43 : Holds Tryd.prog GL 43 [] [.a (B true)] := by
  refine fn_holds (vs := [.tmp 0]) (by kernel_rfl) Tryd.func43 rfl rfl (by kernel_rfl) (by kernel_rfl) rfl ?_
  (refine of_gate ?_; repeat' ((first | (with_reducible refine gate_in ?_) | (with_reducible refine spK_intro ?_ ?_ <;> intro hp) | (with_reducible refine brK_intro ?_ ?_ <;> intro hb <;> try rw [hb]) | (with_reducible refine draw_in (by unfold DrawOk; decide +kernel) ?_)) <;> try simp only [↓PR, PO, PC, PX, tyI, tyF, tyX, tyL, tyK, tyB, tyE, tyM, tyP, tyQ, Nat.reduceBEq, Nat.reduceAdd, Nat.reduceMul, Nat.reduceSub, Nat.reduceLeDiff, Nat.reduceEqDiff, Nat.reduceLT, Nat.reducePow, Nat.reduceBneDiff, Nat.reduceBNe, Int.reduceBEq, Int.reduceEq, Int.reduceLT, Int.reduceLE, Int.reduceToNat, String.reduceBEq]))
  refine call_rest _ (t42 aliveH 1) ?_
  rw [alive_e, alive_v]
  simp only [↓PR, PO, PC, PX, tyI, tyF, tyX, tyL, tyK, tyB, tyE, tyM, tyP, tyQ, Nat.reduceBEq, Nat.reduceAdd, Nat.reduceMul, Nat.reduceSub, Nat.reduceLeDiff, Nat.reduceEqDiff, Nat.reduceLT, Nat.reducePow, Nat.reduceBneDiff, Nat.reduceBNe, Int.reduceBEq, Int.reduceEq, Int.reduceLT, Int.reduceLE, Int.reduceToNat, String.reduceBEq, aliveH, Ev.enc_eq]
  refine ⟨rfl, ?_⟩
  (refine of_gate ?_; repeat' ((first | (with_reducible refine gate_in ?_) | (with_reducible refine spK_intro ?_ ?_ <;> intro hp) | (with_reducible refine brK_intro ?_ ?_ <;> intro hb <;> try rw [hb]) | (with_reducible refine draw_in (by unfold DrawOk; decide +kernel) ?_)) <;> try simp only [↓PR, PO, PC, PX, tyI, tyF, tyX, tyL, tyK, tyB, tyE, tyM, tyP, tyQ, Nat.reduceBEq, Nat.reduceAdd, Nat.reduceMul, Nat.reduceSub, Nat.reduceLeDiff, Nat.reduceEqDiff, Nat.reduceLT, Nat.reducePow, Nat.reduceBneDiff, Nat.reduceBNe, Int.reduceBEq, Int.reduceEq, Int.reduceLT, Int.reduceLE, Int.reduceToNat, String.reduceBEq, ienc_eq]))
  refine call_own _ (t34 [2, 4, 6, 8] [2, 4, 6, 8]) (by simp only [↓PR, PO, PC, PX, tyI, tyF, tyX, tyL, tyK, tyB, tyE, tyM, tyP, tyQ, Nat.reduceBEq, Nat.reduceAdd, Nat.reduceMul, Nat.reduceSub, Nat.reduceLeDiff, Nat.reduceEqDiff, Nat.reduceLT, Nat.reducePow, Nat.reduceBneDiff, Nat.reduceBNe, Int.reduceBEq, Int.reduceEq, Int.reduceLT, Int.reduceLE, Int.reduceToNat, String.reduceBEq, argsA, argA, ienc_eq] <;> rfl) rfl ?_
  (refine of_gate ?_; repeat' ((first | (with_reducible refine gate_in ?_) | (with_reducible refine spK_intro ?_ ?_ <;> intro hp) | (with_reducible refine brK_intro ?_ ?_ <;> intro hb <;> try rw [hb]) | (with_reducible refine draw_in (by unfold DrawOk; decide +kernel) ?_)) <;> try simp only [↓PR, PO, PC, PX, tyI, tyF, tyX, tyL, tyK, tyB, tyE, tyM, tyP, tyQ, Nat.reduceBEq, Nat.reduceAdd, Nat.reduceMul, Nat.reduceSub, Nat.reduceLeDiff, Nat.reduceEqDiff, Nat.reduceLT, Nat.reducePow, Nat.reduceBneDiff, Nat.reduceBNe, Int.reduceBEq, Int.reduceEq, Int.reduceLT, Int.reduceLE, Int.reduceToNat, String.reduceBEq]))
  all_goals simp_all
theorem c43 {dst : Option Tmp} {σ : S} {K : S → Prop} (hK : S.ret σ dst [.a (B true)] K) : callV Tryd.prog GL 43 [] dst σ K := call_dat t43 hK
/-- The kinds that may come next, up to a number. -/
def nx (h : List Ev) (tx : Int) (k : Nat) : List Int := ((List.range k).filter fun i : Nat => may (lastK h tx) (i : Int)).map fun i : Nat => (i : Int)
theorem nx_s (h : List Ev) (tx : Int) (k : Nat) : nx h tx (k + 1) = if may (lastK h tx) k then nx h tx k ++ [(k : Int)] else nx h tx k := by
  unfold nx
  rw [List.range_succ, List.filter_append, List.map_append]
  cases hm : may (lastK h tx) (k : Int) <;> simp [hm]
theorem nx_le (h : List Ev) (tx : Int) (k : Nat) : (nx h tx k).length ≤ k := by
  unfold nx
  rw [List.length_map]
  exact Nat.le_trans (List.length_filter_le _ _) (by simp)
theorem t44 (h : List Ev) (tx : Int) : Holds Tryd.prog GL 44 [evsA h, I tx] [.a (intsA (nx h tx 10))] := by
  refine fn_holds (vs := [.tmp 4]) (by kernel_rfl) Tryd.func44 rfl rfl (by kernel_rfl) (by kernel_rfl) rfl ?_
  (refine of_gate ?_; repeat' ((first | (with_reducible refine gate_in ?_) | (with_reducible refine spK_intro ?_ ?_ <;> intro hp) | (with_reducible refine brK_intro ?_ ?_ <;> intro hb <;> try rw [hb]) | (with_reducible refine draw_in (by unfold DrawOk; decide +kernel) ?_)) <;> try simp only [↓PR, PO, PC, PX, tyI, tyF, tyX, tyL, tyK, tyB, tyE, tyM, tyP, tyQ, Nat.reduceBEq, Nat.reduceAdd, Nat.reduceMul, Nat.reduceSub, Nat.reduceLeDiff, Nat.reduceEqDiff, Nat.reduceLT, Nat.reducePow, Nat.reduceBneDiff, Nat.reduceBNe, Int.reduceBEq, Int.reduceEq, Int.reduceLT, Int.reduceLE, Int.reduceToNat, String.reduceBEq]))
  refine awp_loopA (fun k : Nat => [(0, .a (evsA h)), (1, .a (I tx)), (5, .own 7), (6, .a (I k))]) (fun k => [(7, .log 3 1 ((nx h tx k).map ienc))]) (fun k => k ≤ 10) (10 - ·) 0 ?_ ?_ (by omega) ?_
  · simp only [↓PR, PO, PC, PX, tyI, tyF, tyX, tyL, tyK, tyB, tyE, tyM, tyP, tyQ, Nat.reduceBEq, Nat.reduceAdd, Nat.reduceMul, Nat.reduceSub, Nat.reduceLeDiff, Nat.reduceEqDiff, Nat.reduceLT, Nat.reducePow, Nat.reduceBneDiff, Nat.reduceBNe, Int.reduceBEq, Int.reduceEq, Int.reduceLT, Int.reduceLE, Int.reduceToNat, String.reduceBEq] <;> rfl
  · simp only [↓PR, PO, PC, PX, tyI, tyF, tyX, tyL, tyK, tyB, tyE, tyM, tyP, tyQ, Nat.reduceBEq, Nat.reduceAdd, Nat.reduceMul, Nat.reduceSub, Nat.reduceLeDiff, Nat.reduceEqDiff, Nat.reduceLT, Nat.reducePow, Nat.reduceBneDiff, Nat.reduceBNe, Int.reduceBEq, Int.reduceEq, Int.reduceLT, Int.reduceLE, Int.reduceToNat, String.reduceBEq] <;> rfl
  intro k j hk
  (refine of_gate ?_; repeat' ((first | (with_reducible refine gate_in ?_) | (with_reducible refine spK_intro ?_ ?_ <;> intro hp) | (with_reducible refine brK_intro ?_ ?_ <;> intro hb <;> try rw [hb]) | (with_reducible refine draw_in (by unfold DrawOk; decide +kernel) ?_)) <;> try simp only [↓PR, PO, PC, PX, tyI, tyF, tyX, tyL, tyK, tyB, tyE, tyM, tyP, tyQ, Nat.reduceBEq, Nat.reduceAdd, Nat.reduceMul, Nat.reduceSub, Nat.reduceLeDiff, Nat.reduceEqDiff, Nat.reduceLT, Nat.reducePow, Nat.reduceBneDiff, Nat.reduceBNe, Int.reduceBEq, Int.reduceEq, Int.reduceLT, Int.reduceLE, Int.reduceToNat, String.reduceBEq]))
  · have hk9 : k < 10 := by omega
    have hw := wrap_succ (n := 10) hk9 (by simp only [maxLen]; omega)
    have hle := nx_le h tx k
    (refine of_gate ?_; repeat' ((first | (with_reducible refine gate_in ?_) | (with_reducible refine spK_intro ?_ ?_ <;> intro hp) | (with_reducible refine brK_intro ?_ ?_ <;> intro hb <;> try rw [hb]) | (with_reducible refine draw_in (by unfold DrawOk; decide +kernel) ?_) | (with_reducible apply c66) | (with_reducible apply c81)) <;> try simp only [↓PR, PO, PC, PX, tyI, tyF, tyX, tyL, tyK, tyB, tyE, tyM, tyP, tyQ, Nat.reduceBEq, Nat.reduceAdd, Nat.reduceMul, Nat.reduceSub, Nat.reduceLeDiff, Nat.reduceEqDiff, Nat.reduceLT, Nat.reducePow, Nat.reduceBneDiff, Nat.reduceBNe, Int.reduceBEq, Int.reduceEq, Int.reduceLT, Int.reduceLE, Int.reduceToNat, String.reduceBEq, hw]))
    · have hs : nx h tx (k + 1) = nx h tx k ++ [(k : Int)] := by rw [nx_s, hb]; rfl
      exact ⟨by rw [List.length_map]; omega, k + 1, by simp only [↓PR, PO, PC, PX, tyI, tyF, tyX, tyL, tyK, tyB, tyE, tyM, tyP, tyQ, Nat.reduceBEq, Nat.reduceAdd, Nat.reduceMul, Nat.reduceSub, Nat.reduceLeDiff, Nat.reduceEqDiff, Nat.reduceLT, Nat.reducePow, Nat.reduceBneDiff, Nat.reduceBNe, Int.reduceBEq, Int.reduceEq, Int.reduceLT, Int.reduceLE, Int.reduceToNat, String.reduceBEq], by simp only [↓PR, PO, PC, PX, tyI, tyF, tyX, tyL, tyK, tyB, tyE, tyM, tyP, tyQ, Nat.reduceBEq, Nat.reduceAdd, Nat.reduceMul, Nat.reduceSub, Nat.reduceLeDiff, Nat.reduceEqDiff, Nat.reduceLT, Nat.reducePow, Nat.reduceBneDiff, Nat.reduceBNe, Int.reduceBEq, Int.reduceEq, Int.reduceLT, Int.reduceLE, Int.reduceToNat, String.reduceBEq, hs, List.map_append, ienc_eq], hk9, by dsimp only; omega⟩
    · have hs : nx h tx (k + 1) = nx h tx k := by rw [nx_s, hb]; rfl
      exact ⟨k + 1, by simp only [↓PR, PO, PC, PX, tyI, tyF, tyX, tyL, tyK, tyB, tyE, tyM, tyP, tyQ, Nat.reduceBEq, Nat.reduceAdd, Nat.reduceMul, Nat.reduceSub, Nat.reduceLeDiff, Nat.reduceEqDiff, Nat.reduceLT, Nat.reducePow, Nat.reduceBneDiff, Nat.reduceBNe, Int.reduceBEq, Int.reduceEq, Int.reduceLT, Int.reduceLE, Int.reduceToNat, String.reduceBEq], by simp only [↓PR, PO, PC, PX, tyI, tyF, tyX, tyL, tyK, tyB, tyE, tyM, tyP, tyQ, Nat.reduceBEq, Nat.reduceAdd, Nat.reduceMul, Nat.reduceSub, Nat.reduceLeDiff, Nat.reduceEqDiff, Nat.reduceLT, Nat.reducePow, Nat.reduceBneDiff, Nat.reduceBNe, Int.reduceBEq, Int.reduceEq, Int.reduceLT, Int.reduceLE, Int.reduceToNat, String.reduceBEq, hs], hk9, by dsimp only; omega⟩
  · have : k = 10 := by omega
    rw [this]
theorem c44 {h : List Ev} {tx : Int} {dst : Option Tmp} {σ : S} {K : S → Prop} (hK : S.ret σ dst [.a (intsA (nx h tx 10))] K) : callV Tryd.prog GL 44 [.a (evsA h), .a (I tx)] dst σ K :=
  call_dat (t44 h tx) hK
theorem q44 {h : List Ev} {tx : Int} {σ : S} {KR : R → Prop} (hK : KR (retR [(intsA (nx h tx 10))])) : callVQ Tryd.prog GL 44 [.a (evsA h), .a (I tx)] σ KR :=
  callQ_dat (res := [(intsA (nx h tx 10))]) (t44 h tx) hK
/-! ### The plain law of layer 5 -/
theorem right_eq (e : Ev) : rightE e = refRight e := by
  obtain ⟨kd, tx, vr, vl⟩ := e
  by_cases hk : 0 ≤ kd ∧ kd ≤ 9
  · have hc : kd = 0 ∨ kd = 1 ∨ kd = 2 ∨ kd = 3 ∨ kd = 4 ∨ kd = 5 ∨ kd = 6 ∨ kd = 7 ∨ kd = 8 ∨ kd = 9 := by omega
    rw [Bool.eq_iff_iff]
    rcases hc with rfl | rfl | rfl | rfl | rfl | rfl | rfl | rfl | rfl | rfl <;> simp [rightE, refRight, kindB] <;> omega
  · rw [Bool.eq_iff_iff]
    simp [rightE, refRight]; omega
theorem rightH_eq (h : List Ev) : rightH h = refRightH h := by
  have : h.all rightE = h.all refRight := by rw [show rightE = refRight from funext right_eq]
  unfold rightH refRightH
  rw [this]
  cases h.all refRight <;> simp
/-- The state behind a kind. -/
def stK (l : Int) : Int := if l = -1 then 0 else if l = 0 then 1 else if l = 1 ∨ l = 3 ∨ l = 5 then 2 else if l = 2 then 3 else if l = 4 then 4 else if l = 6 then 5 else if l = 8 then 6 else 7
theorem moves_may (l k : Int) (h1 : -1 ≤ l) (h2 : l ≤ 9) : assoc (movesOf (stK l)) k = if may l k = true then some (stK k) else none := by
  have hc : l = -1 ∨ l = 0 ∨ l = 1 ∨ l = 2 ∨ l = 3 ∨ l = 4 ∨ l = 5 ∨ l = 6 ∨ l = 7 ∨ l = 8 ∨ l = 9 := by omega
  have hk : k = 0 ∨ k = 1 ∨ k = 2 ∨ k = 3 ∨ k = 4 ∨ k = 5 ∨ k = 6 ∨ k = 7 ∨ k = 8 ∨ k = 9 ∨ (k ≠ 0 ∧ k ≠ 1 ∧ k ≠ 2 ∧ k ≠ 3 ∧ k ≠ 4 ∧ k ≠ 5 ∧ k ≠ 6 ∧ k ≠ 7 ∧ k ≠ 8 ∧ k ≠ 9) := by omega
  rcases hc with rfl | rfl | rfl | rfl | rfl | rfl | rfl | rfl | rfl | rfl | rfl <;>
  rcases hk with rfl | rfl | rfl | rfl | rfl | rfl | rfl | rfl | rfl | rfl | ⟨a0, a1, a2, a3, a4, a5, a6, a7, a8, a9⟩ <;>
  first
  | decide
  | simp [movesOf, movesL, assoc, stK, may, a0, a1, a2, a3, a4, a5, a6, a7, a8, a9, Ne.symm a0, Ne.symm a1, Ne.symm a2, Ne.symm a3, Ne.symm a4, Ne.symm a5, Ne.symm a6, Ne.symm a7, Ne.symm a8, Ne.symm a9]
theorem assoc_set (n y m : Int) : ∀ (l : List (Int × Int)), assoc (assocSet l n y) m = if m = n then some y else assoc l m
  | [] => by simp only [assocSet, assoc]; split <;> split <;> simp_all
  | (k, x) :: l => by
    simp only [assocSet]
    split
    · rename_i hk; subst hk
      simp only [assoc]
      split <;> split <;> simp_all
    · rename_i hk
      simp only [assoc, assoc_set n y m l]
      split <;> split <;> simp_all
theorem may_kind {l k : Int} (h : may l k = true) : 0 ≤ k ∧ k ≤ 9 := by
  unfold may at h
  repeat' split at h
  all_goals simp at h
  all_goals omega
theorem last_app (pre : List Ev) (e : Ev) (tx : Int) : lastK (pre ++ [e]) tx = if e.tx = tx then e.kind else lastK pre tx := by
  rw [lastK, List.foldl_append]; rfl
theorem run_first : ∀ (suf pre : List Ev) (now : List (Int × Int)), (∀ tx, stOf now tx = stK (lastK pre tx) ∧ -1 ≤ lastK pre tx ∧ lastK pre tx ≤ 9) → (∀ i, i < pre.length → badAt (pre ++ suf) i = false) →
    firstI (pre ++ suf) = pre.length + (runF suf now).1
  | [], pre, now, hinv, hb => by
    rw [first_none (k := pre.length) (by simp) hb]; simp [runF]
  | e :: suf, pre, now, hinv, hb => by
    obtain ⟨h0, h1, h2⟩ := hinv e.tx
    have hn : nextS now e = if may (lastK pre e.tx) e.kind = true then some (stK e.kind) else none := by
      unfold nextS; rw [h0]; exact moves_may _ _ h1 h2
    have hbad : badAt (pre ++ e :: suf) pre.length = !may (lastK pre e.tx) e.kind := by simp [badAt]
    cases hm : may (lastK pre e.tx) e.kind with
    | false =>
      rw [hm] at hn hbad
      rw [first_hit (k := pre.length) (by simp) hb hbad]
      simp [runF, hn]
    | true =>
      rw [hm] at hn hbad
      simp only [if_true] at hn
      have hk := may_kind hm
      have ih := run_first suf (pre ++ [e]) (stepN now e) (fun tx => ?_) (fun i hi => ?_)
      · simp only [List.append_assoc, List.singleton_append, List.length_append, List.length_cons, List.length_nil] at ih
        rw [ih]; simp [runF, hn]; omega
      · rw [last_app]
        unfold stepN
        rw [hn]
        simp only [Option.getD_some, stOf, assoc_set]
        by_cases ht : e.tx = tx
        · subst ht; simp; omega
        · rw [if_neg ht, if_neg (Ne.symm ht)]; exact hinv tx
      · simp only [List.append_assoc, List.singleton_append]
        simp only [List.length_append, List.length_cons, List.length_nil] at hi
        by_cases hip : i < pre.length
        · exact hb i hip
        · obtain rfl : i = pre.length := by omega
          exact hbad
theorem run_eq (h : List Ev) : firstI h = (runF h []).1 := by
  have := run_first h [] [] (fun tx => by simp [stOf, assoc, lastK, stK]) (fun i hi => by simp at hi)
  simpa using this
/-! ### The law's functions -/
theorem cut65 (h : List Ev) : List.take (min (h.length : Int) 65).toNat (h.map Ev.enc) = (h.take 65).map Ev.enc := by
  have : (min (h.length : Int) 65).toNat = min h.length 65 := by omega
  rw [this, ← List.map_take]
  congr 1
  rcases Nat.le_total h.length 65 with hl | hl
  · rw [Nat.min_eq_left hl, List.take_of_length_le (Nat.le_refl _), List.take_of_length_le hl]
  · rw [Nat.min_eq_right hl]
theorem t11 (h : List Ev) : Holds Tryd.prog GL 11 [evsA h] [.a (B true)] := by
  refine fn_holds (vs := [.tmp 2]) (by kernel_rfl) Tryd.func11 rfl rfl (by kernel_rfl) (by kernel_rfl) rfl ?_
  have m0 : (0 : Int) ≤ min (h.length : Int) 65 := by omega
  have m1 : min (h.length : Int) 65 ≤ (h.length : Int) := by omega
  (refine of_gate ?_; repeat' ((first | (with_reducible refine gate_in ?_) | (with_reducible refine spK_intro ?_ ?_ <;> intro hp) | (with_reducible refine brK_intro ?_ ?_ <;> intro hb <;> try rw [hb]) | (with_reducible refine draw_in (by unfold DrawOk; decide +kernel) ?_) | (with_reducible apply c45) | (with_reducible apply c46) | (with_reducible apply c43) | (with_reducible apply c47) | (with_reducible apply c19)) <;> try simp only [↓PR, PO, PC, PX, tyI, tyF, tyX, tyL, tyK, tyB, tyE, tyM, tyP, tyQ, Nat.reduceBEq, Nat.reduceAdd, Nat.reduceMul, Nat.reduceSub, Nat.reduceLeDiff, Nat.reduceEqDiff, Nat.reduceLT, Nat.reducePow, Nat.reduceBneDiff, Nat.reduceBNe, Int.reduceBEq, Int.reduceEq, Int.reduceLT, Int.reduceLE, Int.reduceToNat, String.reduceBEq, List.length_map, m0, m1, cut65, Int.le_refl, Int.toNat_zero]))
  all_goals exfalso
  all_goals simp only [checkE, checkI, whyI, rightH_eq, run_eq] at *
  all_goals simp_all
theorem c11 {h : List Ev} {dst : Option Tmp} {σ : S} {K : S → Prop} (hK : S.ret σ dst [.a (B true)] K) : callV Tryd.prog GL 11 [.a (evsA h)] dst σ K :=
  call_dat (t11 h) hK
theorem q11 {h : List Ev} {σ : S} {KR : R → Prop} (hK : KR (retR [(B true)])) : callVQ Tryd.prog GL 11 [.a (evsA h)] σ KR :=
  callQ_dat (res := [(B true)]) (t11 h) hK
theorem run_state : ∀ (suf pre : List Ev) (now : List (Int × Int)), (∀ tx, stOf now tx = stK (lastK pre tx) ∧ -1 ≤ lastK pre tx ∧ lastK pre tx ≤ 9) → (runF suf now).1 = suf.length →
    ∀ tx, stOf (runF suf now).2 tx = stK (lastK (pre ++ suf) tx) ∧ -1 ≤ lastK (pre ++ suf) tx ∧ lastK (pre ++ suf) tx ≤ 9
  | [], pre, now, hinv, _ => by simpa [runF] using hinv
  | e :: suf, pre, now, hinv, hl => by
    obtain ⟨h0, h1, h2⟩ := hinv e.tx
    have hn : nextS now e = if may (lastK pre e.tx) e.kind = true then some (stK e.kind) else none := by
      unfold nextS; rw [h0]; exact moves_may _ _ h1 h2
    cases hm : may (lastK pre e.tx) e.kind with
    | false => rw [hm] at hn; simp [runF, hn] at hl
    | true =>
      rw [hm] at hn
      simp only [if_true] at hn
      have hk := may_kind hm
      have ih := run_state suf (pre ++ [e]) (stepN now e) (fun tx => ?_) (by simpa [runF, hn] using hl)
      · simp only [List.append_assoc, List.singleton_append] at ih
        simpa [runF, hn] using ih
      · rw [last_app]
        unfold stepN
        rw [hn]
        simp only [Option.getD_some, stOf, assoc_set]
        by_cases ht : e.tx = tx
        · subst ht; simp; omega
        · rw [if_neg ht, if_neg (Ne.symm ht)]; exact hinv tx
def nxL (l : Int) : List Int := ((List.range 10).filter fun i : Nat => may l (i : Int)).map fun i : Nat => (i : Int)
theorem keys_nx (l : Int) (h1 : -1 ≤ l) (h2 : l ≤ 9) : sorted (keysOf (movesOf (stK l))) = nxL l := by
  have hc : l = -1 ∨ l = 0 ∨ l = 1 ∨ l = 2 ∨ l = 3 ∨ l = 4 ∨ l = 5 ∨ l = 6 ∨ l = 7 ∨ l = 8 ∨ l = 9 := by omega
  have hk : keysOf (movesOf (stK l)) = nxL l := by rcases hc with rfl | rfl | rfl | rfl | rfl | rfl | rfl | rfl | rfl | rfl | rfl <;> decide
  rw [hk]
  refine sorted_of ?_
  rcases hc with rfl | rfl | rfl | rfl | rfl | rfl | rfl | rfl | rfl | rfl | rfl <;> decide
theorem next_eq (h : List Ev) (tx : Int) (hr : rightH h = true) (hl : (runF h []).1 = h.length) : nextV h tx = nx h tx 10 := by
  have hs := run_state h [] [] (fun tx => by simp [stOf, assoc, lastK, stK]) hl tx
  simp only [List.nil_append] at hs
  unfold nextV
  rw [if_pos ⟨hr, hl⟩, hs.1, keys_nx _ hs.2.1 hs.2.2]; rfl
theorem why_next (h : List Ev) : nextE h = whyI h := by
  simp only [nextE, checkE, whyI, rightH_eq, run_eq]
theorem next_none (h : List Ev) (tx : Int) (hw : ¬ whyI h = 0) : nextV h tx = [] := by
  unfold nextV
  rw [if_neg]
  rintro ⟨h1, h2⟩
  apply hw
  rw [← why_next]; simp [nextE, checkE, h1, h2]
theorem next_some (h : List Ev) (tx : Int) (hw : whyI h = 0) : nextV h tx = nx h tx 10 := by
  rw [← why_next] at hw
  simp only [nextE, checkE] at hw
  cases hr : rightH h with
  | false => simp [hr] at hw
  | true =>
    have hle := runF_le h []
    refine next_eq h tx hr ?_
    rcases Nat.lt_or_ge (runF h []).1 h.length with hlt | hge
    · simp [hr, hlt] at hw
    · omega
theorem t10 (h : List Ev) (tx : Int) : Holds Tryd.prog GL 10 [evsA h, I tx] [.a (B true)] := by
  refine fn_holds (vs := [.tmp 4]) (by kernel_rfl) Tryd.func10 rfl rfl (by kernel_rfl) (by kernel_rfl) rfl ?_
  have m0 : (0 : Int) ≤ min (h.length : Int) 65 := by omega
  have m1 : min (h.length : Int) 65 ≤ (h.length : Int) := by omega
  (refine of_gate ?_; repeat' ((first | (with_reducible refine gate_in ?_) | (with_reducible refine spK_intro ?_ ?_ <;> intro hp) | (with_reducible refine brK_intro ?_ ?_ <;> intro hb <;> try rw [hb]) | (with_reducible refine draw_in (by unfold DrawOk; decide +kernel) ?_) | (with_reducible apply c42) | (with_reducible apply c43) | (with_reducible apply c44) | (with_reducible apply c34) | (with_reducible apply c19)) <;> try simp only [↓PR, PO, PC, PX, tyI, tyF, tyX, tyL, tyK, tyB, tyE, tyM, tyP, tyQ, Nat.reduceBEq, Nat.reduceAdd, Nat.reduceMul, Nat.reduceSub, Nat.reduceLeDiff, Nat.reduceEqDiff, Nat.reduceLT, Nat.reducePow, Nat.reduceBneDiff, Nat.reduceBNe, Int.reduceBEq, Int.reduceEq, Int.reduceLT, Int.reduceLE, Int.reduceToNat, String.reduceBEq, List.length_map, m0, m1, cut65, Int.le_refl, Int.toNat_zero, why_next]))
  · rw [next_some _ _ hp]; simp
  · contradiction
  · rename_i hw
    rw [next_none _ _ hw] at hp; simp at hp
theorem c10 {h : List Ev} {tx : Int} {dst : Option Tmp} {σ : S} {K : S → Prop} (hK : S.ret σ dst [.a (B true)] K) : callV Tryd.prog GL 10 [.a (evsA h), .a (I tx)] dst σ K :=
  call_dat (t10 h tx) hK
theorem q10 {h : List Ev} {tx : Int} {σ : S} {KR : R → Prop} (hK : KR (retR [(B true)])) : callVQ Tryd.prog GL 10 [.a (evsA h), .a (I tx)] σ KR :=
  callQ_dat (res := [(B true)]) (t10 h tx) hK
end Go.VC
