/- The document's answers for layers 1, 2, 5. -/
import Derived.Test.YtjmbgnncokeliaaDoorVY
set_option maxRecDepth 100000
set_option linter.unusedSimpArgs false
set_option linter.unusedVariables false
namespace Go.VC
open Go.RowKit Go.Proofs Go.IntWalk
theorem t109 (n : Int) : Holds Tryd.prog GL 109 [I n] [.a (B (decide (-2147483648 ≤ n) && decide (n ≤ 2147483647)))] := by
  refine fn_holds (vs := [.tmp 2]) (by kernel_rfl) Tryd.func109 rfl rfl (by kernel_rfl) (by kernel_rfl) rfl ?_
  (refine of_gate ?_; repeat' ((first | (with_reducible refine gate_in ?_) | (with_reducible refine spK_intro ?_ ?_ <;> intro hp) | (with_reducible refine brK_intro ?_ ?_ <;> intro hb <;> try rw [hb]) | (with_reducible refine draw_in (by unfold DrawOk; decide +kernel) ?_)) <;> try simp only [↓PR, PO, PC, PX, tyI, tyF, tyX, tyL, tyK, tyB, tyE, tyM, tyP, tyQ, Nat.reduceBEq, Nat.reduceAdd, Nat.reduceMul, Nat.reduceSub, Nat.reduceLeDiff, Nat.reduceEqDiff, Nat.reduceLT, Nat.reducePow, Nat.reduceBneDiff, Nat.reduceBNe, Int.reduceBEq, Int.reduceEq, Int.reduceLT, Int.reduceLE, Int.reduceToNat, String.reduceBEq]))
  all_goals (simp_all <;> omega)
theorem c109 {n : Int} {dst : Option Tmp} {σ : S} {K : S → Prop} (hK : S.ret σ dst [.a (B (decide (-2147483648 ≤ n) && decide (n ≤ 2147483647)))] K) : callV Tryd.prog GL 109 [.a (I n)] dst σ K :=
  call_dat (t109 n) hK
theorem q109 {n : Int} {σ : S} {KR : R → Prop} (hK : KR (retR [(B (decide (-2147483648 ≤ n) && decide (n ≤ 2147483647)))])) : callVQ Tryd.prog GL 109 [.a (I n)] σ KR :=
  callQ_dat (res := [(B (decide (-2147483648 ≤ n) && decide (n ≤ 2147483647)))]) (t109 n) hK
theorem t110 (n : Int) : Holds Tryd.prog GL 110 [I n] [.a (B (n == 2 || n == 4))] := by
  refine fn_holds (vs := [.tmp 2]) (by kernel_rfl) Tryd.func110 rfl rfl (by kernel_rfl) (by kernel_rfl) rfl ?_
  (refine of_gate ?_; repeat' ((first | (with_reducible refine gate_in ?_) | (with_reducible refine spK_intro ?_ ?_ <;> intro hp) | (with_reducible refine brK_intro ?_ ?_ <;> intro hb <;> try rw [hb]) | (with_reducible refine draw_in (by unfold DrawOk; decide +kernel) ?_)) <;> try simp only [↓PR, PO, PC, PX, tyI, tyF, tyX, tyL, tyK, tyB, tyE, tyM, tyP, tyQ, Nat.reduceBEq, Nat.reduceAdd, Nat.reduceMul, Nat.reduceSub, Nat.reduceLeDiff, Nat.reduceEqDiff, Nat.reduceLT, Nat.reducePow, Nat.reduceBneDiff, Nat.reduceBNe, Int.reduceBEq, Int.reduceEq, Int.reduceLT, Int.reduceLE, Int.reduceToNat, String.reduceBEq]))
  all_goals (simp_all)
theorem c110 {n : Int} {dst : Option Tmp} {σ : S} {K : S → Prop} (hK : S.ret σ dst [.a (B (n == 2 || n == 4))] K) : callV Tryd.prog GL 110 [.a (I n)] dst σ K :=
  call_dat (t110 n) hK
theorem q110 {n : Int} {σ : S} {KR : R → Prop} (hK : KR (retR [(B (n == 2 || n == 4))])) : callVQ Tryd.prog GL 110 [.a (I n)] σ KR :=
  callQ_dat (res := [(B (n == 2 || n == 4))]) (t110 n) hK
theorem t111 (n : Int) : Holds Tryd.prog GL 111 [I n] [.a (B (n == 3 || n == 4))] := by
  refine fn_holds (vs := [.tmp 2]) (by kernel_rfl) Tryd.func111 rfl rfl (by kernel_rfl) (by kernel_rfl) rfl ?_
  (refine of_gate ?_; repeat' ((first | (with_reducible refine gate_in ?_) | (with_reducible refine spK_intro ?_ ?_ <;> intro hp) | (with_reducible refine brK_intro ?_ ?_ <;> intro hb <;> try rw [hb]) | (with_reducible refine draw_in (by unfold DrawOk; decide +kernel) ?_)) <;> try simp only [↓PR, PO, PC, PX, tyI, tyF, tyX, tyL, tyK, tyB, tyE, tyM, tyP, tyQ, Nat.reduceBEq, Nat.reduceAdd, Nat.reduceMul, Nat.reduceSub, Nat.reduceLeDiff, Nat.reduceEqDiff, Nat.reduceLT, Nat.reducePow, Nat.reduceBneDiff, Nat.reduceBNe, Int.reduceBEq, Int.reduceEq, Int.reduceLT, Int.reduceLE, Int.reduceToNat, String.reduceBEq]))
  all_goals (simp_all)
theorem c111 {n : Int} {dst : Option Tmp} {σ : S} {K : S → Prop} (hK : S.ret σ dst [.a (B (n == 3 || n == 4))] K) : callV Tryd.prog GL 111 [.a (I n)] dst σ K :=
  call_dat (t111 n) hK
theorem q111 {n : Int} {σ : S} {KR : R → Prop} (hK : KR (retR [(B (n == 3 || n == 4))])) : callVQ Tryd.prog GL 111 [.a (I n)] σ KR :=
  callQ_dat (res := [(B (n == 3 || n == 4))]) (t111 n) hK
def refRight (e : Ev) : Bool :=
  !(decide (e.kind < 0) || decide (e.kind > 9) || decide (e.tx < 0) || decide (e.tx > 9999) || decide (e.var < 0) || decide (e.var > 7) || !(decide (-2147483648 ≤ e.val) && decide (e.val ≤ 2147483647))) &&
  ((e.kind == 2 || e.kind == 4) || e.var == 0) && ((e.kind == 3 || e.kind == 4) || e.val == 0)
theorem t82 (e : Ev) : Holds Tryd.prog GL 82 [e.a] [.a (B (refRight e))] := by
  refine fn_holds (vs := [.tmp 2]) (by kernel_rfl) Tryd.func82 rfl rfl (by kernel_rfl) (by kernel_rfl) rfl ?_
  obtain ⟨kd, tx, vr, vl⟩ := e
  generalize hr : refRight ⟨kd, tx, vr, vl⟩ = r
  simp only [refRight] at hr
  generalize hn : (decide (-2147483648 ≤ vl) && decide (vl ≤ 2147483647)) = b1 at hr
  generalize h1 : (kd == 2 || kd == 4) = b2 at hr
  generalize h2 : (kd == 3 || kd == 4) = b3 at hr
  (refine of_gate ?_; repeat' ((first | (with_reducible refine gate_in ?_) | (with_reducible refine spK_intro ?_ ?_ <;> intro hp) | (with_reducible refine brK_intro ?_ ?_ <;> intro hb <;> try rw [hb]) | (with_reducible refine draw_in (by unfold DrawOk; decide +kernel) ?_) | (with_reducible apply c109) | (with_reducible apply c110) | (with_reducible apply c111)) <;> try simp only [↓PR, PO, PC, PX, tyI, tyF, tyX, tyL, tyK, tyB, tyE, tyM, tyP, tyQ, Nat.reduceBEq, Nat.reduceAdd, Nat.reduceMul, Nat.reduceSub, Nat.reduceLeDiff, Nat.reduceEqDiff, Nat.reduceLT, Nat.reducePow, Nat.reduceBneDiff, Nat.reduceBNe, Int.reduceBEq, Int.reduceEq, Int.reduceLT, Int.reduceLE, Int.reduceToNat, String.reduceBEq, hn, h1, h2]))
  all_goals (subst hr; simp_all)
theorem c82 {e : Ev} {dst : Option Tmp} {σ : S} {K : S → Prop} (hK : S.ret σ dst [.a (B (refRight e))] K) : callV Tryd.prog GL 82 [.a (e.a)] dst σ K :=
  call_dat (t82 e) hK
theorem q82 {e : Ev} {σ : S} {KR : R → Prop} (hK : KR (retR [(B (refRight e))])) : callVQ Tryd.prog GL 82 [.a (e.a)] σ KR :=
  callQ_dat (res := [(B (refRight e))]) (t82 e) hK
theorem t94 (l : List Int) (x : Int) : Holds Tryd.prog GL 94 [intsA l, I x] [.a (B (l.any (fun y => x == y)))] := by
  refine fn_holds_is (vs := [.tmp 4]) (by kernel_rfl) Tryd.func94 rfl rfl (by kernel_rfl) (by kernel_rfl) rfl fun his => ?_
  have hlen := his.1.len
  rw [List.length_map] at hlen
  simp only [↓PR, PO, PC, PX, tyI, tyF, tyX, tyL, tyK, tyB, tyE, tyM, tyP, tyQ, Nat.reduceBEq, Nat.reduceAdd, Nat.reduceMul, Nat.reduceSub, Nat.reduceLeDiff, Nat.reduceEqDiff, Nat.reduceLT, Nat.reducePow, Nat.reduceBneDiff, Nat.reduceBNe, Int.reduceBEq, Int.reduceEq, Int.reduceLT, Int.reduceLE, Int.reduceToNat, String.reduceBEq, List.length_map]
  refine awp_loopA (fun k : Nat => [(1, .a (I x)), (7, .a (intsA l)), (8, .a (I l.length)), (9, .a (I k))]) (fun _ => []) (fun k => k ≤ l.length ∧ noneTo (fun y => x == y) l k) (l.length - ·) 0 ?_ ?_ ⟨Nat.zero_le _, noneTo_0⟩ ?_
  · simp only [↓PR, PO, PC, PX, tyI, tyF, tyX, tyL, tyK, tyB, tyE, tyM, tyP, tyQ, Nat.reduceBEq, Nat.reduceAdd, Nat.reduceMul, Nat.reduceSub, Nat.reduceLeDiff, Nat.reduceEqDiff, Nat.reduceLT, Nat.reducePow, Nat.reduceBneDiff, Nat.reduceBNe, Int.reduceBEq, Int.reduceEq, Int.reduceLT, Int.reduceLE, Int.reduceToNat, String.reduceBEq] <;> rfl
  · simp only [↓PR, PO, PC, PX, tyI, tyF, tyX, tyL, tyK, tyB, tyE, tyM, tyP, tyQ, Nat.reduceBEq, Nat.reduceAdd, Nat.reduceMul, Nat.reduceSub, Nat.reduceLeDiff, Nat.reduceEqDiff, Nat.reduceLT, Nat.reducePow, Nat.reduceBneDiff, Nat.reduceBNe, Int.reduceBEq, Int.reduceEq, Int.reduceLT, Int.reduceLE, Int.reduceToNat, String.reduceBEq]
  intro k j ⟨hk, hl⟩
  (refine of_gate ?_; repeat' ((first | (with_reducible refine gate_in ?_) | (with_reducible refine spK_intro ?_ ?_ <;> intro hp) | (with_reducible refine brK_intro ?_ ?_ <;> intro hb <;> try rw [hb]) | (with_reducible refine draw_in (by unfold DrawOk; decide +kernel) ?_)) <;> try simp only [↓PR, PO, PC, PX, tyI, tyF, tyX, tyL, tyK, tyB, tyE, tyM, tyP, tyQ, Nat.reduceBEq, Nat.reduceAdd, Nat.reduceMul, Nat.reduceSub, Nat.reduceLeDiff, Nat.reduceEqDiff, Nat.reduceLT, Nat.reducePow, Nat.reduceBneDiff, Nat.reduceBNe, Int.reduceBEq, Int.reduceEq, Int.reduceLT, Int.reduceLE, Int.reduceToNat, String.reduceBEq]))
  · have hkl : k < l.length := by omega
    have hx : l[k]? = some l[k] := List.getElem?_eq_getElem hkl
    have hw := wrap_succ hkl hlen
    (refine of_gate ?_; repeat' ((first | (with_reducible refine gate_in ?_) | (with_reducible refine spK_intro ?_ ?_ <;> intro hp) | (with_reducible refine brK_intro ?_ ?_ <;> intro hb <;> try rw [hb]) | (with_reducible refine draw_in (by unfold DrawOk; decide +kernel) ?_)) <;> try simp only [↓PR, PO, PC, PX, tyI, tyF, tyX, tyL, tyK, tyB, tyE, tyM, tyP, tyQ, Nat.reduceBEq, Nat.reduceAdd, Nat.reduceMul, Nat.reduceSub, Nat.reduceLeDiff, Nat.reduceEqDiff, Nat.reduceLT, Nat.reducePow, Nat.reduceBneDiff, Nat.reduceBNe, Int.reduceBEq, Int.reduceEq, Int.reduceLT, Int.reduceLE, Int.reduceToNat, String.reduceBEq, hx, ienc_eq, hw]))
    · exact (List.any_eq_true.2 ⟨_, List.getElem_mem hkl, by simpa using hp.symm⟩).symm
    · exact ⟨k + 1, by simp only [↓PR, PO, PC, PX, tyI, tyF, tyX, tyL, tyK, tyB, tyE, tyM, tyP, tyQ, Nat.reduceBEq, Nat.reduceAdd, Nat.reduceMul, Nat.reduceSub, Nat.reduceLeDiff, Nat.reduceEqDiff, Nat.reduceLT, Nat.reducePow, Nat.reduceBneDiff, Nat.reduceBNe, Int.reduceBEq, Int.reduceEq, Int.reduceLT, Int.reduceLE, Int.reduceToNat, String.reduceBEq], by simp only [↓PR, PO, PC, PX, tyI, tyF, tyX, tyL, tyK, tyB, tyE, tyM, tyP, tyQ, Nat.reduceBEq, Nat.reduceAdd, Nat.reduceMul, Nat.reduceSub, Nat.reduceLeDiff, Nat.reduceEqDiff, Nat.reduceLT, Nat.reducePow, Nat.reduceBneDiff, Nat.reduceBNe, Int.reduceBEq, Int.reduceEq, Int.reduceLT, Int.reduceLE, Int.reduceToNat, String.reduceBEq], ⟨hkl, noneTo_s hkl hl (by simpa using fun h => hp h.symm)⟩, by dsimp only; omega⟩
  · have : l.any (fun y => x == y) = false := by
      rw [List.any_eq_false]; intro y hy
      have := hl y (by rw [List.take_of_length_le (by omega)]; exact hy)
      simpa using this
    rw [this]
theorem t64 (h : List Ev) (hl60 : h.length ≤ 60) : Holds Tryd.prog GL 64 [evsA h] [.a (intsA (namesE h))] := by
  refine fn_holds_is (vs := [.tmp 2]) (by kernel_rfl) Tryd.func64 rfl rfl (by kernel_rfl) (by kernel_rfl) rfl fun his => ?_
  simp only [↓PR, PO, PC, PX, tyI, tyF, tyX, tyL, tyK, tyB, tyE, tyM, tyP, tyQ, Nat.reduceBEq, Nat.reduceAdd, Nat.reduceMul, Nat.reduceSub, Nat.reduceLeDiff, Nat.reduceEqDiff, Nat.reduceLT, Nat.reducePow, Nat.reduceBneDiff, Nat.reduceBNe, Int.reduceBEq, Int.reduceEq, Int.reduceLT, Int.reduceLE, Int.reduceToNat, String.reduceBEq, List.length_map]
  refine awp_loopA (fun k : Nat => [(3, .own 6), (7, .a (evsA h)), (8, .a (I h.length)), (9, .a (I k))]) (fun k => [(6, .log 3 1 ((namesE (h.take k)).map ienc))]) (fun k => k ≤ h.length) (h.length - ·) 0 ?_ ?_ (Nat.zero_le _) ?_
  · simp only [↓PR, PO, PC, PX, tyI, tyF, tyX, tyL, tyK, tyB, tyE, tyM, tyP, tyQ, Nat.reduceBEq, Nat.reduceAdd, Nat.reduceMul, Nat.reduceSub, Nat.reduceLeDiff, Nat.reduceEqDiff, Nat.reduceLT, Nat.reducePow, Nat.reduceBneDiff, Nat.reduceBNe, Int.reduceBEq, Int.reduceEq, Int.reduceLT, Int.reduceLE, Int.reduceToNat, String.reduceBEq] <;> rfl
  · simp only [↓PR, PO, PC, PX, tyI, tyF, tyX, tyL, tyK, tyB, tyE, tyM, tyP, tyQ, Nat.reduceBEq, Nat.reduceAdd, Nat.reduceMul, Nat.reduceSub, Nat.reduceLeDiff, Nat.reduceEqDiff, Nat.reduceLT, Nat.reducePow, Nat.reduceBneDiff, Nat.reduceBNe, Int.reduceBEq, Int.reduceEq, Int.reduceLT, Int.reduceLE, Int.reduceToNat, String.reduceBEq] <;> rfl
  intro k j hk
  (refine of_gate ?_; repeat' ((first | (with_reducible refine gate_in ?_) | (with_reducible refine spK_intro ?_ ?_ <;> intro hp) | (with_reducible refine brK_intro ?_ ?_ <;> intro hb <;> try rw [hb]) | (with_reducible refine draw_in (by unfold DrawOk; decide +kernel) ?_)) <;> try simp only [↓PR, PO, PC, PX, tyI, tyF, tyX, tyL, tyK, tyB, tyE, tyM, tyP, tyQ, Nat.reduceBEq, Nat.reduceAdd, Nat.reduceMul, Nat.reduceSub, Nat.reduceLeDiff, Nat.reduceEqDiff, Nat.reduceLT, Nat.reducePow, Nat.reduceBneDiff, Nat.reduceBNe, Int.reduceBEq, Int.reduceEq, Int.reduceLT, Int.reduceLE, Int.reduceToNat, String.reduceBEq]))
  · have hkl : k < h.length := by omega
    have hx : h[k]? = some h[k] := List.getElem?_eq_getElem hkl
    have hw := wrap_succ (n := h.length) hkl (by simp only [maxLen]; omega)
    (refine of_gate ?_; repeat' ((first | (with_reducible refine gate_in ?_) | (with_reducible refine spK_intro ?_ ?_ <;> intro hp) | (with_reducible refine brK_intro ?_ ?_ <;> intro hb <;> try rw [hb]) | (with_reducible refine draw_in (by unfold DrawOk; decide +kernel) ?_)) <;> try simp only [↓PR, PO, PC, PX, tyI, tyF, tyX, tyL, tyK, tyB, tyE, tyM, tyP, tyQ, Nat.reduceBEq, Nat.reduceAdd, Nat.reduceMul, Nat.reduceSub, Nat.reduceLeDiff, Nat.reduceEqDiff, Nat.reduceLT, Nat.reducePow, Nat.reduceBneDiff, Nat.reduceBNe, Int.reduceBEq, Int.reduceEq, Int.reduceLT, Int.reduceLE, Int.reduceToNat, String.reduceBEq, hx, Ev.enc_eq, hw]))
    refine call_own _ (t94 (namesE (h.take k)) h[k].tx) (by simp only [↓PR, PO, PC, PX, tyI, tyF, tyX, tyL, tyK, tyB, tyE, tyM, tyP, tyQ, Nat.reduceBEq, Nat.reduceAdd, Nat.reduceMul, Nat.reduceSub, Nat.reduceLeDiff, Nat.reduceEqDiff, Nat.reduceLT, Nat.reducePow, Nat.reduceBneDiff, Nat.reduceBNe, Int.reduceBEq, Int.reduceEq, Int.reduceLT, Int.reduceLE, Int.reduceToNat, String.reduceBEq, argsA, argA]) rfl ?_
    (refine of_gate ?_; repeat' ((first | (with_reducible refine gate_in ?_) | (with_reducible refine spK_intro ?_ ?_ <;> intro hp) | (with_reducible refine brK_intro ?_ ?_ <;> intro hb <;> try rw [hb]) | (with_reducible refine draw_in (by unfold DrawOk; decide +kernel) ?_)) <;> try simp only [↓PR, PO, PC, PX, tyI, tyF, tyX, tyL, tyK, tyB, tyE, tyM, tyP, tyQ, Nat.reduceBEq, Nat.reduceAdd, Nat.reduceMul, Nat.reduceSub, Nat.reduceLeDiff, Nat.reduceEqDiff, Nat.reduceLT, Nat.reducePow, Nat.reduceBneDiff, Nat.reduceBNe, Int.reduceBEq, Int.reduceEq, Int.reduceLT, Int.reduceLE, Int.reduceToNat, String.reduceBEq, hx, Ev.enc_eq, hw]))
    · have hany : ((namesE (h.take k)).any fun y => h[k].tx == y) = false := by simpa using hb
      have hs : namesE (h.take (k + 1)) = namesE (h.take k) ++ [h[k].tx] := by rw [names_s hkl, nameStep, hany]; rfl
      have hle := names_le (h.take k)
      rw [List.length_take] at hle
      exact ⟨by rw [List.length_map]; omega, k + 1, by simp only [↓PR, PO, PC, PX, tyI, tyF, tyX, tyL, tyK, tyB, tyE, tyM, tyP, tyQ, Nat.reduceBEq, Nat.reduceAdd, Nat.reduceMul, Nat.reduceSub, Nat.reduceLeDiff, Nat.reduceEqDiff, Nat.reduceLT, Nat.reducePow, Nat.reduceBneDiff, Nat.reduceBNe, Int.reduceBEq, Int.reduceEq, Int.reduceLT, Int.reduceLE, Int.reduceToNat, String.reduceBEq], by simp only [↓PR, PO, PC, PX, tyI, tyF, tyX, tyL, tyK, tyB, tyE, tyM, tyP, tyQ, Nat.reduceBEq, Nat.reduceAdd, Nat.reduceMul, Nat.reduceSub, Nat.reduceLeDiff, Nat.reduceEqDiff, Nat.reduceLT, Nat.reducePow, Nat.reduceBneDiff, Nat.reduceBNe, Int.reduceBEq, Int.reduceEq, Int.reduceLT, Int.reduceLE, Int.reduceToNat, String.reduceBEq, hs, List.map_append, ienc_eq], hkl, by dsimp only; omega⟩
    · have hany : ((namesE (h.take k)).any fun y => h[k].tx == y) = true := by simpa using hb
      have hs : namesE (h.take (k + 1)) = namesE (h.take k) := by rw [names_s hkl, nameStep, hany]; rfl
      exact ⟨k + 1, by simp only [↓PR, PO, PC, PX, tyI, tyF, tyX, tyL, tyK, tyB, tyE, tyM, tyP, tyQ, Nat.reduceBEq, Nat.reduceAdd, Nat.reduceMul, Nat.reduceSub, Nat.reduceLeDiff, Nat.reduceEqDiff, Nat.reduceLT, Nat.reducePow, Nat.reduceBneDiff, Nat.reduceBNe, Int.reduceBEq, Int.reduceEq, Int.reduceLT, Int.reduceLE, Int.reduceToNat, String.reduceBEq], by simp only [↓PR, PO, PC, PX, tyI, tyF, tyX, tyL, tyK, tyB, tyE, tyM, tyP, tyQ, Nat.reduceBEq, Nat.reduceAdd, Nat.reduceMul, Nat.reduceSub, Nat.reduceLeDiff, Nat.reduceEqDiff, Nat.reduceLT, Nat.reducePow, Nat.reduceBneDiff, Nat.reduceBNe, Int.reduceBEq, Int.reduceEq, Int.reduceLT, Int.reduceLE, Int.reduceToNat, String.reduceBEq, hs], hkl, by dsimp only; omega⟩
  · rw [List.take_of_length_le (by omega)]
def refRightH (h : List Ev) : Bool := h.all refRight && decide (h.length ≤ 60) && decide ((namesE h).length ≤ 6)
theorem t46 (h : List Ev) : Holds Tryd.prog GL 46 [evsA h] [.a (B (refRightH h))] := by
  refine fn_holds_is (vs := [.tmp 2]) (by kernel_rfl) Tryd.func46 rfl rfl (by kernel_rfl) (by kernel_rfl) rfl fun his => ?_
  have hlen := his.1.len
  rw [List.length_map] at hlen
  simp only [↓PR, PO, PC, PX, tyI, tyF, tyX, tyL, tyK, tyB, tyE, tyM, tyP, tyQ, Nat.reduceBEq, Nat.reduceAdd, Nat.reduceMul, Nat.reduceSub, Nat.reduceLeDiff, Nat.reduceEqDiff, Nat.reduceLT, Nat.reducePow, Nat.reduceBneDiff, Nat.reduceBNe, Int.reduceBEq, Int.reduceEq, Int.reduceLT, Int.reduceLE, Int.reduceToNat, String.reduceBEq, List.length_map]
  refine awp_loopA (fun k : Nat => [(0, .a (evsA h)), (5, .a (evsA h)), (6, .a (I h.length)), (7, .a (I k))]) (fun _ => []) (fun k => k ≤ h.length ∧ noneTo (fun e => !refRight e) h k) (h.length - ·) 0 ?_ ?_ ⟨Nat.zero_le _, noneTo_0⟩ ?_
  · simp only [↓PR, PO, PC, PX, tyI, tyF, tyX, tyL, tyK, tyB, tyE, tyM, tyP, tyQ, Nat.reduceBEq, Nat.reduceAdd, Nat.reduceMul, Nat.reduceSub, Nat.reduceLeDiff, Nat.reduceEqDiff, Nat.reduceLT, Nat.reducePow, Nat.reduceBneDiff, Nat.reduceBNe, Int.reduceBEq, Int.reduceEq, Int.reduceLT, Int.reduceLE, Int.reduceToNat, String.reduceBEq] <;> rfl
  · simp only [↓PR, PO, PC, PX, tyI, tyF, tyX, tyL, tyK, tyB, tyE, tyM, tyP, tyQ, Nat.reduceBEq, Nat.reduceAdd, Nat.reduceMul, Nat.reduceSub, Nat.reduceLeDiff, Nat.reduceEqDiff, Nat.reduceLT, Nat.reducePow, Nat.reduceBneDiff, Nat.reduceBNe, Int.reduceBEq, Int.reduceEq, Int.reduceLT, Int.reduceLE, Int.reduceToNat, String.reduceBEq]
  intro k j ⟨hk, hl⟩
  (refine of_gate ?_; repeat' ((first | (with_reducible refine gate_in ?_) | (with_reducible refine spK_intro ?_ ?_ <;> intro hp) | (with_reducible refine brK_intro ?_ ?_ <;> intro hb <;> try rw [hb]) | (with_reducible refine draw_in (by unfold DrawOk; decide +kernel) ?_)) <;> try simp only [↓PR, PO, PC, PX, tyI, tyF, tyX, tyL, tyK, tyB, tyE, tyM, tyP, tyQ, Nat.reduceBEq, Nat.reduceAdd, Nat.reduceMul, Nat.reduceSub, Nat.reduceLeDiff, Nat.reduceEqDiff, Nat.reduceLT, Nat.reducePow, Nat.reduceBneDiff, Nat.reduceBNe, Int.reduceBEq, Int.reduceEq, Int.reduceLT, Int.reduceLE, Int.reduceToNat, String.reduceBEq, List.length_map]))
  · have hkl : k < h.length := by omega
    have hx : h[k]? = some h[k] := List.getElem?_eq_getElem hkl
    have hw := wrap_succ hkl hlen
    (refine of_gate ?_; repeat' ((first | (with_reducible refine gate_in ?_) | (with_reducible refine spK_intro ?_ ?_ <;> intro hp) | (with_reducible refine brK_intro ?_ ?_ <;> intro hb <;> try rw [hb]) | (with_reducible refine draw_in (by unfold DrawOk; decide +kernel) ?_) | (with_reducible apply c82)) <;> try simp only [↓PR, PO, PC, PX, tyI, tyF, tyX, tyL, tyK, tyB, tyE, tyM, tyP, tyQ, Nat.reduceBEq, Nat.reduceAdd, Nat.reduceMul, Nat.reduceSub, Nat.reduceLeDiff, Nat.reduceEqDiff, Nat.reduceLT, Nat.reducePow, Nat.reduceBneDiff, Nat.reduceBNe, Int.reduceBEq, Int.reduceEq, Int.reduceLT, Int.reduceLE, Int.reduceToNat, String.reduceBEq, hx, Ev.enc_eq, hw]))
    · have hbad : h.all refRight = false := by
        rw [List.all_eq_false]; exact ⟨_, List.getElem_mem hkl, by simpa using hb⟩
      simp [refRightH, hbad]
    · exact ⟨k + 1, by simp only [↓PR, PO, PC, PX, tyI, tyF, tyX, tyL, tyK, tyB, tyE, tyM, tyP, tyQ, Nat.reduceBEq, Nat.reduceAdd, Nat.reduceMul, Nat.reduceSub, Nat.reduceLeDiff, Nat.reduceEqDiff, Nat.reduceLT, Nat.reducePow, Nat.reduceBneDiff, Nat.reduceBNe, Int.reduceBEq, Int.reduceEq, Int.reduceLT, Int.reduceLE, Int.reduceToNat, String.reduceBEq], by simp only [↓PR, PO, PC, PX, tyI, tyF, tyX, tyL, tyK, tyB, tyE, tyM, tyP, tyQ, Nat.reduceBEq, Nat.reduceAdd, Nat.reduceMul, Nat.reduceSub, Nat.reduceLeDiff, Nat.reduceEqDiff, Nat.reduceLT, Nat.reducePow, Nat.reduceBneDiff, Nat.reduceBNe, Int.reduceBEq, Int.reduceEq, Int.reduceLT, Int.reduceLE, Int.reduceToNat, String.reduceBEq], ⟨hkl, noneTo_s hkl hl hb⟩, by dsimp only; omega⟩
  · have hall : h.all refRight = true := by
      rw [List.all_eq_true]; intro e he
      have := hl e (by rw [List.take_of_length_le (by omega)]; exact he)
      simpa using this
    have h60 : h.length ≤ 60 := by omega
    refine call_dat (t64 h h60) ?_
    (refine of_gate ?_; repeat' ((first | (with_reducible refine gate_in ?_) | (with_reducible refine spK_intro ?_ ?_ <;> intro hp) | (with_reducible refine brK_intro ?_ ?_ <;> intro hb <;> try rw [hb]) | (with_reducible refine draw_in (by unfold DrawOk; decide +kernel) ?_)) <;> try simp only [↓PR, PO, PC, PX, tyI, tyF, tyX, tyL, tyK, tyB, tyE, tyM, tyP, tyQ, Nat.reduceBEq, Nat.reduceAdd, Nat.reduceMul, Nat.reduceSub, Nat.reduceLeDiff, Nat.reduceEqDiff, Nat.reduceLT, Nat.reducePow, Nat.reduceBneDiff, Nat.reduceBNe, Int.reduceBEq, Int.reduceEq, Int.reduceLT, Int.reduceLE, Int.reduceToNat, String.reduceBEq, List.length_map]))
    · simp [refRightH, hall, h60, show (namesE h).length ≤ 6 by omega]
    · simp [refRightH, hall, h60, show ¬ (namesE h).length ≤ 6 by omega]
  · have hall : h.all refRight = true := by
      rw [List.all_eq_true]; intro e he
      have := hl e (by rw [List.take_of_length_le (by omega)]; exact he)
      simpa using this
    simp [refRightH, show ¬ h.length ≤ 60 by omega]
theorem c46 {h : List Ev} {dst : Option Tmp} {σ : S} {K : S → Prop} (hK : S.ret σ dst [.a (B (refRightH h))] K) : callV Tryd.prog GL 46 [.a (evsA h)] dst σ K :=
  call_dat (t46 h) hK
theorem q46 {h : List Ev} {σ : S} {KR : R → Prop} (hK : KR (retR [(B (refRightH h))])) : callVQ Tryd.prog GL 46 [.a (evsA h)] σ KR :=
  callQ_dat (res := [(B (refRightH h))]) (t46 h) hK
/-! ### Layer 5 -/
def may (last kind : Int) : Bool :=
  if last = -1 then kind == 0 else if last = 0 then kind == 1 || kind == 9 else if last = 1 ∨ last = 3 ∨ last = 5 then kind == 2 || kind == 4 || kind == 6 || kind == 8 else
  if last = 2 then kind == 3 || kind == 9 else if last = 4 then kind == 5 || kind == 9 else if last = 6 then kind == 7 || kind == 9 else if last = 8 then kind == 9 else false
theorem t81 (l k : Int) : Holds Tryd.prog GL 81 [I l, I k] [.a (B (may l k))] := by
  refine fn_holds (vs := [.tmp 4]) (by kernel_rfl) Tryd.func81 rfl rfl (by kernel_rfl) (by kernel_rfl) rfl ?_
  generalize hr : may l k = r
  unfold may at hr
  (refine of_gate ?_; repeat' ((first | (with_reducible refine gate_in ?_) | (with_reducible refine spK_intro ?_ ?_ <;> intro hp) | (with_reducible refine brK_intro ?_ ?_ <;> intro hb <;> try rw [hb]) | (with_reducible refine draw_in (by unfold DrawOk; decide +kernel) ?_)) <;> try simp only [↓PR, PO, PC, PX, tyI, tyF, tyX, tyL, tyK, tyB, tyE, tyM, tyP, tyQ, Nat.reduceBEq, Nat.reduceAdd, Nat.reduceMul, Nat.reduceSub, Nat.reduceLeDiff, Nat.reduceEqDiff, Nat.reduceLT, Nat.reducePow, Nat.reduceBneDiff, Nat.reduceBNe, Int.reduceBEq, Int.reduceEq, Int.reduceLT, Int.reduceLE, Int.reduceToNat, String.reduceBEq]))
  all_goals (subst hr; simp_all)
theorem c81 {l k : Int} {dst : Option Tmp} {σ : S} {K : S → Prop} (hK : S.ret σ dst [.a (B (may l k))] K) : callV Tryd.prog GL 81 [.a (I l), .a (I k)] dst σ K :=
  call_dat (t81 l k) hK
theorem q81 {l k : Int} {σ : S} {KR : R → Prop} (hK : KR (retR [(B (may l k))])) : callVQ Tryd.prog GL 81 [.a (I l), .a (I k)] σ KR :=
  callQ_dat (res := [(B (may l k))]) (t81 l k) hK
def lastStep (tx : Int) (out : Int) (e : Ev) : Int := if e.tx = tx then e.kind else out
def lastK (h : List Ev) (tx : Int) : Int := h.foldl (lastStep tx) (-1)
theorem last_s {h : List Ev} {k : Nat} {tx : Int} (hk : k < h.length) : lastK (h.take (k + 1)) tx = lastStep tx (lastK (h.take k) tx) h[k] := by
  rw [List.take_succ_eq_append_getElem hk, lastK, List.foldl_append]; rfl
theorem t66 (h : List Ev) (tx : Int) : Holds Tryd.prog GL 66 [evsA h, I tx] [.a (I (lastK h tx))] := by
  refine fn_holds_is (vs := [.tmp 4]) (by kernel_rfl) Tryd.func66 rfl rfl (by kernel_rfl) (by kernel_rfl) rfl fun his => ?_
  have hlen := his.1.len
  rw [List.length_map] at hlen
  simp only [↓PR, PO, PC, PX, tyI, tyF, tyX, tyL, tyK, tyB, tyE, tyM, tyP, tyQ, Nat.reduceBEq, Nat.reduceAdd, Nat.reduceMul, Nat.reduceSub, Nat.reduceLeDiff, Nat.reduceEqDiff, Nat.reduceLT, Nat.reducePow, Nat.reduceBneDiff, Nat.reduceBNe, Int.reduceBEq, Int.reduceEq, Int.reduceLT, Int.reduceLE, Int.reduceToNat, String.reduceBEq, List.length_map]
  refine awp_loopA (fun k : Nat => [(1, .a (I tx)), (5, .a (I (lastK (h.take k) tx))), (8, .a (evsA h)), (9, .a (I h.length)), (10, .a (I k))]) (fun _ => []) (fun k => k ≤ h.length) (h.length - ·) 0 ?_ ?_ (Nat.zero_le _) ?_
  · simp only [↓PR, PO, PC, PX, tyI, tyF, tyX, tyL, tyK, tyB, tyE, tyM, tyP, tyQ, Nat.reduceBEq, Nat.reduceAdd, Nat.reduceMul, Nat.reduceSub, Nat.reduceLeDiff, Nat.reduceEqDiff, Nat.reduceLT, Nat.reducePow, Nat.reduceBneDiff, Nat.reduceBNe, Int.reduceBEq, Int.reduceEq, Int.reduceLT, Int.reduceLE, Int.reduceToNat, String.reduceBEq] <;> rfl
  · simp only [↓PR, PO, PC, PX, tyI, tyF, tyX, tyL, tyK, tyB, tyE, tyM, tyP, tyQ, Nat.reduceBEq, Nat.reduceAdd, Nat.reduceMul, Nat.reduceSub, Nat.reduceLeDiff, Nat.reduceEqDiff, Nat.reduceLT, Nat.reducePow, Nat.reduceBneDiff, Nat.reduceBNe, Int.reduceBEq, Int.reduceEq, Int.reduceLT, Int.reduceLE, Int.reduceToNat, String.reduceBEq]
  intro k j hk
  (refine of_gate ?_; repeat' ((first | (with_reducible refine gate_in ?_) | (with_reducible refine spK_intro ?_ ?_ <;> intro hp) | (with_reducible refine brK_intro ?_ ?_ <;> intro hb <;> try rw [hb]) | (with_reducible refine draw_in (by unfold DrawOk; decide +kernel) ?_)) <;> try simp only [↓PR, PO, PC, PX, tyI, tyF, tyX, tyL, tyK, tyB, tyE, tyM, tyP, tyQ, Nat.reduceBEq, Nat.reduceAdd, Nat.reduceMul, Nat.reduceSub, Nat.reduceLeDiff, Nat.reduceEqDiff, Nat.reduceLT, Nat.reducePow, Nat.reduceBneDiff, Nat.reduceBNe, Int.reduceBEq, Int.reduceEq, Int.reduceLT, Int.reduceLE, Int.reduceToNat, String.reduceBEq]))
  · have hkl : k < h.length := by omega
    have hx : h[k]? = some h[k] := List.getElem?_eq_getElem hkl
    have hw := wrap_succ hkl hlen
    (refine of_gate ?_; repeat' ((first | (with_reducible refine gate_in ?_) | (with_reducible refine spK_intro ?_ ?_ <;> intro hp) | (with_reducible refine brK_intro ?_ ?_ <;> intro hb <;> try rw [hb]) | (with_reducible refine draw_in (by unfold DrawOk; decide +kernel) ?_)) <;> try simp only [↓PR, PO, PC, PX, tyI, tyF, tyX, tyL, tyK, tyB, tyE, tyM, tyP, tyQ, Nat.reduceBEq, Nat.reduceAdd, Nat.reduceMul, Nat.reduceSub, Nat.reduceLeDiff, Nat.reduceEqDiff, Nat.reduceLT, Nat.reducePow, Nat.reduceBneDiff, Nat.reduceBNe, Int.reduceBEq, Int.reduceEq, Int.reduceLT, Int.reduceLE, Int.reduceToNat, String.reduceBEq, hx, Ev.enc_eq, hw]))
    · have hs : lastK (h.take (k + 1)) tx = h[k].kind := by rw [last_s hkl, lastStep, if_pos hp]
      exact ⟨k + 1, by simp only [↓PR, PO, PC, PX, tyI, tyF, tyX, tyL, tyK, tyB, tyE, tyM, tyP, tyQ, Nat.reduceBEq, Nat.reduceAdd, Nat.reduceMul, Nat.reduceSub, Nat.reduceLeDiff, Nat.reduceEqDiff, Nat.reduceLT, Nat.reducePow, Nat.reduceBneDiff, Nat.reduceBNe, Int.reduceBEq, Int.reduceEq, Int.reduceLT, Int.reduceLE, Int.reduceToNat, String.reduceBEq, hs], by simp only [↓PR, PO, PC, PX, tyI, tyF, tyX, tyL, tyK, tyB, tyE, tyM, tyP, tyQ, Nat.reduceBEq, Nat.reduceAdd, Nat.reduceMul, Nat.reduceSub, Nat.reduceLeDiff, Nat.reduceEqDiff, Nat.reduceLT, Nat.reducePow, Nat.reduceBneDiff, Nat.reduceBNe, Int.reduceBEq, Int.reduceEq, Int.reduceLT, Int.reduceLE, Int.reduceToNat, String.reduceBEq], hkl, by dsimp only; omega⟩
    · have hs : lastK (h.take (k + 1)) tx = lastK (h.take k) tx := by rw [last_s hkl, lastStep, if_neg hp]
      exact ⟨k + 1, by simp only [↓PR, PO, PC, PX, tyI, tyF, tyX, tyL, tyK, tyB, tyE, tyM, tyP, tyQ, Nat.reduceBEq, Nat.reduceAdd, Nat.reduceMul, Nat.reduceSub, Nat.reduceLeDiff, Nat.reduceEqDiff, Nat.reduceLT, Nat.reducePow, Nat.reduceBneDiff, Nat.reduceBNe, Int.reduceBEq, Int.reduceEq, Int.reduceLT, Int.reduceLE, Int.reduceToNat, String.reduceBEq, hs], by simp only [↓PR, PO, PC, PX, tyI, tyF, tyX, tyL, tyK, tyB, tyE, tyM, tyP, tyQ, Nat.reduceBEq, Nat.reduceAdd, Nat.reduceMul, Nat.reduceSub, Nat.reduceLeDiff, Nat.reduceEqDiff, Nat.reduceLT, Nat.reducePow, Nat.reduceBneDiff, Nat.reduceBNe, Int.reduceBEq, Int.reduceEq, Int.reduceLT, Int.reduceLE, Int.reduceToNat, String.reduceBEq], hkl, by dsimp only; omega⟩
  · rw [List.take_of_length_le (by omega)]
theorem c66 {h : List Ev} {tx : Int} {dst : Option Tmp} {σ : S} {K : S → Prop} (hK : S.ret σ dst [.a (I (lastK h tx))] K) : callV Tryd.prog GL 66 [.a (evsA h), .a (I tx)] dst σ K :=
  call_dat (t66 h tx) hK
theorem q66 {h : List Ev} {tx : Int} {σ : S} {KR : R → Prop} (hK : KR (retR [(I (lastK h tx))])) : callVQ Tryd.prog GL 66 [.a (evsA h), .a (I tx)] σ KR :=
  callQ_dat (res := [(I (lastK h tx))]) (t66 h tx) hK
/-- Is it the place of an event that may not be there? -/
def badAt (h : List Ev) (k : Nat) : Bool := match h[k]? with
  | some e => !may (lastK (h.take k) e.tx) e.kind
  | none => false
def firstI (h : List Ev) : Nat := ((List.range h.length).find? (badAt h)).getD h.length
theorem first_hit {h : List Ev} {k : Nat} (hk : k < h.length) (hl : ∀ i, i < k → badAt h i = false) (hb : badAt h k = true) : firstI h = k := by
  have : (List.range h.length).find? (badAt h) = some k := by
    rw [List.find?_range_eq_some]
    exact ⟨hb, by simpa using hk, fun j hj => by simpa using hl j hj⟩
  simp [firstI, this]
theorem first_none {h : List Ev} {k : Nat} (hk : h.length ≤ k) (hl : ∀ i, i < k → badAt h i = false) : firstI h = h.length := by
  have : (List.range h.length).find? (badAt h) = none := by
    rw [List.find?_range_eq_none]
    exact fun i hi => by simpa using hl i (by omega)
  simp [firstI, this]
theorem t47 (h : List Ev) : Holds Tryd.prog GL 47 [evsA h] [.a (I (firstI h : Int))] := by
  refine fn_holds_is (vs := [.tmp 2]) (by kernel_rfl) Tryd.func47 rfl rfl (by kernel_rfl) (by kernel_rfl) rfl fun his => ?_
  have hlen := his.1.len
  rw [List.length_map] at hlen
  simp only [↓PR, PO, PC, PX, tyI, tyF, tyX, tyL, tyK, tyB, tyE, tyM, tyP, tyQ, Nat.reduceBEq, Nat.reduceAdd, Nat.reduceMul, Nat.reduceSub, Nat.reduceLeDiff, Nat.reduceEqDiff, Nat.reduceLT, Nat.reducePow, Nat.reduceBneDiff, Nat.reduceBNe, Int.reduceBEq, Int.reduceEq, Int.reduceLT, Int.reduceLE, Int.reduceToNat, String.reduceBEq, List.length_map]
  refine awp_loopA (fun k : Nat => [(0, .a (evsA h)), (5, .a (evsA h)), (6, .a (I h.length)), (7, .a (I k))]) (fun _ => []) (fun k => k ≤ h.length ∧ ∀ i, i < k → badAt h i = false) (h.length - ·) 0 ?_ ?_ ⟨Nat.zero_le _, fun i hi => by omega⟩ ?_
  · simp only [↓PR, PO, PC, PX, tyI, tyF, tyX, tyL, tyK, tyB, tyE, tyM, tyP, tyQ, Nat.reduceBEq, Nat.reduceAdd, Nat.reduceMul, Nat.reduceSub, Nat.reduceLeDiff, Nat.reduceEqDiff, Nat.reduceLT, Nat.reducePow, Nat.reduceBneDiff, Nat.reduceBNe, Int.reduceBEq, Int.reduceEq, Int.reduceLT, Int.reduceLE, Int.reduceToNat, String.reduceBEq] <;> rfl
  · simp only [↓PR, PO, PC, PX, tyI, tyF, tyX, tyL, tyK, tyB, tyE, tyM, tyP, tyQ, Nat.reduceBEq, Nat.reduceAdd, Nat.reduceMul, Nat.reduceSub, Nat.reduceLeDiff, Nat.reduceEqDiff, Nat.reduceLT, Nat.reducePow, Nat.reduceBneDiff, Nat.reduceBNe, Int.reduceBEq, Int.reduceEq, Int.reduceLT, Int.reduceLE, Int.reduceToNat, String.reduceBEq]
  intro k j ⟨hk, hl⟩
  (refine of_gate ?_; repeat' ((first | (with_reducible refine gate_in ?_) | (with_reducible refine spK_intro ?_ ?_ <;> intro hp) | (with_reducible refine brK_intro ?_ ?_ <;> intro hb <;> try rw [hb]) | (with_reducible refine draw_in (by unfold DrawOk; decide +kernel) ?_)) <;> try simp only [↓PR, PO, PC, PX, tyI, tyF, tyX, tyL, tyK, tyB, tyE, tyM, tyP, tyQ, Nat.reduceBEq, Nat.reduceAdd, Nat.reduceMul, Nat.reduceSub, Nat.reduceLeDiff, Nat.reduceEqDiff, Nat.reduceLT, Nat.reducePow, Nat.reduceBneDiff, Nat.reduceBNe, Int.reduceBEq, Int.reduceEq, Int.reduceLT, Int.reduceLE, Int.reduceToNat, String.reduceBEq, List.length_map]))
  · have hkl : k < h.length := by omega
    have hx : h[k]? = some h[k] := List.getElem?_eq_getElem hkl
    have hw := wrap_succ hkl hlen
    have h1 : (k : Int) ≤ (h.length : Int) := by omega
    have hb0 : badAt h k = !may (lastK (h.take k) h[k].tx) h[k].kind := by simp [badAt, hx]
    (refine of_gate ?_; repeat' ((first | (with_reducible refine gate_in ?_) | (with_reducible refine spK_intro ?_ ?_ <;> intro hp) | (with_reducible refine brK_intro ?_ ?_ <;> intro hb <;> try rw [hb]) | (with_reducible refine draw_in (by unfold DrawOk; decide +kernel) ?_) | (with_reducible apply q66) | (with_reducible apply q81)) <;> try simp only [↓PR, PO, PC, PX, tyI, tyF, tyX, tyL, tyK, tyB, tyE, tyM, tyP, tyQ, Nat.reduceBEq, Nat.reduceAdd, Nat.reduceMul, Nat.reduceSub, Nat.reduceLeDiff, Nat.reduceEqDiff, Nat.reduceLT, Nat.reducePow, Nat.reduceBneDiff, Nat.reduceBNe, Int.reduceBEq, Int.reduceEq, Int.reduceLT, Int.reduceLE, Int.reduceToNat, String.reduceBEq, hx, Ev.enc_eq, hw, h1, Int.le_refl, Int.toNat_zero, List.length_map, ← List.map_take]))
    · rw [first_hit hkl hl (by rw [hb0]; exact hb)]
    · refine ⟨k + 1, by simp only [↓PR, PO, PC, PX, tyI, tyF, tyX, tyL, tyK, tyB, tyE, tyM, tyP, tyQ, Nat.reduceBEq, Nat.reduceAdd, Nat.reduceMul, Nat.reduceSub, Nat.reduceLeDiff, Nat.reduceEqDiff, Nat.reduceLT, Nat.reducePow, Nat.reduceBneDiff, Nat.reduceBNe, Int.reduceBEq, Int.reduceEq, Int.reduceLT, Int.reduceLE, Int.reduceToNat, String.reduceBEq], by simp only [↓PR, PO, PC, PX, tyI, tyF, tyX, tyL, tyK, tyB, tyE, tyM, tyP, tyQ, Nat.reduceBEq, Nat.reduceAdd, Nat.reduceMul, Nat.reduceSub, Nat.reduceLeDiff, Nat.reduceEqDiff, Nat.reduceLT, Nat.reducePow, Nat.reduceBneDiff, Nat.reduceBNe, Int.reduceBEq, Int.reduceEq, Int.reduceLT, Int.reduceLE, Int.reduceToNat, String.reduceBEq], ⟨hkl, fun i hi => ?_⟩, by dsimp only; omega⟩
      by_cases hik : i < k
      · exact hl i hik
      · obtain rfl : i = k := by omega
        rw [hb0]; exact hb
  · rw [first_none (by omega) hl]
theorem c47 {h : List Ev} {dst : Option Tmp} {σ : S} {K : S → Prop} (hK : S.ret σ dst [.a (I (firstI h : Int))] K) : callV Tryd.prog GL 47 [.a (evsA h)] dst σ K :=
  call_dat (t47 h) hK
theorem q47 {h : List Ev} {σ : S} {KR : R → Prop} (hK : KR (retR [(I (firstI h : Int))])) : callVQ Tryd.prog GL 47 [.a (evsA h)] σ KR :=
  callQ_dat (res := [(I (firstI h : Int))]) (t47 h) hK
def whyI (h : List Ev) : Int := if refRightH h then (if firstI h < h.length then 6 else 0) else 1
theorem t19 (h : List Ev) : Holds Tryd.prog GL 19 [evsA h] [.a (I (whyI h))] := by
  refine fn_holds (vs := [.tmp 2]) (by kernel_rfl) Tryd.func19 rfl rfl (by kernel_rfl) (by kernel_rfl) rfl ?_
  (refine of_gate ?_; repeat' ((first | (with_reducible refine gate_in ?_) | (with_reducible refine spK_intro ?_ ?_ <;> intro hp) | (with_reducible refine brK_intro ?_ ?_ <;> intro hb <;> try rw [hb]) | (with_reducible refine draw_in (by unfold DrawOk; decide +kernel) ?_) | (with_reducible apply c46) | (with_reducible apply c47)) <;> try simp only [↓PR, PO, PC, PX, tyI, tyF, tyX, tyL, tyK, tyB, tyE, tyM, tyP, tyQ, Nat.reduceBEq, Nat.reduceAdd, Nat.reduceMul, Nat.reduceSub, Nat.reduceLeDiff, Nat.reduceEqDiff, Nat.reduceLT, Nat.reducePow, Nat.reduceBneDiff, Nat.reduceBNe, Int.reduceBEq, Int.reduceEq, Int.reduceLT, Int.reduceLE, Int.reduceToNat, String.reduceBEq, List.length_map]))
  · have hb : refRightH h = false := by simpa using hb
    simp [whyI, hb]
  · have hb : refRightH h = true := by simpa using hb
    simp [whyI, hb, show firstI h < h.length by omega]
  · have hb : refRightH h = true := by simpa using hb
    simp [whyI, hb, show ¬ firstI h < h.length by omega]
theorem c19 {h : List Ev} {dst : Option Tmp} {σ : S} {K : S → Prop} (hK : S.ret σ dst [.a (I (whyI h))] K) : callV Tryd.prog GL 19 [.a (evsA h)] dst σ K :=
  call_dat (t19 h) hK
theorem q19 {h : List Ev} {σ : S} {KR : R → Prop} (hK : KR (retR [(I (whyI h))])) : callVQ Tryd.prog GL 19 [.a (evsA h)] σ KR :=
  callQ_dat (res := [(I (whyI h))]) (t19 h) hK
theorem t34 (a b : List Int) : Holds Tryd.prog GL 34 [intsA a, intsA b] [.a (B (a == b))] := by
  refine fn_holds_is (vs := [.tmp 4]) (by kernel_rfl) Tryd.func34 rfl rfl (by kernel_rfl) (by kernel_rfl) rfl fun his => ?_
  have hlen := his.1.len
  rw [List.length_map] at hlen
  (refine of_gate ?_; repeat' ((first | (with_reducible refine gate_in ?_) | (with_reducible refine spK_intro ?_ ?_ <;> intro hp) | (with_reducible refine brK_intro ?_ ?_ <;> intro hb <;> try rw [hb]) | (with_reducible refine draw_in (by unfold DrawOk; decide +kernel) ?_)) <;> try simp only [↓PR, PO, PC, PX, tyI, tyF, tyX, tyL, tyK, tyB, tyE, tyM, tyP, tyQ, Nat.reduceBEq, Nat.reduceAdd, Nat.reduceMul, Nat.reduceSub, Nat.reduceLeDiff, Nat.reduceEqDiff, Nat.reduceLT, Nat.reducePow, Nat.reduceBneDiff, Nat.reduceBNe, Int.reduceBEq, Int.reduceEq, Int.reduceLT, Int.reduceLE, Int.reduceToNat, String.reduceBEq, List.length_map]))
  · have hab := hp
    refine awp_loopA (fun k : Nat => [(0, .a (intsA a)), (1, .a (intsA b)), (12, .a (I a.length)), (13, .a (I k))]) (fun _ => []) (fun k => k ≤ a.length ∧ a.take k = b.take k) (a.length - ·) 0 ?_ ?_ ⟨Nat.zero_le _, rfl⟩ ?_
    · simp only [↓PR, PO, PC, PX, tyI, tyF, tyX, tyL, tyK, tyB, tyE, tyM, tyP, tyQ, Nat.reduceBEq, Nat.reduceAdd, Nat.reduceMul, Nat.reduceSub, Nat.reduceLeDiff, Nat.reduceEqDiff, Nat.reduceLT, Nat.reducePow, Nat.reduceBneDiff, Nat.reduceBNe, Int.reduceBEq, Int.reduceEq, Int.reduceLT, Int.reduceLE, Int.reduceToNat, String.reduceBEq] <;> rfl
    · simp only [↓PR, PO, PC, PX, tyI, tyF, tyX, tyL, tyK, tyB, tyE, tyM, tyP, tyQ, Nat.reduceBEq, Nat.reduceAdd, Nat.reduceMul, Nat.reduceSub, Nat.reduceLeDiff, Nat.reduceEqDiff, Nat.reduceLT, Nat.reducePow, Nat.reduceBneDiff, Nat.reduceBNe, Int.reduceBEq, Int.reduceEq, Int.reduceLT, Int.reduceLE, Int.reduceToNat, String.reduceBEq]
    intro k j ⟨hk, hl⟩
    (refine of_gate ?_; repeat' ((first | (with_reducible refine gate_in ?_) | (with_reducible refine spK_intro ?_ ?_ <;> intro hp) | (with_reducible refine brK_intro ?_ ?_ <;> intro hb <;> try rw [hb]) | (with_reducible refine draw_in (by unfold DrawOk; decide +kernel) ?_)) <;> try simp only [↓PR, PO, PC, PX, tyI, tyF, tyX, tyL, tyK, tyB, tyE, tyM, tyP, tyQ, Nat.reduceBEq, Nat.reduceAdd, Nat.reduceMul, Nat.reduceSub, Nat.reduceLeDiff, Nat.reduceEqDiff, Nat.reduceLT, Nat.reducePow, Nat.reduceBneDiff, Nat.reduceBNe, Int.reduceBEq, Int.reduceEq, Int.reduceLT, Int.reduceLE, Int.reduceToNat, String.reduceBEq]))
    · have hkl : k < a.length := by omega
      have hkb : k < b.length := by omega
      have hx : a[k]? = some a[k] := List.getElem?_eq_getElem hkl
      have hy : b[k]? = some b[k] := List.getElem?_eq_getElem hkb
      have hw := wrap_succ hkl hlen
      (refine of_gate ?_; repeat' ((first | (with_reducible refine gate_in ?_) | (with_reducible refine spK_intro ?_ ?_ <;> intro hp) | (with_reducible refine brK_intro ?_ ?_ <;> intro hb <;> try rw [hb]) | (with_reducible refine draw_in (by unfold DrawOk; decide +kernel) ?_)) <;> try simp only [↓PR, PO, PC, PX, tyI, tyF, tyX, tyL, tyK, tyB, tyE, tyM, tyP, tyQ, Nat.reduceBEq, Nat.reduceAdd, Nat.reduceMul, Nat.reduceSub, Nat.reduceLeDiff, Nat.reduceEqDiff, Nat.reduceLT, Nat.reducePow, Nat.reduceBneDiff, Nat.reduceBNe, Int.reduceBEq, Int.reduceEq, Int.reduceLT, Int.reduceLE, Int.reduceToNat, String.reduceBEq, hx, hy, ienc_eq, hw]))
      · exact ⟨k + 1, by simp only [↓PR, PO, PC, PX, tyI, tyF, tyX, tyL, tyK, tyB, tyE, tyM, tyP, tyQ, Nat.reduceBEq, Nat.reduceAdd, Nat.reduceMul, Nat.reduceSub, Nat.reduceLeDiff, Nat.reduceEqDiff, Nat.reduceLT, Nat.reducePow, Nat.reduceBneDiff, Nat.reduceBNe, Int.reduceBEq, Int.reduceEq, Int.reduceLT, Int.reduceLE, Int.reduceToNat, String.reduceBEq], by simp only [↓PR, PO, PC, PX, tyI, tyF, tyX, tyL, tyK, tyB, tyE, tyM, tyP, tyQ, Nat.reduceBEq, Nat.reduceAdd, Nat.reduceMul, Nat.reduceSub, Nat.reduceLeDiff, Nat.reduceEqDiff, Nat.reduceLT, Nat.reducePow, Nat.reduceBneDiff, Nat.reduceBNe, Int.reduceBEq, Int.reduceEq, Int.reduceLT, Int.reduceLE, Int.reduceToNat, String.reduceBEq], ⟨hkl, by rw [List.take_succ_eq_append_getElem hkl, List.take_succ_eq_append_getElem hkb, hl, hp]⟩, by dsimp only; omega⟩
      · have : a ≠ b := fun e => by subst e; exact hp rfl
        simp [this]
    · have : a = b := by
        rw [List.take_of_length_le (by omega), List.take_of_length_le (by omega)] at hl; exact hl
      simp [this]
  · have : a ≠ b := fun e => by subst e; exact hp rfl
    simp [this]
theorem c34 {a b : List Int} {dst : Option Tmp} {σ : S} {K : S → Prop} (hK : S.ret σ dst [.a (B (a == b))] K) : callV Tryd.prog GL 34 [.a (intsA a), .a (intsA b)] dst σ K :=
  call_dat (t34 a b) hK
theorem q34 {a b : List Int} {σ : S} {KR : R → Prop} (hK : KR (retR [(B (a == b))])) : callVQ Tryd.prog GL 34 [.a (intsA a), .a (intsA b)] σ KR :=
  callQ_dat (res := [(B (a == b))]) (t34 a b) hK
end Go.VC
