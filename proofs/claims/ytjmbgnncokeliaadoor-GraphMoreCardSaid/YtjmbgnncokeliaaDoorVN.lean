/- Which texts may be: layer 2. -/
import Derived.Test.YtjmbgnncokeliaaDoorVMe
set_option maxRecDepth 100000
set_option linter.unusedSimpArgs false
set_option linter.unusedVariables false
namespace Go.VC
open Go.RowKit Go.Proofs Go.IntWalk
theorem t122 (n a b : Int) : Holds Tryd.prog GL 122 [I n, I a, I b] [.a (B (decide (a ≤ n) && decide (n ≤ b)))] := by
  refine fn_holds (vs := [.tmp 6]) (by kernel_rfl) Tryd.func122 rfl rfl (by kernel_rfl) (by kernel_rfl) rfl ?_
  (refine of_gate ?_; repeat' ((first | (with_reducible refine gate_in ?_) | (with_reducible refine spK_intro ?_ ?_ <;> intro hp) | (with_reducible refine brK_intro ?_ ?_ <;> intro hb <;> try rw [hb]) | (with_reducible refine draw_in (by unfold DrawOk; decide +kernel) ?_)) <;> try simp only [↓PR, PO, PC, PX, tyI, tyF, tyX, tyL, tyK, tyB, tyE, tyM, tyP, tyQ, Nat.reduceBEq, Nat.reduceAdd, Nat.reduceMul, Nat.reduceSub, Nat.reduceLeDiff, Nat.reduceEqDiff, Nat.reduceLT, Nat.reducePow, Nat.reduceBneDiff, Nat.reduceBNe, Int.reduceBEq, Int.reduceEq, Int.reduceLT, Int.reduceLE, Int.reduceToNat, String.reduceBEq]))
  all_goals (simp_all <;> omega)
theorem c122 {n a b : Int} {dst : Option Tmp} {σ : S} {K : S → Prop} (hK : S.ret σ dst [.a (B (decide (a ≤ n) && decide (n ≤ b)))] K) : callV Tryd.prog GL 122 [.a (I n), .a (I a), .a (I b)] dst σ K :=
  call_dat (t122 n a b) hK
theorem q122 {n a b : Int} {σ : S} {KR : R → Prop} (hK : KR (retR [(B (decide (a ≤ n) && decide (n ≤ b)))])) : callVQ Tryd.prog GL 122 [.a (I n), .a (I a), .a (I b)] σ KR :=
  callQ_dat (res := [(B (decide (a ≤ n) && decide (n ≤ b)))]) (t122 n a b) hK
theorem t70 (l : List Int) (x : Int) : Holds Tryd.prog GL 70 [intsA l, I x] [.a (I (idxOf (fun y => x == y) l))] := by
  refine fn_holds_is (vs := [.tmp 4]) (by kernel_rfl) Tryd.func70 rfl rfl (by kernel_rfl) (by kernel_rfl) rfl fun his => ?_
  have hlen := his.1.len
  rw [List.length_map] at hlen
  simp only [↓PR, PO, PC, PX, tyI, tyF, tyX, tyL, tyK, tyB, tyE, tyM, tyP, tyQ, Nat.reduceBEq, Nat.reduceAdd, Nat.reduceMul, Nat.reduceSub, Nat.reduceLeDiff, Nat.reduceEqDiff, Nat.reduceLT, Nat.reducePow, Nat.reduceBneDiff, Nat.reduceBNe, Int.reduceBEq, Int.reduceEq, Int.reduceLT, Int.reduceLE, Int.reduceToNat, String.reduceBEq, List.length_map]
  refine awp_loopA (fun k : Nat => [(0, .a (intsA l)), (1, .a (I x)), (7, .a (I l.length)), (8, .a (I k))]) (fun _ => []) (fun k => k ≤ l.length ∧ noneTo (fun y => x == y) l k) (l.length - ·) 0 ?_ ?_ ⟨Nat.zero_le _, noneTo_0⟩ ?_
  · simp only [↓PR, PO, PC, PX, tyI, tyF, tyX, tyL, tyK, tyB, tyE, tyM, tyP, tyQ, Nat.reduceBEq, Nat.reduceAdd, Nat.reduceMul, Nat.reduceSub, Nat.reduceLeDiff, Nat.reduceEqDiff, Nat.reduceLT, Nat.reducePow, Nat.reduceBneDiff, Nat.reduceBNe, Int.reduceBEq, Int.reduceEq, Int.reduceLT, Int.reduceLE, Int.reduceToNat, String.reduceBEq]
  · simp only [↓PR, PO, PC, PX, tyI, tyF, tyX, tyL, tyK, tyB, tyE, tyM, tyP, tyQ, Nat.reduceBEq, Nat.reduceAdd, Nat.reduceMul, Nat.reduceSub, Nat.reduceLeDiff, Nat.reduceEqDiff, Nat.reduceLT, Nat.reducePow, Nat.reduceBneDiff, Nat.reduceBNe, Int.reduceBEq, Int.reduceEq, Int.reduceLT, Int.reduceLE, Int.reduceToNat, String.reduceBEq]
  intro k j ⟨hk, hl⟩
  (refine of_gate ?_; repeat' ((first | (with_reducible refine gate_in ?_) | (with_reducible refine spK_intro ?_ ?_ <;> intro hp) | (with_reducible refine brK_intro ?_ ?_ <;> intro hb <;> try rw [hb]) | (with_reducible refine draw_in (by unfold DrawOk; decide +kernel) ?_)) <;> try simp only [↓PR, PO, PC, PX, tyI, tyF, tyX, tyL, tyK, tyB, tyE, tyM, tyP, tyQ, Nat.reduceBEq, Nat.reduceAdd, Nat.reduceMul, Nat.reduceSub, Nat.reduceLeDiff, Nat.reduceEqDiff, Nat.reduceLT, Nat.reducePow, Nat.reduceBneDiff, Nat.reduceBNe, Int.reduceBEq, Int.reduceEq, Int.reduceLT, Int.reduceLE, Int.reduceToNat, String.reduceBEq]))
  · have hkl : k < l.length := by omega
    have hx : l[k]? = some l[k] := List.getElem?_eq_getElem hkl
    have hw := wrap_succ hkl hlen
    (refine of_gate ?_; repeat' ((first | (with_reducible refine gate_in ?_) | (with_reducible refine spK_intro ?_ ?_ <;> intro hp) | (with_reducible refine brK_intro ?_ ?_ <;> intro hb <;> try rw [hb]) | (with_reducible refine draw_in (by unfold DrawOk; decide +kernel) ?_)) <;> try simp only [↓PR, PO, PC, PX, tyI, tyF, tyX, tyL, tyK, tyB, tyE, tyM, tyP, tyQ, Nat.reduceBEq, Nat.reduceAdd, Nat.reduceMul, Nat.reduceSub, Nat.reduceLeDiff, Nat.reduceEqDiff, Nat.reduceLT, Nat.reducePow, Nat.reduceBneDiff, Nat.reduceBNe, Int.reduceBEq, Int.reduceEq, Int.reduceLT, Int.reduceLE, Int.reduceToNat, String.reduceBEq, hx, ienc_eq, hw]))
    · exact (idx_hit hkl hl (by simpa using hp)).symm
    · exact ⟨k + 1, by simp only [↓PR, PO, PC, PX, tyI, tyF, tyX, tyL, tyK, tyB, tyE, tyM, tyP, tyQ, Nat.reduceBEq, Nat.reduceAdd, Nat.reduceMul, Nat.reduceSub, Nat.reduceLeDiff, Nat.reduceEqDiff, Nat.reduceLT, Nat.reducePow, Nat.reduceBneDiff, Nat.reduceBNe, Int.reduceBEq, Int.reduceEq, Int.reduceLT, Int.reduceLE, Int.reduceToNat, String.reduceBEq], by simp only [↓PR, PO, PC, PX, tyI, tyF, tyX, tyL, tyK, tyB, tyE, tyM, tyP, tyQ, Nat.reduceBEq, Nat.reduceAdd, Nat.reduceMul, Nat.reduceSub, Nat.reduceLeDiff, Nat.reduceEqDiff, Nat.reduceLT, Nat.reducePow, Nat.reduceBneDiff, Nat.reduceBNe, Int.reduceBEq, Int.reduceEq, Int.reduceLT, Int.reduceLE, Int.reduceToNat, String.reduceBEq], ⟨hkl, noneTo_s hkl hl (by simpa using hp)⟩, by dsimp only; omega⟩
  · exact (idx_none (by omega) hl).symm
theorem c70 {l : List Int} {x : Int} {dst : Option Tmp} {σ : S} {K : S → Prop} (hK : S.ret σ dst [.a (I (idxOf (fun y => x == y) l))] K) : callV Tryd.prog GL 70 [.a (intsA l), .a (I x)] dst σ K :=
  call_dat (t70 l x) hK
theorem q70 {l : List Int} {x : Int} {σ : S} {KR : R → Prop} (hK : KR (retR [(I (idxOf (fun y => x == y) l))])) : callVQ Tryd.prog GL 70 [.a (intsA l), .a (I x)] σ KR :=
  callQ_dat (res := [(I (idxOf (fun y => x == y) l))]) (t70 l x) hK
theorem t55 (l : List Int) (x : Int) : Holds Tryd.prog GL 55 [intsA l, I x] [.a (B (l.any (fun y => x == y)))] := by
  refine fn_holds (vs := [.tmp 4]) (by kernel_rfl) Tryd.func55 rfl rfl (by kernel_rfl) (by kernel_rfl) rfl ?_
  rw [← idx_ge]
  (refine of_gate ?_; repeat' ((first | (with_reducible refine gate_in ?_) | (with_reducible refine spK_intro ?_ ?_ <;> intro hp) | (with_reducible refine brK_intro ?_ ?_ <;> intro hb <;> try rw [hb]) | (with_reducible refine draw_in (by unfold DrawOk; decide +kernel) ?_) | (with_reducible apply c70)) <;> try simp only [↓PR, PO, PC, PX, tyI, tyF, tyX, tyL, tyK, tyB, tyE, tyM, tyP, tyQ, Nat.reduceBEq, Nat.reduceAdd, Nat.reduceMul, Nat.reduceSub, Nat.reduceLeDiff, Nat.reduceEqDiff, Nat.reduceLT, Nat.reducePow, Nat.reduceBneDiff, Nat.reduceBNe, Int.reduceBEq, Int.reduceEq, Int.reduceLT, Int.reduceLE, Int.reduceToNat, String.reduceBEq]))
  all_goals simp_all
theorem c55 {l : List Int} {x : Int} {dst : Option Tmp} {σ : S} {K : S → Prop} (hK : S.ret σ dst [.a (B (l.any (fun y => x == y)))] K) : callV Tryd.prog GL 55 [.a (intsA l), .a (I x)] dst σ K :=
  call_dat (t55 l x) hK
theorem q55 {l : List Int} {x : Int} {σ : S} {KR : R → Prop} (hK : KR (retR [(B (l.any (fun y => x == y)))])) : callVQ Tryd.prog GL 55 [.a (intsA l), .a (I x)] σ KR :=
  callQ_dat (res := [(B (l.any (fun y => x == y)))]) (t55 l x) hK
/-- May an event be, by itself? -/
def rightE (e : Ev) : Bool :=
  decide (0 ≤ e.kind) && decide (e.kind ≤ 9) && decide (0 ≤ e.tx) && decide (e.tx ≤ 9999) &&
  (let p := kindB.getD e.kind.toNat (false, false)
   ((decide (0 ≤ e.var) && decide (e.var ≤ 7) && p.1) || e.var == 0) && ((decide (-2147483648 ≤ e.val) && decide (e.val ≤ 2147483647) && p.2) || e.val == 0))
theorem kind_at (k : Int) (h : 0 ≤ k) (h' : k < 10) : ∃ s r, (kindD kindW).drop (k.toNat * 3) = strD s :: dB (kindB.getD k.toNat (false, false)).1 :: dB (kindB.getD k.toNat (false, false)).2 :: r := by
  have hc : k = 0 ∨ k = 1 ∨ k = 2 ∨ k = 3 ∨ k = 4 ∨ k = 5 ∨ k = 6 ∨ k = 7 ∨ k = 8 ∨ k = 9 := by omega
  rcases hc with rfl | rfl | rfl | rfl | rfl | rfl | rfl | rfl | rfl | rfl <;> exact ⟨_, _, rfl⟩
theorem t105 (e : Ev) : Holds Tryd.prog GL 105 [e.a] [.a (B (rightE e))] := by
  refine fn_holds (vs := [.tmp 2]) (by kernel_rfl) Tryd.func105 rfl rfl (by kernel_rfl) (by kernel_rfl) rfl ?_
  obtain ⟨kd, tx, vr, vl⟩ := e
  by_cases hk : 0 ≤ kd ∧ kd < 10
  · obtain ⟨h1, h2⟩ := hk
    obtain ⟨s, r, hd⟩ := kind_at kd h1 h2
    have hl : 3 ≤ r.length + 1 + 1 + 1 := by omega
    have hr : rightE ⟨kd, tx, vr, vl⟩ = (decide (0 ≤ tx) && decide (tx ≤ 9999) && ((decide (0 ≤ vr) && decide (vr ≤ 7) && (kindB.getD kd.toNat (false, false)).1) || vr == 0) && ((decide (-2147483648 ≤ vl) && decide (vl ≤ 2147483647) && (kindB.getD kd.toNat (false, false)).2) || vl == 0)) := by
      have : kd ≤ 9 := by omega
      simp [rightE, h1, this, Bool.and_assoc]
    rw [hr]
    generalize (kindB.getD kd.toNat (false, false)).1 = p1 at *
    generalize (kindB.getD kd.toNat (false, false)).2 = p2 at *
    have h3 : kd ≤ 9 := by omega
    generalize hin1 : (decide (0 ≤ tx) && decide (tx ≤ 9999)) = b1
    generalize hin2 : (decide (0 ≤ vr) && decide (vr ≤ 7)) = b2
    generalize hin3 : (decide (-2147483648 ≤ vl) && decide (vl ≤ 2147483647)) = b3
    (refine of_gate ?_; repeat' ((first | (with_reducible refine gate_in ?_) | (with_reducible refine spK_intro ?_ ?_ <;> intro hp) | (with_reducible refine brK_intro ?_ ?_ <;> intro hb <;> try rw [hb]) | (with_reducible refine draw_in (by unfold DrawOk; decide +kernel) ?_) | (with_reducible apply c122)) <;> try simp only [↓PR, PO, PC, PX, tyI, tyF, tyX, tyL, tyK, tyB, tyE, tyM, tyP, tyQ, Nat.reduceBEq, Nat.reduceAdd, Nat.reduceMul, Nat.reduceSub, Nat.reduceLeDiff, Nat.reduceEqDiff, Nat.reduceLT, Nat.reducePow, Nat.reduceBneDiff, Nat.reduceBNe, Int.reduceBEq, Int.reduceEq, Int.reduceLT, Int.reduceLE, Int.reduceToNat, String.reduceBEq, glob0, hd, h1, h2, h3, hl, hin1, hin2, hin3, Bool.and_true, Bool.true_and]))
    all_goals simp_all
  · have hr : rightE ⟨kd, tx, vr, vl⟩ = false := by
      have : ¬ (0 ≤ kd) ∨ ¬ kd ≤ 9 := by omega
      rcases this with h | h <;> simp [rightE, h]
    have hin : (decide (0 ≤ kd) && decide (kd ≤ 9)) = false := by
      have : ¬ (0 ≤ kd) ∨ ¬ kd ≤ 9 := by omega
      rcases this with h | h <;> simp [h]
    rw [hr]
    (refine of_gate ?_; repeat' ((first | (with_reducible refine gate_in ?_) | (with_reducible refine spK_intro ?_ ?_ <;> intro hp) | (with_reducible refine brK_intro ?_ ?_ <;> intro hb <;> try rw [hb]) | (with_reducible refine draw_in (by unfold DrawOk; decide +kernel) ?_) | (with_reducible apply c122)) <;> try simp only [↓PR, PO, PC, PX, tyI, tyF, tyX, tyL, tyK, tyB, tyE, tyM, tyP, tyQ, Nat.reduceBEq, Nat.reduceAdd, Nat.reduceMul, Nat.reduceSub, Nat.reduceLeDiff, Nat.reduceEqDiff, Nat.reduceLT, Nat.reducePow, Nat.reduceBneDiff, Nat.reduceBNe, Int.reduceBEq, Int.reduceEq, Int.reduceLT, Int.reduceLE, Int.reduceToNat, String.reduceBEq, hin]))
theorem c105 {e : Ev} {dst : Option Tmp} {σ : S} {K : S → Prop} (hK : S.ret σ dst [.a (B (rightE e))] K) : callV Tryd.prog GL 105 [.a (e.a)] dst σ K :=
  call_dat (t105 e) hK
theorem q105 {e : Ev} {σ : S} {KR : R → Prop} (hK : KR (retR [(B (rightE e))])) : callVQ Tryd.prog GL 105 [.a (e.a)] σ KR :=
  callQ_dat (res := [(B (rightE e))]) (t105 e) hK
theorem t104 (e : Ev) : Holds Tryd.prog GL 104 [e.a] [.a (B (!rightE e))] := by
  refine fn_holds (vs := [.tmp 2]) (by kernel_rfl) Tryd.func104 rfl rfl (by kernel_rfl) (by kernel_rfl) rfl ?_
  (refine of_gate ?_; repeat' ((first | (with_reducible refine gate_in ?_) | (with_reducible refine spK_intro ?_ ?_ <;> intro hp) | (with_reducible refine brK_intro ?_ ?_ <;> intro hb <;> try rw [hb]) | (with_reducible refine draw_in (by unfold DrawOk; decide +kernel) ?_) | (with_reducible apply c105)) <;> try simp only [↓PR, PO, PC, PX, tyI, tyF, tyX, tyL, tyK, tyB, tyE, tyM, tyP, tyQ, Nat.reduceBEq, Nat.reduceAdd, Nat.reduceMul, Nat.reduceSub, Nat.reduceLeDiff, Nat.reduceEqDiff, Nat.reduceLT, Nat.reducePow, Nat.reduceBneDiff, Nat.reduceBNe, Int.reduceBEq, Int.reduceEq, Int.reduceLT, Int.reduceLE, Int.reduceToNat, String.reduceBEq]))
  all_goals simp_all
theorem c104 {e : Ev} {dst : Option Tmp} {σ : S} {K : S → Prop} (hK : S.ret σ dst [.a (B (!rightE e))] K) : callV Tryd.prog GL 104 [.a (e.a)] dst σ K :=
  call_dat (t104 e) hK
theorem q104 {e : Ev} {σ : S} {KR : R → Prop} (hK : KR (retR [(B (!rightE e))])) : callVQ Tryd.prog GL 104 [.a (e.a)] σ KR :=
  callQ_dat (res := [(B (!rightE e))]) (t104 e) hK
theorem t88 (h : List Ev) (f : FuncId) (p : Ev → Bool) (hf : ∀ e ∈ h, Holds Tryd.prog GL f [e.a] [.a (B (p e))]) : Holds Tryd.prog GL 88 [evsA h, .d (.fn f [])] [.a (I (idxOf p h))] := by
  refine fn_holds_is (vs := [.tmp 4]) (by kernel_rfl) Tryd.func88 rfl rfl (by kernel_rfl) (by kernel_rfl) rfl fun his => ?_
  have hlen := his.1.len
  rw [List.length_map] at hlen
  simp only [↓PR, PO, PC, PX, tyI, tyF, tyX, tyL, tyK, tyB, tyE, tyM, tyP, tyQ, Nat.reduceBEq, Nat.reduceAdd, Nat.reduceMul, Nat.reduceSub, Nat.reduceLeDiff, Nat.reduceEqDiff, Nat.reduceLT, Nat.reducePow, Nat.reduceBneDiff, Nat.reduceBNe, Int.reduceBEq, Int.reduceEq, Int.reduceLT, Int.reduceLE, Int.reduceToNat, String.reduceBEq, List.length_map]
  refine awp_loopA (fun k : Nat => [(0, .a (evsA h)), (1, .a (.d (.fn f []))), (7, .a (I h.length)), (8, .a (I k))]) (fun _ => []) (fun k => k ≤ h.length ∧ noneTo p h k) (h.length - ·) 0 ?_ ?_ ⟨Nat.zero_le _, noneTo_0⟩ ?_
  · simp only [↓PR, PO, PC, PX, tyI, tyF, tyX, tyL, tyK, tyB, tyE, tyM, tyP, tyQ, Nat.reduceBEq, Nat.reduceAdd, Nat.reduceMul, Nat.reduceSub, Nat.reduceLeDiff, Nat.reduceEqDiff, Nat.reduceLT, Nat.reducePow, Nat.reduceBneDiff, Nat.reduceBNe, Int.reduceBEq, Int.reduceEq, Int.reduceLT, Int.reduceLE, Int.reduceToNat, String.reduceBEq]
  · simp only [↓PR, PO, PC, PX, tyI, tyF, tyX, tyL, tyK, tyB, tyE, tyM, tyP, tyQ, Nat.reduceBEq, Nat.reduceAdd, Nat.reduceMul, Nat.reduceSub, Nat.reduceLeDiff, Nat.reduceEqDiff, Nat.reduceLT, Nat.reducePow, Nat.reduceBneDiff, Nat.reduceBNe, Int.reduceBEq, Int.reduceEq, Int.reduceLT, Int.reduceLE, Int.reduceToNat, String.reduceBEq]
  intro k j ⟨hk, hl⟩
  (refine of_gate ?_; repeat' ((first | (with_reducible refine gate_in ?_) | (with_reducible refine spK_intro ?_ ?_ <;> intro hp) | (with_reducible refine brK_intro ?_ ?_ <;> intro hb <;> try rw [hb]) | (with_reducible refine draw_in (by unfold DrawOk; decide +kernel) ?_)) <;> try simp only [↓PR, PO, PC, PX, tyI, tyF, tyX, tyL, tyK, tyB, tyE, tyM, tyP, tyQ, Nat.reduceBEq, Nat.reduceAdd, Nat.reduceMul, Nat.reduceSub, Nat.reduceLeDiff, Nat.reduceEqDiff, Nat.reduceLT, Nat.reducePow, Nat.reduceBneDiff, Nat.reduceBNe, Int.reduceBEq, Int.reduceEq, Int.reduceLT, Int.reduceLE, Int.reduceToNat, String.reduceBEq]))
  · have hkl : k < h.length := by omega
    have hx : h[k]? = some h[k] := List.getElem?_eq_getElem hkl
    have hw := wrap_succ hkl hlen
    (refine of_gate ?_; repeat' ((first | (with_reducible refine gate_in ?_) | (with_reducible refine spK_intro ?_ ?_ <;> intro hp) | (with_reducible refine brK_intro ?_ ?_ <;> intro hb <;> try rw [hb]) | (with_reducible refine draw_in (by unfold DrawOk; decide +kernel) ?_)) <;> try simp only [↓PR, PO, PC, PX, tyI, tyF, tyX, tyL, tyK, tyB, tyE, tyM, tyP, tyQ, Nat.reduceBEq, Nat.reduceAdd, Nat.reduceMul, Nat.reduceSub, Nat.reduceLeDiff, Nat.reduceEqDiff, Nat.reduceLT, Nat.reducePow, Nat.reduceBneDiff, Nat.reduceBNe, Int.reduceBEq, Int.reduceEq, Int.reduceLT, Int.reduceLE, Int.reduceToNat, String.reduceBEq, hx, Ev.enc_eq, hw]))
    refine call_dat (hf h[k] (List.getElem_mem hkl)) ?_
    (refine of_gate ?_; repeat' ((first | (with_reducible refine gate_in ?_) | (with_reducible refine spK_intro ?_ ?_ <;> intro hp) | (with_reducible refine brK_intro ?_ ?_ <;> intro hb <;> try rw [hb]) | (with_reducible refine draw_in (by unfold DrawOk; decide +kernel) ?_)) <;> try simp only [↓PR, PO, PC, PX, tyI, tyF, tyX, tyL, tyK, tyB, tyE, tyM, tyP, tyQ, Nat.reduceBEq, Nat.reduceAdd, Nat.reduceMul, Nat.reduceSub, Nat.reduceLeDiff, Nat.reduceEqDiff, Nat.reduceLT, Nat.reducePow, Nat.reduceBneDiff, Nat.reduceBNe, Int.reduceBEq, Int.reduceEq, Int.reduceLT, Int.reduceLE, Int.reduceToNat, String.reduceBEq, hx, Ev.enc_eq, hw]))
    · exact (idx_hit hkl hl hb).symm
    · exact ⟨k + 1, by simp only [↓PR, PO, PC, PX, tyI, tyF, tyX, tyL, tyK, tyB, tyE, tyM, tyP, tyQ, Nat.reduceBEq, Nat.reduceAdd, Nat.reduceMul, Nat.reduceSub, Nat.reduceLeDiff, Nat.reduceEqDiff, Nat.reduceLT, Nat.reducePow, Nat.reduceBneDiff, Nat.reduceBNe, Int.reduceBEq, Int.reduceEq, Int.reduceLT, Int.reduceLE, Int.reduceToNat, String.reduceBEq], by simp only [↓PR, PO, PC, PX, tyI, tyF, tyX, tyL, tyK, tyB, tyE, tyM, tyP, tyQ, Nat.reduceBEq, Nat.reduceAdd, Nat.reduceMul, Nat.reduceSub, Nat.reduceLeDiff, Nat.reduceEqDiff, Nat.reduceLT, Nat.reducePow, Nat.reduceBneDiff, Nat.reduceBNe, Int.reduceBEq, Int.reduceEq, Int.reduceLT, Int.reduceLE, Int.reduceToNat, String.reduceBEq], ⟨hkl, noneTo_s hkl hl hb⟩, by dsimp only; omega⟩
  · exact (idx_none (by omega) hl).symm
theorem t103 (h : List Ev) (f : FuncId) (p : Ev → Bool) (hf : ∀ e ∈ h, Holds Tryd.prog GL f [e.a] [.a (B (p e))]) : Holds Tryd.prog GL 103 [evsA h, .d (.fn f [])] [.a (B (h.any p))] := by
  refine fn_holds (vs := [.tmp 4]) (by kernel_rfl) Tryd.func103 rfl rfl (by kernel_rfl) (by kernel_rfl) rfl ?_
  rw [← idx_ge]
  (refine of_gate ?_; repeat' ((first | (with_reducible refine gate_in ?_) | (with_reducible refine spK_intro ?_ ?_ <;> intro hp) | (with_reducible refine brK_intro ?_ ?_ <;> intro hb <;> try rw [hb]) | (with_reducible refine draw_in (by unfold DrawOk; decide +kernel) ?_)) <;> try simp only [↓PR, PO, PC, PX, tyI, tyF, tyX, tyL, tyK, tyB, tyE, tyM, tyP, tyQ, Nat.reduceBEq, Nat.reduceAdd, Nat.reduceMul, Nat.reduceSub, Nat.reduceLeDiff, Nat.reduceEqDiff, Nat.reduceLT, Nat.reducePow, Nat.reduceBneDiff, Nat.reduceBNe, Int.reduceBEq, Int.reduceEq, Int.reduceLT, Int.reduceLE, Int.reduceToNat, String.reduceBEq]))
  refine call_dat (t88 h f p hf) ?_
  (refine of_gate ?_; repeat' ((first | (with_reducible refine gate_in ?_) | (with_reducible refine spK_intro ?_ ?_ <;> intro hp) | (with_reducible refine brK_intro ?_ ?_ <;> intro hb <;> try rw [hb]) | (with_reducible refine draw_in (by unfold DrawOk; decide +kernel) ?_)) <;> try simp only [↓PR, PO, PC, PX, tyI, tyF, tyX, tyL, tyK, tyB, tyE, tyM, tyP, tyQ, Nat.reduceBEq, Nat.reduceAdd, Nat.reduceMul, Nat.reduceSub, Nat.reduceLeDiff, Nat.reduceEqDiff, Nat.reduceLT, Nat.reducePow, Nat.reduceBneDiff, Nat.reduceBNe, Int.reduceBEq, Int.reduceEq, Int.reduceLT, Int.reduceLE, Int.reduceToNat, String.reduceBEq]))
  all_goals simp_all
/-- The transactions of events, as they come. -/
def nameStep (out : List Int) (e : Ev) : List Int := if out.any (fun y => e.tx == y) then out else out ++ [e.tx]
def namesE (h : List Ev) : List Int := h.foldl nameStep []
theorem names_s {h : List Ev} {k : Nat} (hk : k < h.length) : namesE (h.take (k + 1)) = nameStep (namesE (h.take k)) h[k] := by
  rw [List.take_succ_eq_append_getElem hk, namesE, List.foldl_append]; rfl
theorem names_le (h : List Ev) : (namesE h).length ≤ h.length := by
  have : ∀ (l : List Ev) (acc : List Int), (l.foldl nameStep acc).length ≤ acc.length + l.length := by
    intro l
    induction l with
    | nil => intro acc; simp
    | cons e l ih =>
      intro acc
      have h1 : (nameStep acc e).length ≤ acc.length + 1 := by unfold nameStep; split <;> simp
      have := ih (nameStep acc e)
      simp only [List.foldl_cons, List.length_cons]; omega
  simpa [namesE] using this h []
theorem t106 (h : List Ev) (hl60 : h.length ≤ 60) : Holds Tryd.prog GL 106 [evsA h] [.a (intsA (namesE h))] := by
  refine fn_holds_is (vs := [.tmp 2]) (by kernel_rfl) Tryd.func106 rfl rfl (by kernel_rfl) (by kernel_rfl) rfl fun his => ?_
  simp only [↓PR, PO, PC, PX, tyI, tyF, tyX, tyL, tyK, tyB, tyE, tyM, tyP, tyQ, Nat.reduceBEq, Nat.reduceAdd, Nat.reduceMul, Nat.reduceSub, Nat.reduceLeDiff, Nat.reduceEqDiff, Nat.reduceLT, Nat.reducePow, Nat.reduceBneDiff, Nat.reduceBNe, Int.reduceBEq, Int.reduceEq, Int.reduceLT, Int.reduceLE, Int.reduceToNat, String.reduceBEq, List.length_map]
  refine awp_loopA (fun k : Nat => [(3, .own 3), (6, .a (evsA h)), (7, .a (I h.length)), (8, .a (I k))]) (fun k => [(3, .log 3 1 ((namesE (h.take k)).map ienc))]) (fun k => k ≤ h.length) (h.length - ·) 0 ?_ ?_ (Nat.zero_le _) ?_
  · simp only [↓PR, PO, PC, PX, tyI, tyF, tyX, tyL, tyK, tyB, tyE, tyM, tyP, tyQ, Nat.reduceBEq, Nat.reduceAdd, Nat.reduceMul, Nat.reduceSub, Nat.reduceLeDiff, Nat.reduceEqDiff, Nat.reduceLT, Nat.reducePow, Nat.reduceBneDiff, Nat.reduceBNe, Int.reduceBEq, Int.reduceEq, Int.reduceLT, Int.reduceLE, Int.reduceToNat, String.reduceBEq]
  · simp only [↓PR, PO, PC, PX, tyI, tyF, tyX, tyL, tyK, tyB, tyE, tyM, tyP, tyQ, Nat.reduceBEq, Nat.reduceAdd, Nat.reduceMul, Nat.reduceSub, Nat.reduceLeDiff, Nat.reduceEqDiff, Nat.reduceLT, Nat.reducePow, Nat.reduceBneDiff, Nat.reduceBNe, Int.reduceBEq, Int.reduceEq, Int.reduceLT, Int.reduceLE, Int.reduceToNat, String.reduceBEq] <;> rfl
  intro k j hk
  (refine of_gate ?_; repeat' ((first | (with_reducible refine gate_in ?_) | (with_reducible refine spK_intro ?_ ?_ <;> intro hp) | (with_reducible refine brK_intro ?_ ?_ <;> intro hb <;> try rw [hb]) | (with_reducible refine draw_in (by unfold DrawOk; decide +kernel) ?_)) <;> try simp only [↓PR, PO, PC, PX, tyI, tyF, tyX, tyL, tyK, tyB, tyE, tyM, tyP, tyQ, Nat.reduceBEq, Nat.reduceAdd, Nat.reduceMul, Nat.reduceSub, Nat.reduceLeDiff, Nat.reduceEqDiff, Nat.reduceLT, Nat.reducePow, Nat.reduceBneDiff, Nat.reduceBNe, Int.reduceBEq, Int.reduceEq, Int.reduceLT, Int.reduceLE, Int.reduceToNat, String.reduceBEq]))
  · have hkl : k < h.length := by omega
    have hx : h[k]? = some h[k] := List.getElem?_eq_getElem hkl
    have hw := wrap_succ (n := h.length) hkl (by simp only [maxLen]; omega)
    (refine of_gate ?_; repeat' ((first | (with_reducible refine gate_in ?_) | (with_reducible refine spK_intro ?_ ?_ <;> intro hp) | (with_reducible refine brK_intro ?_ ?_ <;> intro hb <;> try rw [hb]) | (with_reducible refine draw_in (by unfold DrawOk; decide +kernel) ?_)) <;> try simp only [↓PR, PO, PC, PX, tyI, tyF, tyX, tyL, tyK, tyB, tyE, tyM, tyP, tyQ, Nat.reduceBEq, Nat.reduceAdd, Nat.reduceMul, Nat.reduceSub, Nat.reduceLeDiff, Nat.reduceEqDiff, Nat.reduceLT, Nat.reducePow, Nat.reduceBneDiff, Nat.reduceBNe, Int.reduceBEq, Int.reduceEq, Int.reduceLT, Int.reduceLE, Int.reduceToNat, String.reduceBEq, hx, Ev.enc_eq, hw]))
    refine call_own _ (t55 (namesE (h.take k)) h[k].tx) (by simp only [↓PR, PO, PC, PX, tyI, tyF, tyX, tyL, tyK, tyB, tyE, tyM, tyP, tyQ, Nat.reduceBEq, Nat.reduceAdd, Nat.reduceMul, Nat.reduceSub, Nat.reduceLeDiff, Nat.reduceEqDiff, Nat.reduceLT, Nat.reducePow, Nat.reduceBneDiff, Nat.reduceBNe, Int.reduceBEq, Int.reduceEq, Int.reduceLT, Int.reduceLE, Int.reduceToNat, String.reduceBEq, argsA, argA]) rfl ?_
    (refine of_gate ?_; repeat' ((first | (with_reducible refine gate_in ?_) | (with_reducible refine spK_intro ?_ ?_ <;> intro hp) | (with_reducible refine brK_intro ?_ ?_ <;> intro hb <;> try rw [hb]) | (with_reducible refine draw_in (by unfold DrawOk; decide +kernel) ?_)) <;> try simp only [↓PR, PO, PC, PX, tyI, tyF, tyX, tyL, tyK, tyB, tyE, tyM, tyP, tyQ, Nat.reduceBEq, Nat.reduceAdd, Nat.reduceMul, Nat.reduceSub, Nat.reduceLeDiff, Nat.reduceEqDiff, Nat.reduceLT, Nat.reducePow, Nat.reduceBneDiff, Nat.reduceBNe, Int.reduceBEq, Int.reduceEq, Int.reduceLT, Int.reduceLE, Int.reduceToNat, String.reduceBEq, hx, Ev.enc_eq, hw]))
    · have hany : ((namesE (h.take k)).any fun y => h[k].tx == y) = false := by simpa using hb
      have hs : namesE (h.take (k + 1)) = namesE (h.take k) ++ [h[k].tx] := by rw [names_s hkl, nameStep, hany]; rfl
      have hle := names_le (h.take k)
      rw [List.length_take] at hle
      exact ⟨by rw [List.length_map]; omega, k + 1, by simp only [↓PR, PO, PC, PX, tyI, tyF, tyX, tyL, tyK, tyB, tyE, tyM, tyP, tyQ, Nat.reduceBEq, Nat.reduceAdd, Nat.reduceMul, Nat.reduceSub, Nat.reduceLeDiff, Nat.reduceEqDiff, Nat.reduceLT, Nat.reducePow, Nat.reduceBneDiff, Nat.reduceBNe, Int.reduceBEq, Int.reduceEq, Int.reduceLT, Int.reduceLE, Int.reduceToNat, String.reduceBEq], by simp only [↓PR, PO, PC, PX, tyI, tyF, tyX, tyL, tyK, tyB, tyE, tyM, tyP, tyQ, Nat.reduceBEq, Nat.reduceAdd, Nat.reduceMul, Nat.reduceSub, Nat.reduceLeDiff, Nat.reduceEqDiff, Nat.reduceLT, Nat.reducePow, Nat.reduceBneDiff, Nat.reduceBNe, Int.reduceBEq, Int.reduceEq, Int.reduceLT, Int.reduceLE, Int.reduceToNat, String.reduceBEq, hs, List.map_append, ienc_eq], hkl, by dsimp only; omega⟩
    · have hany : ((namesE (h.take k)).any fun y => h[k].tx == y) = true := by simpa using hb
      have hs : namesE (h.take (k + 1)) = namesE (h.take k) := by rw [names_s hkl, nameStep, hany]; rfl
      exact ⟨k + 1, by simp only [↓PR, PO, PC, PX, tyI, tyF, tyX, tyL, tyK, tyB, tyE, tyM, tyP, tyQ, Nat.reduceBEq, Nat.reduceAdd, Nat.reduceMul, Nat.reduceSub, Nat.reduceLeDiff, Nat.reduceEqDiff, Nat.reduceLT, Nat.reducePow, Nat.reduceBneDiff, Nat.reduceBNe, Int.reduceBEq, Int.reduceEq, Int.reduceLT, Int.reduceLE, Int.reduceToNat, String.reduceBEq], by simp only [↓PR, PO, PC, PX, tyI, tyF, tyX, tyL, tyK, tyB, tyE, tyM, tyP, tyQ, Nat.reduceBEq, Nat.reduceAdd, Nat.reduceMul, Nat.reduceSub, Nat.reduceLeDiff, Nat.reduceEqDiff, Nat.reduceLT, Nat.reducePow, Nat.reduceBneDiff, Nat.reduceBNe, Int.reduceBEq, Int.reduceEq, Int.reduceLT, Int.reduceLE, Int.reduceToNat, String.reduceBEq, hs], hkl, by dsimp only; omega⟩
  · rw [List.take_of_length_le (by omega)]
/-- May events be? -/
def rightH (h : List Ev) : Bool := decide (h.length ≤ 60) && h.all rightE && decide ((namesE h).length ≤ 6)
theorem t77 (h : List Ev) : Holds Tryd.prog GL 77 [evsA h] [.a (B (rightH h))] := by
  refine fn_holds (vs := [.tmp 2]) (by kernel_rfl) Tryd.func77 rfl rfl (by kernel_rfl) (by kernel_rfl) rfl ?_
  (refine of_gate ?_; repeat' ((first | (with_reducible refine gate_in ?_) | (with_reducible refine spK_intro ?_ ?_ <;> intro hp) | (with_reducible refine brK_intro ?_ ?_ <;> intro hb <;> try rw [hb]) | (with_reducible refine draw_in (by unfold DrawOk; decide +kernel) ?_)) <;> try simp only [↓PR, PO, PC, PX, tyI, tyF, tyX, tyL, tyK, tyB, tyE, tyM, tyP, tyQ, Nat.reduceBEq, Nat.reduceAdd, Nat.reduceMul, Nat.reduceSub, Nat.reduceLeDiff, Nat.reduceEqDiff, Nat.reduceLT, Nat.reducePow, Nat.reduceBneDiff, Nat.reduceBNe, Int.reduceBEq, Int.reduceEq, Int.reduceLT, Int.reduceLE, Int.reduceToNat, String.reduceBEq, List.length_map]))
  · have : ¬ h.length ≤ 60 := by omega
    simp [rightH, this]
  · have h60 : h.length ≤ 60 := by omega
    have hall : (!(h.any fun e => !rightE e)) = h.all rightE := by simp [List.any_eq_not_all_not]
    refine call_dat (t103 h 104 (fun e => !rightE e) (fun e _ => t104 e)) ?_
    (refine of_gate ?_; repeat' ((first | (with_reducible refine gate_in ?_) | (with_reducible refine spK_intro ?_ ?_ <;> intro hp) | (with_reducible refine brK_intro ?_ ?_ <;> intro hb <;> try rw [hb]) | (with_reducible refine draw_in (by unfold DrawOk; decide +kernel) ?_)) <;> try simp only [↓PR, PO, PC, PX, tyI, tyF, tyX, tyL, tyK, tyB, tyE, tyM, tyP, tyQ, Nat.reduceBEq, Nat.reduceAdd, Nat.reduceMul, Nat.reduceSub, Nat.reduceLeDiff, Nat.reduceEqDiff, Nat.reduceLT, Nat.reducePow, Nat.reduceBneDiff, Nat.reduceBNe, Int.reduceBEq, Int.reduceEq, Int.reduceLT, Int.reduceLE, Int.reduceToNat, String.reduceBEq, hall]))
    · refine call_dat (t106 h h60) ?_
      (refine of_gate ?_; repeat' ((first | (with_reducible refine gate_in ?_) | (with_reducible refine spK_intro ?_ ?_ <;> intro hp) | (with_reducible refine brK_intro ?_ ?_ <;> intro hb <;> try rw [hb]) | (with_reducible refine draw_in (by unfold DrawOk; decide +kernel) ?_)) <;> try simp only [↓PR, PO, PC, PX, tyI, tyF, tyX, tyL, tyK, tyB, tyE, tyM, tyP, tyQ, Nat.reduceBEq, Nat.reduceAdd, Nat.reduceMul, Nat.reduceSub, Nat.reduceLeDiff, Nat.reduceEqDiff, Nat.reduceLT, Nat.reducePow, Nat.reduceBneDiff, Nat.reduceBNe, Int.reduceBEq, Int.reduceEq, Int.reduceLT, Int.reduceLE, Int.reduceToNat, String.reduceBEq, List.length_map]))
      · simp [rightH, h60, hb, show (namesE h).length ≤ 6 by omega]
      · simp [rightH, h60, hb, show ¬ (namesE h).length ≤ 6 by omega]
    · simp [rightH, hb]
theorem c77 {h : List Ev} {dst : Option Tmp} {σ : S} {K : S → Prop} (hK : S.ret σ dst [.a (B (rightH h))] K) : callV Tryd.prog GL 77 [.a (evsA h)] dst σ K :=
  call_dat (t77 h) hK
theorem q77 {h : List Ev} {σ : S} {KR : R → Prop} (hK : KR (retR [(B (rightH h))])) : callVQ Tryd.prog GL 77 [.a (evsA h)] σ KR :=
  callQ_dat (res := [(B (rightH h))]) (t77 h) hK
end Go.VC
