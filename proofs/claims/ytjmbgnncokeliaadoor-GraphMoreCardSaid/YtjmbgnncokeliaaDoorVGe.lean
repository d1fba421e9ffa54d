/- graph: order.After as a row of the receiver's own; Build. -/
import Derived.Test.YtjmbgnncokeliaaDoorVGd
set_option maxRecDepth 100000
set_option linter.unusedSimpArgs false
set_option linter.unusedVariables false
set_option linter.unnecessarySimpa false
namespace Go.VC
open Go.RowKit Go.Proofs Go.IntWalk
theorem t_fa {σ : S} {K : S → Prop} {d : Tmp} {e : TypeId} {z : Nat} {xs : List (List D)} {y : A} (h : decide (1000 + 16 * d + 2 ≤ 1000000000) = true) : S.ret σ (some d) [.fresh e z xs, .a y] K = K ((σ.newOb (1000 + 16 * d) (.log e z xs)).put (some d) (.tp [.own (1000 + 16 * d), .a y])) := by
  have : 1000 + 16 * d + 2 ≤ 1000000000 := by simpa using h
  simp [S.ret, baseId, Rv.isFresh, freshOf, regsOf, one, this, List.filter]
theorem al_fa {e : TypeId} {z : Nat} {xs : List (List D)} {k : IntKind} {n : Int} : aloneRs [.fresh e z xs, .a (.d (.v (.int k n)))] = True := by simp [aloneRs, Rv.isFresh, Rv.flat, A.flat, D.flat, List.filter]
theorem t57f (l : List Txn) (hl : l.length ≤ 30) : Holds Tryd.prog GL 57 [txnsA l] [.fresh 28 1 ((afterR l).map uenc)] := by
  refine fn_holds (vs := [.tmp 2]) (by kernel_rfl) Tryd.func57 rfl rfl (by kernel_rfl) (by kernel_rfl) rfl ?_
  (refine of_gate ?_; repeat' ((first | (with_reducible refine gate_in ?_) | (with_reducible refine spK_intro ?_ ?_ <;> intro hp) | (with_reducible refine brK_intro ?_ ?_ <;> intro hb <;> try rw [hb]) | (with_reducible refine draw_in (by unfold DrawOk; decide +kernel) ?_) | (with_reducible refine And.intro (by first | omega | (simp only [List.length_map, List.length_take]; omega)) ?_) | fail) <;> try simp only [↓PR, PO, PC, PX, tyI, tyF, tyX, tyL, tyK, tyB, tyE, tyM, tyP, tyQ, Nat.reduceBEq, Nat.reduceAdd, Nat.reduceMul, Nat.reduceSub, Nat.reduceLeDiff, Nat.reduceEqDiff, Nat.reduceLT, Nat.reducePow, Nat.reduceBneDiff, Nat.reduceBNe, Int.reduceBEq, Int.reduceEq, Int.reduceLT, Int.reduceLE, Int.reduceToNat, String.reduceBEq, List.length_map]))
  refine sem_make (e := 28) (ti := ⟨1, 4, false, [.int .u32 0]⟩) (z0 := .int .u32 0) (n := l.length) (by kernel_rfl) (by kernel_rfl) rfl rfl rfl (by simp only [↓PR, PO, PC, PX, tyI, tyF, tyX, tyL, tyK, tyB, tyE, tyM, tyP, tyQ, Nat.reduceBEq, Nat.reduceAdd, Nat.reduceMul, Nat.reduceSub, Nat.reduceLeDiff, Nat.reduceEqDiff, Nat.reduceLT, Nat.reducePow, Nat.reduceBneDiff, Nat.reduceBNe, Int.reduceBEq, Int.reduceEq, Int.reduceLT, Int.reduceLE, Int.reduceToNat, String.reduceBEq]) (by simp only [↓PR, PO, PC, PX, tyI, tyF, tyX, tyL, tyK, tyB, tyE, tyM, tyP, tyQ, Nat.reduceBEq, Nat.reduceAdd, Nat.reduceMul, Nat.reduceSub, Nat.reduceLeDiff, Nat.reduceEqDiff, Nat.reduceLT, Nat.reducePow, Nat.reduceBneDiff, Nat.reduceBNe, Int.reduceBEq, Int.reduceEq, Int.reduceLT, Int.reduceLE, Int.reduceToNat, String.reduceBEq]) (by omega) (by decide) ?_
  (refine of_gate ?_; repeat' ((first | (with_reducible refine gate_in ?_) | (with_reducible refine spK_intro ?_ ?_ <;> intro hp) | (with_reducible refine brK_intro ?_ ?_ <;> intro hb <;> try rw [hb]) | (with_reducible refine draw_in (by unfold DrawOk; decide +kernel) ?_) | (with_reducible apply c91) | (with_reducible refine And.intro (by first | omega | (simp only [List.length_map, List.length_take]; omega)) ?_) | fail) <;> try simp only [↓PR, PO, PC, PX, tyI, tyF, tyX, tyL, tyK, tyB, tyE, tyM, tyP, tyQ, Nat.reduceBEq, Nat.reduceAdd, Nat.reduceMul, Nat.reduceSub, Nat.reduceLeDiff, Nat.reduceEqDiff, Nat.reduceLT, Nat.reducePow, Nat.reduceBneDiff, Nat.reduceBNe, Int.reduceBEq, Int.reduceEq, Int.reduceLT, Int.reduceLE, Int.reduceToNat, String.reduceBEq, List.length_map]))
  refine range_sem (AftI l) (fun _ _ => False) (by simp only [↓PR, PO, PC, PX, tyI, tyF, tyX, tyL, tyK, tyB, tyE, tyM, tyP, tyQ, Nat.reduceBEq, Nat.reduceAdd, Nat.reduceMul, Nat.reduceSub, Nat.reduceLeDiff, Nat.reduceEqDiff, Nat.reduceLT, Nat.reducePow, Nat.reduceBneDiff, Nat.reduceBNe, Int.reduceBEq, Int.reduceEq, Int.reduceLT, Int.reduceLE, Int.reduceToNat, String.reduceBEq]) (iter117 l.length (by omega)) (fun x hx => ?_) (by kernel_rfl) (by kernel_rfl) (fun j τ h => ?_) (fun _ _ h => h) (fun L r => ?_) (fun L T r j x τ hr hx hI hrec => ?_) (fun τ hI => ?_) (fun _ _ h => h.elim)
  · obtain ⟨j, hj⟩ := List.getElem?_of_mem hx
    obtain ⟨i, k, _, _, _, rfl⟩ := pairsX_inv hj; rfl
  · obtain ⟨r1, r3, m1, m3, m8⟩ := h
    exact ⟨by simp only [↓PR, PO, PC, PX, tyI, tyF, tyX, tyL, tyK, tyB, tyE, tyM, tyP, tyQ, Nat.reduceBEq, Nat.reduceAdd, Nat.reduceMul, Nat.reduceSub, Nat.reduceLeDiff, Nat.reduceEqDiff, Nat.reduceLT, Nat.reducePow, Nat.reduceBneDiff, Nat.reduceBNe, Int.reduceBEq, Int.reduceEq, Int.reduceLT, Int.reduceLE, Int.reduceToNat, String.reduceBEq, PI, ud_r, r1], by simp only [↓PR, PO, PC, PX, tyI, tyF, tyX, tyL, tyK, tyB, tyE, tyM, tyP, tyQ, Nat.reduceBEq, Nat.reduceAdd, Nat.reduceMul, Nat.reduceSub, Nat.reduceLeDiff, Nat.reduceEqDiff, Nat.reduceLT, Nat.reducePow, Nat.reduceBneDiff, Nat.reduceBNe, Int.reduceBEq, Int.reduceEq, Int.reduceLT, Int.reduceLE, Int.reduceToNat, String.reduceBEq, PI, ud_r, r3], by rw [ud_m rfl, m1]; simp only [↓PR, PO, PC, PX, tyI, tyF, tyX, tyL, tyK, tyB, tyE, tyM, tyP, tyQ, Nat.reduceBEq, Nat.reduceAdd, Nat.reduceMul, Nat.reduceSub, Nat.reduceLeDiff, Nat.reduceEqDiff, Nat.reduceLT, Nat.reducePow, Nat.reduceBneDiff, Nat.reduceBNe, Int.reduceBEq, Int.reduceEq, Int.reduceLT, Int.reduceLE, Int.reduceToNat, String.reduceBEq, PI], by rw [ud_m rfl, m3]; simp only [↓PR, PO, PC, PX, tyI, tyF, tyX, tyL, tyK, tyB, tyE, tyM, tyP, tyQ, Nat.reduceBEq, Nat.reduceAdd, Nat.reduceMul, Nat.reduceSub, Nat.reduceLeDiff, Nat.reduceEqDiff, Nat.reduceLT, Nat.reducePow, Nat.reduceBneDiff, Nat.reduceBNe, Int.reduceBEq, Int.reduceEq, Int.reduceLT, Int.reduceLE, Int.reduceToNat, String.reduceBEq, PI], by rw [ud_m rfl, m8]; simp only [↓PR, PO, PC, PX, tyI, tyF, tyX, tyL, tyK, tyB, tyE, tyM, tyP, tyQ, Nat.reduceBEq, Nat.reduceAdd, Nat.reduceMul, Nat.reduceSub, Nat.reduceLeDiff, Nat.reduceEqDiff, Nat.reduceLT, Nat.reducePow, Nat.reduceBneDiff, Nat.reduceBNe, Int.reduceBEq, Int.reduceEq, Int.reduceLT, Int.reduceLE, Int.reduceToNat, String.reduceBEq, PI]⟩
  · refine ⟨by simp only [↓PR, PO, PC, PX, tyI, tyF, tyX, tyL, tyK, tyB, tyE, tyM, tyP, tyQ, Nat.reduceBEq, Nat.reduceAdd, Nat.reduceMul, Nat.reduceSub, Nat.reduceLeDiff, Nat.reduceEqDiff, Nat.reduceLT, Nat.reducePow, Nat.reduceBneDiff, Nat.reduceBNe, Int.reduceBEq, Int.reduceEq, Int.reduceLT, Int.reduceLE, Int.reduceToNat, String.reduceBEq], by simp only [↓PR, PO, PC, PX, tyI, tyF, tyX, tyL, tyK, tyB, tyE, tyM, tyP, tyQ, Nat.reduceBEq, Nat.reduceAdd, Nat.reduceMul, Nat.reduceSub, Nat.reduceLeDiff, Nat.reduceEqDiff, Nat.reduceLT, Nat.reducePow, Nat.reduceBneDiff, Nat.reduceBNe, Int.reduceBEq, Int.reduceEq, Int.reduceLT, Int.reduceLE, Int.reduceToNat, String.reduceBEq], by simp only [↓PR, PO, PC, PX, tyI, tyF, tyX, tyL, tyK, tyB, tyE, tyM, tyP, tyQ, Nat.reduceBEq, Nat.reduceAdd, Nat.reduceMul, Nat.reduceSub, Nat.reduceLeDiff, Nat.reduceEqDiff, Nat.reduceLT, Nat.reducePow, Nat.reduceBneDiff, Nat.reduceBNe, Int.reduceBEq, Int.reduceEq, Int.reduceLT, Int.reduceLE, Int.reduceToNat, String.reduceBEq], by simp only [↓PR, PO, PC, PX, tyI, tyF, tyX, tyL, tyK, tyB, tyE, tyM, tyP, tyQ, Nat.reduceBEq, Nat.reduceAdd, Nat.reduceMul, Nat.reduceSub, Nat.reduceLeDiff, Nat.reduceEqDiff, Nat.reduceLT, Nat.reducePow, Nat.reduceBneDiff, Nat.reduceBNe, Int.reduceBEq, Int.reduceEq, Int.reduceLT, Int.reduceLE, Int.reduceToNat, String.reduceBEq], ?_⟩
    simp only [↓PR, PO, PC, PX, tyI, tyF, tyX, tyL, tyK, tyB, tyE, tyM, tyP, tyQ, Nat.reduceBEq, Nat.reduceAdd, Nat.reduceMul, Nat.reduceSub, Nat.reduceLeDiff, Nat.reduceEqDiff, Nat.reduceLT, Nat.reducePow, Nat.reduceBneDiff, Nat.reduceBNe, Int.reduceBEq, Int.reduceEq, Int.reduceLT, Int.reduceLE, Int.reduceToNat, String.reduceBEq, rowsAt_0]
    simp [uenc]
  · obtain ⟨i, k, hi, hk, rfl, rfl⟩ := pairsX_inv hx
    obtain ⟨r1, r3, m1, m3, m8⟩ := hI
    have ha : l[i]? = some l[i] := List.getElem?_eq_getElem hi
    have hb : l[k]? = some l[k] := List.getElem?_eq_getElem hk
    have hbe : beforeB l i k = (decide (2 ≤ l[i].st) && decide (l[i].last < l[k].first)) := by simp only [beforeB, ha, hb]
    have hra := rowsAt_at hi hk
    have hrs := rowsAt_s hi hk
    have hrl := rowsAt_len l (i * l.length + k)
    have hsame : beforeB l i k = false → rowsAt l (i * l.length + k + 1) = rowsAt l (i * l.length + k) := fun h => by
      rw [hrs, bitsN, h]
      refine List.ext_getElem? fun q => ?_
      rw [List.getElem?_set]
      split
      · rename_i e; subst e; rw [if_pos (by omega), hra]; simp
      · rfl
    generalize l[i] = a at ha hbe
    generalize l[k] = b at hb hbe
    have hlt1 := bitsN_lt (beforeB l i) k
    have hk32 : k < 32 := by omega
    have hlt2 : bitsN (beforeB l i) k < 2 ^ 32 := Nat.lt_of_lt_of_le hlt1 (Nat.pow_le_pow_right (by omega) (by omega))
    have hlt3 : 2 ^ k < 2 ^ 32 := Nat.pow_lt_pow_right (by omega) hk32
    (refine of_gate ?_; repeat' ((first | (with_reducible refine gate_in ?_) | (with_reducible refine spK_intro ?_ ?_ <;> intro hp) | (with_reducible refine brK_intro ?_ ?_ <;> intro hb <;> try rw [hb]) | (with_reducible refine draw_in (by unfold DrawOk; decide +kernel) ?_) | (with_reducible refine And.intro (by first | omega | (simp only [List.length_map, List.length_take]; omega)) ?_) | fail) <;> try simp only [↓PR, PO, PC, PX, tyI, tyF, tyX, tyL, tyK, tyB, tyE, tyM, tyP, tyQ, Nat.reduceBEq, Nat.reduceAdd, Nat.reduceMul, Nat.reduceSub, Nat.reduceLeDiff, Nat.reduceEqDiff, Nat.reduceLT, Nat.reducePow, Nat.reduceBneDiff, Nat.reduceBNe, Int.reduceBEq, Int.reduceEq, Int.reduceLT, Int.reduceLE, Int.reduceToNat, String.reduceBEq, PF, r1, r3, m1, m3, m8, hrec, ha, hb, Txn.enc_eq]))
    · have hbt : beforeB l i k = true := by rw [hbe, decide_eq_true (show 2 ≤ a.st by omega), decide_eq_true ‹a.last < b.first›]; rfl
      have hor : bitsN (beforeB l i) k ||| 2 ^ k = bitsN (beforeB l i) (k + 1) := by rw [bitsN_or, bitsN, hbt]; rfl
      (refine of_gate ?_; repeat' ((first | (with_reducible refine gate_in ?_) | (with_reducible refine spK_intro ?_ ?_ <;> intro hp) | (with_reducible refine brK_intro ?_ ?_ <;> intro hb <;> try rw [hb]) | (with_reducible refine draw_in (by unfold DrawOk; decide +kernel) ?_) | (with_reducible refine And.intro (by first | omega | (simp only [List.length_map, List.length_take]; omega)) ?_) | fail) <;> try simp only [↓PR, PO, PC, PX, tyI, tyF, tyX, tyL, tyK, tyB, tyE, tyM, tyP, tyQ, Nat.reduceBEq, Nat.reduceAdd, Nat.reduceMul, Nat.reduceSub, Nat.reduceLeDiff, Nat.reduceEqDiff, Nat.reduceLT, Nat.reducePow, Nat.reduceBneDiff, Nat.reduceBNe, Int.reduceBEq, Int.reduceEq, Int.reduceLT, Int.reduceLE, Int.reduceToNat, String.reduceBEq, PF, r1, r3, m1, m3, m8, hrec, hra, uenc_eq, u32_shl hk32, u32_or hlt2 hlt3, hor]))
      have hy : ((rowsAt l (i * l.length + k)).map uenc)[i]? = some (uenc (bitsN (beforeB l i) k)) := by rw [List.getElem?_map, hra]; rfl
      rw [st_eref_one (sz := 1) (j := 0) (ti := ⟨1, 4, false, [.int .u32 0]⟩) (e := 28) (xs := (rowsAt l (i * l.length + k)).map uenc) (by kernel_rfl) (by simp only [↓PR, PO, PC, PX, tyI, tyF, tyX, tyL, tyK, tyB, tyE, tyM, tyP, tyQ, Nat.reduceBEq, Nat.reduceAdd, Nat.reduceMul, Nat.reduceSub, Nat.reduceLeDiff, Nat.reduceEqDiff, Nat.reduceLT, Nat.reducePow, Nat.reduceBneDiff, Nat.reduceBNe, Int.reduceBEq, Int.reduceEq, Int.reduceLT, Int.reduceLE, Int.reduceToNat, String.reduceBEq, PF, m8]) hy rfl (by omega) rfl]
      (refine of_gate ?_; repeat' ((first | (with_reducible refine gate_in ?_) | (with_reducible refine spK_intro ?_ ?_ <;> intro hp) | (with_reducible refine brK_intro ?_ ?_ <;> intro hb <;> try rw [hb]) | (with_reducible refine draw_in (by unfold DrawOk; decide +kernel) ?_) | (with_reducible refine And.intro (by first | omega | (simp only [List.length_map, List.length_take]; omega)) ?_) | fail) <;> try simp only [↓PR, PO, PC, PX, tyI, tyF, tyX, tyL, tyK, tyB, tyE, tyM, tyP, tyQ, Nat.reduceBEq, Nat.reduceAdd, Nat.reduceMul, Nat.reduceSub, Nat.reduceLeDiff, Nat.reduceEqDiff, Nat.reduceLT, Nat.reducePow, Nat.reduceBneDiff, Nat.reduceBNe, Int.reduceBEq, Int.reduceEq, Int.reduceLT, Int.reduceLE, Int.reduceToNat, String.reduceBEq, PF, r1, r3, m1, m3, m8, hrec]))
      refine ⟨by simp only [↓PR, PO, PC, PX, tyI, tyF, tyX, tyL, tyK, tyB, tyE, tyM, tyP, tyQ, Nat.reduceBEq, Nat.reduceAdd, Nat.reduceMul, Nat.reduceSub, Nat.reduceLeDiff, Nat.reduceEqDiff, Nat.reduceLT, Nat.reducePow, Nat.reduceBneDiff, Nat.reduceBNe, Int.reduceBEq, Int.reduceEq, Int.reduceLT, Int.reduceLE, Int.reduceToNat, String.reduceBEq, PF, r1], by simp only [↓PR, PO, PC, PX, tyI, tyF, tyX, tyL, tyK, tyB, tyE, tyM, tyP, tyQ, Nat.reduceBEq, Nat.reduceAdd, Nat.reduceMul, Nat.reduceSub, Nat.reduceLeDiff, Nat.reduceEqDiff, Nat.reduceLT, Nat.reducePow, Nat.reduceBneDiff, Nat.reduceBNe, Int.reduceBEq, Int.reduceEq, Int.reduceLT, Int.reduceLE, Int.reduceToNat, String.reduceBEq, PF, r3], by simp only [↓PR, PO, PC, PX, tyI, tyF, tyX, tyL, tyK, tyB, tyE, tyM, tyP, tyQ, Nat.reduceBEq, Nat.reduceAdd, Nat.reduceMul, Nat.reduceSub, Nat.reduceLeDiff, Nat.reduceEqDiff, Nat.reduceLT, Nat.reducePow, Nat.reduceBneDiff, Nat.reduceBNe, Int.reduceBEq, Int.reduceEq, Int.reduceLT, Int.reduceLE, Int.reduceToNat, String.reduceBEq, PF, m1], by simp only [↓PR, PO, PC, PX, tyI, tyF, tyX, tyL, tyK, tyB, tyE, tyM, tyP, tyQ, Nat.reduceBEq, Nat.reduceAdd, Nat.reduceMul, Nat.reduceSub, Nat.reduceLeDiff, Nat.reduceEqDiff, Nat.reduceLT, Nat.reducePow, Nat.reduceBneDiff, Nat.reduceBNe, Int.reduceBEq, Int.reduceEq, Int.reduceLT, Int.reduceLE, Int.reduceToNat, String.reduceBEq, PF, m3], ?_⟩
      simp only [↓PR, PO, PC, PX, tyI, tyF, tyX, tyL, tyK, tyB, tyE, tyM, tyP, tyQ, Nat.reduceBEq, Nat.reduceAdd, Nat.reduceMul, Nat.reduceSub, Nat.reduceLeDiff, Nat.reduceEqDiff, Nat.reduceLT, Nat.reducePow, Nat.reduceBneDiff, Nat.reduceBNe, Int.reduceBEq, Int.reduceEq, Int.reduceLT, Int.reduceLE, Int.reduceToNat, String.reduceBEq, PF, hrs, List.map_set]; rfl
    · have hbf := hsame (by rw [hbe, decide_eq_false ‹¬ a.last < b.first›, Bool.and_false])
      exact ⟨by simp only [↓PR, PO, PC, PX, tyI, tyF, tyX, tyL, tyK, tyB, tyE, tyM, tyP, tyQ, Nat.reduceBEq, Nat.reduceAdd, Nat.reduceMul, Nat.reduceSub, Nat.reduceLeDiff, Nat.reduceEqDiff, Nat.reduceLT, Nat.reducePow, Nat.reduceBneDiff, Nat.reduceBNe, Int.reduceBEq, Int.reduceEq, Int.reduceLT, Int.reduceLE, Int.reduceToNat, String.reduceBEq, PF, r1], by simp only [↓PR, PO, PC, PX, tyI, tyF, tyX, tyL, tyK, tyB, tyE, tyM, tyP, tyQ, Nat.reduceBEq, Nat.reduceAdd, Nat.reduceMul, Nat.reduceSub, Nat.reduceLeDiff, Nat.reduceEqDiff, Nat.reduceLT, Nat.reducePow, Nat.reduceBneDiff, Nat.reduceBNe, Int.reduceBEq, Int.reduceEq, Int.reduceLT, Int.reduceLE, Int.reduceToNat, String.reduceBEq, PF, r3], by simp only [↓PR, PO, PC, PX, tyI, tyF, tyX, tyL, tyK, tyB, tyE, tyM, tyP, tyQ, Nat.reduceBEq, Nat.reduceAdd, Nat.reduceMul, Nat.reduceSub, Nat.reduceLeDiff, Nat.reduceEqDiff, Nat.reduceLT, Nat.reducePow, Nat.reduceBneDiff, Nat.reduceBNe, Int.reduceBEq, Int.reduceEq, Int.reduceLT, Int.reduceLE, Int.reduceToNat, String.reduceBEq, PF, m1], by simp only [↓PR, PO, PC, PX, tyI, tyF, tyX, tyL, tyK, tyB, tyE, tyM, tyP, tyQ, Nat.reduceBEq, Nat.reduceAdd, Nat.reduceMul, Nat.reduceSub, Nat.reduceLeDiff, Nat.reduceEqDiff, Nat.reduceLT, Nat.reducePow, Nat.reduceBneDiff, Nat.reduceBNe, Int.reduceBEq, Int.reduceEq, Int.reduceLT, Int.reduceLE, Int.reduceToNat, String.reduceBEq, PF, m3], by simp only [↓PR, PO, PC, PX, tyI, tyF, tyX, tyL, tyK, tyB, tyE, tyM, tyP, tyQ, Nat.reduceBEq, Nat.reduceAdd, Nat.reduceMul, Nat.reduceSub, Nat.reduceLeDiff, Nat.reduceEqDiff, Nat.reduceLT, Nat.reducePow, Nat.reduceBneDiff, Nat.reduceBNe, Int.reduceBEq, Int.reduceEq, Int.reduceLT, Int.reduceLE, Int.reduceToNat, String.reduceBEq, PF, m8, hbf]⟩
    · have hbf := hsame (by rw [hbe, decide_eq_false (show ¬ 2 ≤ a.st by omega), Bool.false_and])
      exact ⟨by simp only [↓PR, PO, PC, PX, tyI, tyF, tyX, tyL, tyK, tyB, tyE, tyM, tyP, tyQ, Nat.reduceBEq, Nat.reduceAdd, Nat.reduceMul, Nat.reduceSub, Nat.reduceLeDiff, Nat.reduceEqDiff, Nat.reduceLT, Nat.reducePow, Nat.reduceBneDiff, Nat.reduceBNe, Int.reduceBEq, Int.reduceEq, Int.reduceLT, Int.reduceLE, Int.reduceToNat, String.reduceBEq, PF, r1], by simp only [↓PR, PO, PC, PX, tyI, tyF, tyX, tyL, tyK, tyB, tyE, tyM, tyP, tyQ, Nat.reduceBEq, Nat.reduceAdd, Nat.reduceMul, Nat.reduceSub, Nat.reduceLeDiff, Nat.reduceEqDiff, Nat.reduceLT, Nat.reducePow, Nat.reduceBneDiff, Nat.reduceBNe, Int.reduceBEq, Int.reduceEq, Int.reduceLT, Int.reduceLE, Int.reduceToNat, String.reduceBEq, PF, r3], by simp only [↓PR, PO, PC, PX, tyI, tyF, tyX, tyL, tyK, tyB, tyE, tyM, tyP, tyQ, Nat.reduceBEq, Nat.reduceAdd, Nat.reduceMul, Nat.reduceSub, Nat.reduceLeDiff, Nat.reduceEqDiff, Nat.reduceLT, Nat.reducePow, Nat.reduceBneDiff, Nat.reduceBNe, Int.reduceBEq, Int.reduceEq, Int.reduceLT, Int.reduceLE, Int.reduceToNat, String.reduceBEq, PF, m1], by simp only [↓PR, PO, PC, PX, tyI, tyF, tyX, tyL, tyK, tyB, tyE, tyM, tyP, tyQ, Nat.reduceBEq, Nat.reduceAdd, Nat.reduceMul, Nat.reduceSub, Nat.reduceLeDiff, Nat.reduceEqDiff, Nat.reduceLT, Nat.reducePow, Nat.reduceBneDiff, Nat.reduceBNe, Int.reduceBEq, Int.reduceEq, Int.reduceLT, Int.reduceLE, Int.reduceToNat, String.reduceBEq, PF, m3], by simp only [↓PR, PO, PC, PX, tyI, tyF, tyX, tyL, tyK, tyB, tyE, tyM, tyP, tyQ, Nat.reduceBEq, Nat.reduceAdd, Nat.reduceMul, Nat.reduceSub, Nat.reduceLeDiff, Nat.reduceEqDiff, Nat.reduceLT, Nat.reducePow, Nat.reduceBneDiff, Nat.reduceBNe, Int.reduceBEq, Int.reduceEq, Int.reduceLT, Int.reduceLE, Int.reduceToNat, String.reduceBEq, PF, m8, hbf]⟩
  · obtain ⟨r1, r3, m1, m3, m8⟩ := hI
    have hpl : (pairsX l.length).length = l.length * l.length := by simp [pairsX]
    rw [hpl, rowsAt_n] at m8
    (refine of_gate ?_; repeat' ((first | (with_reducible refine gate_in ?_) | (with_reducible refine spK_intro ?_ ?_ <;> intro hp) | (with_reducible refine brK_intro ?_ ?_ <;> intro hb <;> try rw [hb]) | (with_reducible refine draw_in (by unfold DrawOk; decide +kernel) ?_) | (with_reducible refine And.intro (by first | omega | (simp only [List.length_map, List.length_take]; omega)) ?_) | fail) <;> try simp only [↓PR, PO, PC, PX, tyI, tyF, tyX, tyL, tyK, tyB, tyE, tyM, tyP, tyQ, Nat.reduceBEq, Nat.reduceAdd, Nat.reduceMul, Nat.reduceSub, Nat.reduceLeDiff, Nat.reduceEqDiff, Nat.reduceLT, Nat.reducePow, Nat.reduceBneDiff, Nat.reduceBNe, Int.reduceBEq, Int.reduceEq, Int.reduceLT, Int.reduceLE, Int.reduceToNat, String.reduceBEq, PF, r1, r3, m1, m3, m8]))
theorem t15f (h : List Ev) : Holds Tryd.prog GL 15 [evsA h] [.fresh 28 1 ((aftersV h).map uenc), .a (I (checkE h))] := by
  refine fn_holds (vs := [.tmp 2, .tmp 3]) (by kernel_rfl) Tryd.func15 rfl rfl (by kernel_rfl) (by kernel_rfl) rfl ?_
  (refine of_gate ?_; repeat' ((first | (with_reducible refine gate_in ?_) | (with_reducible refine spK_intro ?_ ?_ <;> intro hp) | (with_reducible refine brK_intro ?_ ?_ <;> intro hb <;> try rw [hb]) | (with_reducible refine draw_in (by unfold DrawOk; decide +kernel) ?_) | (with_reducible apply c56) | (with_reducible refine And.intro (by first | omega | (simp only [List.length_map, List.length_take]; omega)) ?_) | fail) <;> try simp only [↓PR, PO, PC, PX, tyI, tyF, tyX, tyL, tyK, tyB, tyE, tyM, tyP, tyQ, Nat.reduceBEq, Nat.reduceAdd, Nat.reduceMul, Nat.reduceSub, Nat.reduceLeDiff, Nat.reduceEqDiff, Nat.reduceLT, Nat.reducePow, Nat.reduceBneDiff, Nat.reduceBNe, Int.reduceBEq, Int.reduceEq, Int.reduceLT, Int.reduceLE, Int.reduceToNat, String.reduceBEq]))
  · have h0 : checkE h = 0 := ‹_›
    refine call_dat (t57f (txns h) (by have := txns_len6 h; omega)) ?_
    (refine of_gate ?_; repeat' ((first | (with_reducible refine gate_in ?_) | (with_reducible refine spK_intro ?_ ?_ <;> intro hp) | (with_reducible refine brK_intro ?_ ?_ <;> intro hb <;> try rw [hb]) | (with_reducible refine draw_in (by unfold DrawOk; decide +kernel) ?_) | (with_reducible refine And.intro (by first | omega | (simp only [List.length_map, List.length_take]; omega)) ?_) | fail) <;> try simp only [↓PR, PO, PC, PX, tyI, tyF, tyX, tyL, tyK, tyB, tyE, tyM, tyP, tyQ, Nat.reduceBEq, Nat.reduceAdd, Nat.reduceMul, Nat.reduceSub, Nat.reduceLeDiff, Nat.reduceEqDiff, Nat.reduceLT, Nat.reducePow, Nat.reduceBneDiff, Nat.reduceBNe, Int.reduceBEq, Int.reduceEq, Int.reduceLT, Int.reduceLE, Int.reduceToNat, String.reduceBEq, al_fa]))
    simp [aftersV, h0]
  · have h0 : ¬ checkE h = 0 := ‹_›
    simp only [al_fa, true_and]
    simp [aftersV, h0]
/-! ### graph.Build -/
/-- Where a row has what. -/
def placeF (r : List Int) (n : Nat) : List Int := (List.range n).map fun (i : Nat) => idxOf (fun y => (i : Int) == y) r
def placeTo (r : List Int) (n k : Nat) : List Int := (List.range n).map fun (i : Nat) => if i < k then idxOf (fun y => (i : Int) == y) r else 0
theorem placeTo_len {r : List Int} {n k : Nat} : (placeTo r n k).length = n := by simp [placeTo]
theorem placeTo_0 {r : List Int} {n : Nat} : placeTo r n 0 = List.replicate n 0 := by
  refine List.ext_getElem? fun i => ?_
  simp only [placeTo, List.getElem?_map, List.getElem?_replicate, Nat.not_lt_zero, if_false]
  by_cases hi : i < n
  · rw [List.getElem?_range hi, if_pos hi]; rfl
  · rw [List.getElem?_eq_none (by simpa using hi), if_neg hi]; rfl
theorem placeTo_n {r : List Int} {n : Nat} : placeTo r n n = placeF r n := by
  unfold placeTo placeF
  exact List.map_congr_left fun i hi => if_pos (List.mem_range.1 hi)
theorem placeTo_s {r : List Int} {n k : Nat} (hk : k < n) : placeTo r n (k + 1) = (placeTo r n k).set k (idxOf (fun y => (k : Int) == y) r) := by
  refine List.ext_getElem? fun i => ?_
  rw [List.getElem?_set, placeTo_len]
  by_cases hi : i < n
  · simp only [placeTo, List.getElem?_map, List.getElem?_range hi, Option.map_some]
    by_cases e : k = i
    · subst e; rw [if_pos (by omega), if_pos rfl, if_pos hi]
    · rw [if_neg e]; congr 1
      have : (i < k + 1) = (i < k) := by apply propext; omega
      simp only [this]
  · rw [List.getElem?_eq_none (by simpa [placeTo] using hi)]
    split
    · omega
    · rw [List.getElem?_eq_none (by simpa [placeTo] using hi)]
/-- Is a row one of all places? -/
def wholeTo (r : List Int) (n k : Nat) : Bool := (List.range k).all fun (i : Nat) => decide (0 ≤ idxOf (fun y => (i : Int) == y) r) && decide (r.length = n)
def wholeB (r : List Int) (n : Nat) : Bool := decide (r.length = n) && wholeTo r n n
def buildE (h : List Ev) (C : Nat) (r : List Int) : Int := if lookE h C = 0 then (if wholeB r (txns h).length then (if allRFrom (txns h) (sourcesR h) C 0 then 0 else 7) else 1) else lookE h C
def buildV (h : List Ev) (C : Nat) (r : List Int) : List Nat := if buildE h C r = 0 then edgesF (txns h) (sourcesR h) C (placeF r (txns h).length) (afterR (txns h)) else []
theorem wholeB_at {r : List Int} {n k : Nat} (h : wholeB r n = true) (hk : k < n) : 0 ≤ idxOf (fun y => (k : Int) == y) r ∧ r.length = n := by
  simp only [wholeB, wholeTo, Bool.and_eq_true, decide_eq_true_eq, List.all_eq_true, List.mem_range] at h
  exact h.2 k hk
theorem wholeTo_s {r : List Int} {n k : Nat} (h : wholeTo r n k = true) (h1 : 0 ≤ idxOf (fun y => (k : Int) == y) r) (h2 : r.length = n) : wholeTo r n (k + 1) = true := by
  rw [wholeTo, List.range_succ, List.all_append]
  simp only [wholeTo] at h
  rw [h]
  simp [h1, h2]
theorem after_ok (l : List Txn) (hl : l.length ≤ 30) : RowsOk l.length (afterR l) := by
  refine ⟨afterR_len l, fun b hb => ?_⟩
  obtain ⟨i, _, rfl⟩ := List.mem_map.1 hb
  exact bits32 _ hl
theorem t35 (h : List Ev) (C : Nat) (hC : C < 2 ^ 32) (r : List Int) (hrl : r.length ≤ 1000000) : Holds Tryd.prog GL 35 [evsA h, U C, intsA r] [.a (unsA (buildV h C r)), .a (I (buildE h C r))] := by
  refine fn_holds (vs := [.tmp 6, .tmp 7]) (by kernel_rfl) Tryd.func35 rfl rfl (by kernel_rfl) (by kernel_rfl) rfl ?_
  by_cases hE : lookE h C = 0
  · have hA : lookA h C = trA (txns h) (sourcesR h) C := by rw [lookA, if_pos hE]
    have hsE : sourcesE h = 0 := by
      unfold lookE at hE
      split at hE
      · assumption
      · rename_i hn; exact absurd hE hn
    have hcE := sourcesE_check hsE
    have hS := srcT hsE
    have hl6 := txns_len6 h
    have hV : aftersV h = afterR (txns h) := by simp [aftersV, hcE]
    have e1 : buildE h C r = if wholeB r (txns h).length then (if allRFrom (txns h) (sourcesR h) C 0 then 0 else 7) else 1 := by rw [buildE, if_pos hE]
    have hfit : FitT (txns h) := tab_fit2 h (by have := check60 hcE; omega)
    unfold buildV
    rw [e1]
    generalize txns h = l at *
    generalize sourcesR h = sr at *
    have hok := after_ok l (by omega)
    (refine of_gate ?_; repeat' ((first | (with_reducible refine gate_in ?_) | (with_reducible refine spK_intro ?_ ?_ <;> intro hp) | (with_reducible refine brK_intro ?_ ?_ <;> intro hb <;> try rw [hb]) | (with_reducible refine draw_in (by unfold DrawOk; decide +kernel) ?_) | (with_reducible refine And.intro (by first | omega | (simp only [List.length_map, List.length_take]; omega)) ?_) | fail) <;> try simp only [↓PR, PO, PC, PX, tyI, tyF, tyX, tyL, tyK, tyB, tyE, tyM, tyP, tyQ, Nat.reduceBEq, Nat.reduceAdd, Nat.reduceMul, Nat.reduceSub, Nat.reduceLeDiff, Nat.reduceEqDiff, Nat.reduceLT, Nat.reducePow, Nat.reduceBneDiff, Nat.reduceBNe, Int.reduceBEq, Int.reduceEq, Int.reduceLT, Int.reduceLE, Int.reduceToNat, String.reduceBEq]))
    refine call_dat (t69 h C hC) ?_
    rw [hA, hE]
    (refine of_gate ?_; repeat' ((first | (with_reducible refine gate_in ?_) | (with_reducible refine spK_intro ?_ ?_ <;> intro hp) | (with_reducible refine brK_intro ?_ ?_ <;> intro hb <;> try rw [hb]) | (with_reducible refine draw_in (by unfold DrawOk; decide +kernel) ?_) | (with_reducible refine And.intro (by first | omega | (simp only [List.length_map, List.length_take]; omega)) ?_) | fail) <;> try simp only [↓PR, PO, PC, PX, tyI, tyF, tyX, tyL, tyK, tyB, tyE, tyM, tyP, tyQ, Nat.reduceBEq, Nat.reduceAdd, Nat.reduceMul, Nat.reduceSub, Nat.reduceLeDiff, Nat.reduceEqDiff, Nat.reduceLT, Nat.reducePow, Nat.reduceBneDiff, Nat.reduceBNe, Int.reduceBEq, Int.reduceEq, Int.reduceLT, Int.reduceLE, Int.reduceToNat, String.reduceBEq, List.length_map]))
    refine sem_make (e := 3) (ti := ⟨1, 8, false, [.int .i64 0]⟩) (z0 := .int .i64 0) (n := l.length) (by kernel_rfl) (by kernel_rfl) rfl rfl rfl (by simp only [↓PR, PO, PC, PX, tyI, tyF, tyX, tyL, tyK, tyB, tyE, tyM, tyP, tyQ, Nat.reduceBEq, Nat.reduceAdd, Nat.reduceMul, Nat.reduceSub, Nat.reduceLeDiff, Nat.reduceEqDiff, Nat.reduceLT, Nat.reducePow, Nat.reduceBneDiff, Nat.reduceBNe, Int.reduceBEq, Int.reduceEq, Int.reduceLT, Int.reduceLE, Int.reduceToNat, String.reduceBEq]) (by simp only [↓PR, PO, PC, PX, tyI, tyF, tyX, tyL, tyK, tyB, tyE, tyM, tyP, tyQ, Nat.reduceBEq, Nat.reduceAdd, Nat.reduceMul, Nat.reduceSub, Nat.reduceLeDiff, Nat.reduceEqDiff, Nat.reduceLT, Nat.reducePow, Nat.reduceBneDiff, Nat.reduceBNe, Int.reduceBEq, Int.reduceEq, Int.reduceLT, Int.reduceLE, Int.reduceToNat, String.reduceBEq]) (by omega) (by decide) ?_
    (refine of_gate ?_; repeat' ((first | (with_reducible refine gate_in ?_) | (with_reducible refine spK_intro ?_ ?_ <;> intro hp) | (with_reducible refine brK_intro ?_ ?_ <;> intro hb <;> try rw [hb]) | (with_reducible refine draw_in (by unfold DrawOk; decide +kernel) ?_) | (with_reducible refine And.intro (by first | omega | (simp only [List.length_map, List.length_take]; omega)) ?_) | fail) <;> try simp only [↓PR, PO, PC, PX, tyI, tyF, tyX, tyL, tyK, tyB, tyE, tyM, tyP, tyQ, Nat.reduceBEq, Nat.reduceAdd, Nat.reduceMul, Nat.reduceSub, Nat.reduceLeDiff, Nat.reduceEqDiff, Nat.reduceLT, Nat.reducePow, Nat.reduceBneDiff, Nat.reduceBNe, Int.reduceBEq, Int.reduceEq, Int.reduceLT, Int.reduceLE, Int.reduceToNat, String.reduceBEq, List.length_map, List.length_replicate]))
    refine awp_loopA (fun k : Nat => [(0, .a (evsA h)), (2, .a (intsA r)), (8, .ref 8 0), (10, .own 26), (28, .a (I l.length)), (29, .a (I k))]) (fun k => [(8, .box [.a (.d (.sl (l.map Txn.enc))), .a (.d (.sl (sr.map intRow))), .a (.d (.v (.int .u32 C)))]), (26, .log 3 1 ((placeTo r l.length k).map ienc))]) (fun k => k ≤ l.length ∧ wholeTo r l.length k = true) (l.length - ·) 0 ?_ ?_ ⟨Nat.zero_le _, rfl⟩ ?_
    · simp only [↓PR, PO, PC, PX, tyI, tyF, tyX, tyL, tyK, tyB, tyE, tyM, tyP, tyQ, Nat.reduceBEq, Nat.reduceAdd, Nat.reduceMul, Nat.reduceSub, Nat.reduceLeDiff, Nat.reduceEqDiff, Nat.reduceLT, Nat.reducePow, Nat.reduceBneDiff, Nat.reduceBNe, Int.reduceBEq, Int.reduceEq, Int.reduceLT, Int.reduceLE, Int.reduceToNat, String.reduceBEq, List.length_replicate]
    · simp only [↓PR, PO, PC, PX, tyI, tyF, tyX, tyL, tyK, tyB, tyE, tyM, tyP, tyQ, Nat.reduceBEq, Nat.reduceAdd, Nat.reduceMul, Nat.reduceSub, Nat.reduceLeDiff, Nat.reduceEqDiff, Nat.reduceLT, Nat.reducePow, Nat.reduceBneDiff, Nat.reduceBNe, Int.reduceBEq, Int.reduceEq, Int.reduceLT, Int.reduceLE, Int.reduceToNat, String.reduceBEq, placeTo_0, List.map_replicate]; try rfl
    intro k j ⟨hk, hq⟩
    (refine of_gate ?_; repeat' ((first | (with_reducible refine gate_in ?_) | (with_reducible refine spK_intro ?_ ?_ <;> intro hp) | (with_reducible refine brK_intro ?_ ?_ <;> intro hb <;> try rw [hb]) | (with_reducible refine draw_in (by unfold DrawOk; decide +kernel) ?_) | (with_reducible refine And.intro (by first | omega | (simp only [List.length_map, List.length_take]; omega)) ?_) | fail) <;> try simp only [↓PR, PO, PC, PX, tyI, tyF, tyX, tyL, tyK, tyB, tyE, tyM, tyP, tyQ, Nat.reduceBEq, Nat.reduceAdd, Nat.reduceMul, Nat.reduceSub, Nat.reduceLeDiff, Nat.reduceEqDiff, Nat.reduceLT, Nat.reducePow, Nat.reduceBneDiff, Nat.reduceBNe, Int.reduceBEq, Int.reduceEq, Int.reduceLT, Int.reduceLE, Int.reduceToNat, String.reduceBEq]))
    · have hkl : k < l.length := by omega
      have hw := wrap_succ (n := l.length) hkl (by simp only [maxLen]; omega)
      have hpl := placeTo_len (r := r) (n := l.length) (k := k)
      have hpl2 := placeTo_len (r := r) (n := l.length) (k := k + 1)
      obtain ⟨z, hz⟩ : ∃ z, (placeTo r l.length k)[k]? = some z := ⟨_, List.getElem?_eq_getElem (by omega)⟩
      have hz2 : ((placeTo r l.length k).map ienc)[k]? = some (ienc z) := by rw [List.getElem?_map, hz]; rfl
      have hset : ((placeTo r l.length k).map ienc).set k ((ienc z).set 0 (dI (idxOf (fun y => (k : Int) == y) r))) = (placeTo r l.length (k + 1)).map ienc := by rw [placeTo_s hkl, List.map_set]; rfl
      have hat : (placeTo r l.length (k + 1))[k]? = some (idxOf (fun y => (k : Int) == y) r) := by rw [placeTo_s hkl, List.getElem?_set_self (by omega)]
      have hWk := @wholeTo_s r l.length k hq
      have hBk : wholeB r l.length = true → _ := fun h => wholeB_at (k := k) h hkl
      (refine of_gate ?_; repeat' ((first | (with_reducible refine gate_in ?_) | (with_reducible refine spK_intro ?_ ?_ <;> intro hp) | (with_reducible refine brK_intro ?_ ?_ <;> intro hb <;> try rw [hb]) | (with_reducible refine draw_in (by unfold DrawOk; decide +kernel) ?_) | (with_reducible apply c70) | (with_reducible refine And.intro (by first | omega | (simp only [List.length_map, List.length_take]; omega)) ?_) | fail) <;> try simp only [↓PR, PO, PC, PX, tyI, tyF, tyX, tyL, tyK, tyB, tyE, tyM, tyP, tyQ, Nat.reduceBEq, Nat.reduceAdd, Nat.reduceMul, Nat.reduceSub, Nat.reduceLeDiff, Nat.reduceEqDiff, Nat.reduceLT, Nat.reducePow, Nat.reduceBneDiff, Nat.reduceBNe, Int.reduceBEq, Int.reduceEq, Int.reduceLT, Int.reduceLE, Int.reduceToNat, String.reduceBEq, hz, hpl, ienc_eq, List.length_map]))
      rw [st_eref_one (sz := 1) (j := 0) (ti := ⟨1, 8, false, [.int .i64 0]⟩) (e := 3) (xs := (placeTo r l.length k).map ienc) (by kernel_rfl) (by simp only [↓PR, PO, PC, PX, tyI, tyF, tyX, tyL, tyK, tyB, tyE, tyM, tyP, tyQ, Nat.reduceBEq, Nat.reduceAdd, Nat.reduceMul, Nat.reduceSub, Nat.reduceLeDiff, Nat.reduceEqDiff, Nat.reduceLT, Nat.reducePow, Nat.reduceBneDiff, Nat.reduceBNe, Int.reduceBEq, Int.reduceEq, Int.reduceLT, Int.reduceLE, Int.reduceToNat, String.reduceBEq]) hz2 rfl (by omega) rfl, hset]
      generalize idxOf (fun y => (k : Int) == y) r = q at hat hWk hBk
      (refine of_gate ?_; repeat' ((first | (with_reducible refine gate_in ?_) | (with_reducible refine spK_intro ?_ ?_ <;> intro hp) | (with_reducible refine brK_intro ?_ ?_ <;> intro hb <;> try rw [hb]) | (with_reducible refine draw_in (by unfold DrawOk; decide +kernel) ?_) | (with_reducible refine And.intro (by first | omega | (simp only [List.length_map, List.length_take]; omega)) ?_) | fail) <;> try simp only [↓PR, PO, PC, PX, tyI, tyF, tyX, tyL, tyK, tyB, tyE, tyM, tyP, tyQ, Nat.reduceBEq, Nat.reduceAdd, Nat.reduceMul, Nat.reduceSub, Nat.reduceLeDiff, Nat.reduceEqDiff, Nat.reduceLT, Nat.reducePow, Nat.reduceBneDiff, Nat.reduceBNe, Int.reduceBEq, Int.reduceEq, Int.reduceLT, Int.reduceLE, Int.reduceToNat, String.reduceBEq, hat, hpl2, ienc_eq, List.length_map, hw]))
      · have hB : wholeB r l.length = false := by
          cases hB : wholeB r l.length with
          | false => rfl
          | true => have := (hBk hB).1; omega
        simp [hB]
      · (refine ⟨k + 1, ?_, ?_, ⟨hkl, hWk (by omega) (by omega)⟩, by dsimp only; omega⟩ <;> simp only [↓PR, PO, PC, PX, tyI, tyF, tyX, tyL, tyK, tyB, tyE, tyM, tyP, tyQ, Nat.reduceBEq, Nat.reduceAdd, Nat.reduceMul, Nat.reduceSub, Nat.reduceLeDiff, Nat.reduceEqDiff, Nat.reduceLT, Nat.reducePow, Nat.reduceBneDiff, Nat.reduceBNe, Int.reduceBEq, Int.reduceEq, Int.reduceLT, Int.reduceLE, Int.reduceToNat, String.reduceBEq, hw])
      · have hB : wholeB r l.length = false := by
          cases hB : wholeB r l.length with
          | false => rfl
          | true => have := (hBk hB).2; omega
        simp [hB]
    · obtain rfl : k = l.length := by omega
      have hpl := placeTo_len (r := r) (n := l.length) (k := l.length)
      simp only [List.length_map, hpl] at hp
      have hB : wholeB r l.length = true := by
        have : r.length = l.length := by omega
        simp [wholeB, this, hq]
      rw [hB, if_pos rfl]
      refine c71 hfit (by omega) hS hC ?_
      cases hR : allRFrom l sr C 0 with
      | false =>
        (refine of_gate ?_; repeat' ((first | (with_reducible refine gate_in ?_) | (with_reducible refine spK_intro ?_ ?_ <;> intro hp) | (with_reducible refine brK_intro ?_ ?_ <;> intro hb <;> try rw [hb]) | (with_reducible refine draw_in (by unfold DrawOk; decide +kernel) ?_) | (with_reducible refine And.intro (by first | omega | (simp only [List.length_map, List.length_take]; omega)) ?_) | fail) <;> try simp only [↓PR, PO, PC, PX, tyI, tyF, tyX, tyL, tyK, tyB, tyE, tyM, tyP, tyQ, Nat.reduceBEq, Nat.reduceAdd, Nat.reduceMul, Nat.reduceSub, Nat.reduceLeDiff, Nat.reduceEqDiff, Nat.reduceLT, Nat.reducePow, Nat.reduceBneDiff, Nat.reduceBNe, Int.reduceBEq, Int.reduceEq, Int.reduceLT, Int.reduceLE, Int.reduceToNat, String.reduceBEq]))
        simp
      | true =>
        (refine of_gate ?_; repeat' ((first | (with_reducible refine gate_in ?_) | (with_reducible refine spK_intro ?_ ?_ <;> intro hp) | (with_reducible refine brK_intro ?_ ?_ <;> intro hb <;> try rw [hb]) | (with_reducible refine draw_in (by unfold DrawOk; decide +kernel) ?_) | (with_reducible refine And.intro (by first | omega | (simp only [List.length_map, List.length_take]; omega)) ?_) | fail) <;> try simp only [↓PR, PO, PC, PX, tyI, tyF, tyX, tyL, tyK, tyB, tyE, tyM, tyP, tyQ, Nat.reduceBEq, Nat.reduceAdd, Nat.reduceMul, Nat.reduceSub, Nat.reduceLeDiff, Nat.reduceEqDiff, Nat.reduceLT, Nat.reducePow, Nat.reduceBneDiff, Nat.reduceBNe, Int.reduceBEq, Int.reduceEq, Int.reduceLT, Int.reduceLE, Int.reduceToNat, String.reduceBEq]))
        refine call_dat (t15f h) ?_
        rw [hV, hcE, t_fa (by decide)]
        (refine of_gate ?_; repeat' ((first | (with_reducible refine gate_in ?_) | (with_reducible refine spK_intro ?_ ?_ <;> intro hp) | (with_reducible refine brK_intro ?_ ?_ <;> intro hb <;> try rw [hb]) | (with_reducible refine draw_in (by unfold DrawOk; decide +kernel) ?_) | (with_reducible refine And.intro (by first | omega | (simp only [List.length_map, List.length_take]; omega)) ?_) | fail) <;> try simp only [↓PR, PO, PC, PX, tyI, tyF, tyX, tyL, tyK, tyB, tyE, tyM, tyP, tyQ, Nat.reduceBEq, Nat.reduceAdd, Nat.reduceMul, Nat.reduceSub, Nat.reduceLeDiff, Nat.reduceEqDiff, Nat.reduceLT, Nat.reducePow, Nat.reduceBneDiff, Nat.reduceBNe, Int.reduceBEq, Int.reduceEq, Int.reduceLT, Int.reduceLE, Int.reduceToNat, String.reduceBEq]))
        refine sem_clo (caps := [(12, 0)]) (by simp only [↓PR, PO, PC, PX, tyI, tyF, tyX, tyL, tyK, tyB, tyE, tyM, tyP, tyQ, Nat.reduceBEq, Nat.reduceAdd, Nat.reduceMul, Nat.reduceSub, Nat.reduceLeDiff, Nat.reduceEqDiff, Nat.reduceLT, Nat.reducePow, Nat.reduceBneDiff, Nat.reduceBNe, Int.reduceBEq, Int.reduceEq, Int.reduceLT, Int.reduceLE, Int.reduceToNat, String.reduceBEq, List.map_cons, List.map_nil]) ?_
        (refine of_gate ?_; repeat' ((first | (with_reducible refine gate_in ?_) | (with_reducible refine spK_intro ?_ ?_ <;> intro hp) | (with_reducible refine brK_intro ?_ ?_ <;> intro hb <;> try rw [hb]) | (with_reducible refine draw_in (by unfold DrawOk; decide +kernel) ?_) | (with_reducible refine And.intro (by first | omega | (simp only [List.length_map, List.length_take]; omega)) ?_) | fail) <;> try simp only [↓PR, PO, PC, PX, tyI, tyF, tyX, tyL, tyK, tyB, tyE, tyM, tyP, tyQ, Nat.reduceBEq, Nat.reduceAdd, Nat.reduceMul, Nat.reduceSub, Nat.reduceLeDiff, Nat.reduceEqDiff, Nat.reduceLT, Nat.reducePow, Nat.reduceBneDiff, Nat.reduceBNe, Int.reduceBEq, Int.reduceEq, Int.reduceLT, Int.reduceLE, Int.reduceToNat, String.reduceBEq]))
        rw [placeTo_n]
        refine call_inl (edges_inl (place := placeF r l.length) hfit (by omega) hS hC (by simp [placeF]) hok (by simp only [↓PR, PO, PC, PX, tyI, tyF, tyX, tyL, tyK, tyB, tyE, tyM, tyP, tyQ, Nat.reduceBEq, Nat.reduceAdd, Nat.reduceMul, Nat.reduceSub, Nat.reduceLeDiff, Nat.reduceEqDiff, Nat.reduceLT, Nat.reducePow, Nat.reduceBneDiff, Nat.reduceBNe, Int.reduceBEq, Int.reduceEq, Int.reduceLT, Int.reduceLE, Int.reduceToNat, String.reduceBEq]) (by simp only [↓PR, PO, PC, PX, tyI, tyF, tyX, tyL, tyK, tyB, tyE, tyM, tyP, tyQ, Nat.reduceBEq, Nat.reduceAdd, Nat.reduceMul, Nat.reduceSub, Nat.reduceLeDiff, Nat.reduceEqDiff, Nat.reduceLT, Nat.reducePow, Nat.reduceBneDiff, Nat.reduceBNe, Int.reduceBEq, Int.reduceEq, Int.reduceLT, Int.reduceLE, Int.reduceToNat, String.reduceBEq]) (by simp only [↓PR, PO, PC, PX, tyI, tyF, tyX, tyL, tyK, tyB, tyE, tyM, tyP, tyQ, Nat.reduceBEq, Nat.reduceAdd, Nat.reduceMul, Nat.reduceSub, Nat.reduceLeDiff, Nat.reduceEqDiff, Nat.reduceLT, Nat.reducePow, Nat.reduceBneDiff, Nat.reduceBNe, Int.reduceBEq, Int.reduceEq, Int.reduceLT, Int.reduceLE, Int.reduceToNat, String.reduceBEq]) fun σ2 hL hm => ?_)
        have r12 := hL.r (t := 12) (r := .ref 12 0) (by simp only [↓PR, PO, PC, PX, tyI, tyF, tyX, tyL, tyK, tyB, tyE, tyM, tyP, tyQ, Nat.reduceBEq, Nat.reduceAdd, Nat.reduceMul, Nat.reduceSub, Nat.reduceLeDiff, Nat.reduceEqDiff, Nat.reduceLT, Nat.reducePow, Nat.reduceBneDiff, Nat.reduceBNe, Int.reduceBEq, Int.reduceEq, Int.reduceLT, Int.reduceLE, Int.reduceToNat, String.reduceBEq]) up_ref1
        have m12 := hL.m (o := 12) (x := .box [.own 2008]) rfl rfl (by simp only [↓PR, PO, PC, PX, tyI, tyF, tyX, tyL, tyK, tyB, tyE, tyM, tyP, tyQ, Nat.reduceBEq, Nat.reduceAdd, Nat.reduceMul, Nat.reduceSub, Nat.reduceLeDiff, Nat.reduceEqDiff, Nat.reduceLT, Nat.reducePow, Nat.reduceBneDiff, Nat.reduceBNe, Int.reduceBEq, Int.reduceEq, Int.reduceLT, Int.reduceLE, Int.reduceToNat, String.reduceBEq]) up_boxO
        (refine of_gate ?_; repeat' ((first | (with_reducible refine gate_in ?_) | (with_reducible refine spK_intro ?_ ?_ <;> intro hp) | (with_reducible refine brK_intro ?_ ?_ <;> intro hb <;> try rw [hb]) | (with_reducible refine draw_in (by unfold DrawOk; decide +kernel) ?_) | (with_reducible refine And.intro (by first | omega | (simp only [List.length_map, List.length_take]; omega)) ?_) | fail) <;> try simp only [↓PR, PO, PC, PX, tyI, tyF, tyX, tyL, tyK, tyB, tyE, tyM, tyP, tyQ, Nat.reduceBEq, Nat.reduceAdd, Nat.reduceMul, Nat.reduceSub, Nat.reduceLeDiff, Nat.reduceEqDiff, Nat.reduceLT, Nat.reducePow, Nat.reduceBneDiff, Nat.reduceBNe, Int.reduceBEq, Int.reduceEq, Int.reduceLT, Int.reduceLE, Int.reduceToNat, String.reduceBEq, one, r12, m12, hm]))
        simp
    · have hpl := placeTo_len (r := r) (n := l.length) (k := k)
      simp only [List.length_map, hpl] at hp
      have hB : wholeB r l.length = false := by
        have : ¬ r.length = l.length := by omega
        simp [wholeB, this]
      simp [hB]
  · have e1 : buildE h C r = lookE h C := by rw [buildE, if_neg hE]
    have e2 : buildV h C r = [] := by rw [buildV, e1, if_neg hE]
    have hA : lookA h C = trA [] [] 0 := by rw [lookA, if_neg hE]
    rw [e1, e2]
    (refine of_gate ?_; repeat' ((first | (with_reducible refine gate_in ?_) | (with_reducible refine spK_intro ?_ ?_ <;> intro hp) | (with_reducible refine brK_intro ?_ ?_ <;> intro hb <;> try rw [hb]) | (with_reducible refine draw_in (by unfold DrawOk; decide +kernel) ?_) | (with_reducible refine And.intro (by first | omega | (simp only [List.length_map, List.length_take]; omega)) ?_) | fail) <;> try simp only [↓PR, PO, PC, PX, tyI, tyF, tyX, tyL, tyK, tyB, tyE, tyM, tyP, tyQ, Nat.reduceBEq, Nat.reduceAdd, Nat.reduceMul, Nat.reduceSub, Nat.reduceLeDiff, Nat.reduceEqDiff, Nat.reduceLT, Nat.reducePow, Nat.reduceBneDiff, Nat.reduceBNe, Int.reduceBEq, Int.reduceEq, Int.reduceLT, Int.reduceLE, Int.reduceToNat, String.reduceBEq]))
    refine call_dat (t69 h C hC) ?_
    rw [hA]
    generalize lookE h C = c at hE
    (refine of_gate ?_; repeat' ((first | (with_reducible refine gate_in ?_) | (with_reducible refine spK_intro ?_ ?_ <;> intro hp) | (with_reducible refine brK_intro ?_ ?_ <;> intro hb <;> try rw [hb]) | (with_reducible refine draw_in (by unfold DrawOk; decide +kernel) ?_) | (with_reducible refine And.intro (by first | omega | (simp only [List.length_map, List.length_take]; omega)) ?_) | fail) <;> try simp only [↓PR, PO, PC, PX, tyI, tyF, tyX, tyL, tyK, tyB, tyE, tyM, tyP, tyQ, Nat.reduceBEq, Nat.reduceAdd, Nat.reduceMul, Nat.reduceSub, Nat.reduceLeDiff, Nat.reduceEqDiff, Nat.reduceLT, Nat.reducePow, Nat.reduceBneDiff, Nat.reduceBNe, Int.reduceBEq, Int.reduceEq, Int.reduceLT, Int.reduceLE, Int.reduceToNat, String.reduceBEq, hE]))
theorem c35 {h : List Ev} {C : Nat} (hC : C < 2 ^ 32) {r : List Int} (hrl : r.length ≤ 1000000) {dst : Option Tmp} {σ : S} {K : S → Prop} (hK : σ.ret dst [.a (unsA (buildV h C r)), .a (I (buildE h C r))] K) : callV Tryd.prog GL 35 [.a (evsA h), .a (U C), .a (intsA r)] dst σ K := call_dat (t35 h C hC r hrl) hK
/-- Two transactions, of which one reads what the other writes. -/
def aliveG : List Ev := [⟨0, 1, 0, 0⟩, ⟨1, 1, 0, 0⟩, ⟨4, 1, 0, 5⟩, ⟨5, 1, 0, 0⟩, ⟨6, 1, 0, 0⟩, ⟨0, 2, 0, 0⟩, ⟨1, 2, 0, 0⟩, ⟨2, 2, 0, 0⟩, ⟨3, 2, 0, 5⟩]
theorem aliveG_e : buildE aliveG 1 [1, 0] = 0 := by decide +kernel
theorem aliveG_v : buildV aliveG 1 [1, 0] = [2, 0] := by decide +kernel
theorem t36 : Holds Tryd.prog GL 36 [] [.a (B true)] := by
  refine fn_holds (vs := [.tmp 0]) (by kernel_rfl) Tryd.func36 rfl rfl (by kernel_rfl) (by kernel_rfl) rfl ?_
  have hrep : (List.replicate 9 [dI 0, dI 0, dI 0, dI 0]).flatten = [dI 0, dI 0, dI 0, dI 0, dI 0, dI 0, dI 0, dI 0, dI 0, dI 0, dI 0, dI 0, dI 0, dI 0, dI 0, dI 0, dI 0, dI 0, dI 0, dI 0, dI 0, dI 0, dI 0, dI 0, dI 0, dI 0, dI 0, dI 0, dI 0, dI 0, dI 0, dI 0, dI 0, dI 0, dI 0, dI 0] := rfl
  (refine of_gate ?_; repeat' ((first | (with_reducible refine gate_in ?_) | (with_reducible refine spK_intro ?_ ?_ <;> intro hp) | (with_reducible refine brK_intro ?_ ?_ <;> intro hb <;> try rw [hb]) | (with_reducible refine draw_in (by unfold DrawOk; decide +kernel) ?_) | (with_reducible refine And.intro (by first | omega | (simp only [List.length_map, List.length_take]; omega)) ?_) | fail) <;> try simp only [↓PR, PO, PC, PX, tyI, tyF, tyX, tyL, tyK, tyB, tyE, tyM, tyP, tyQ, Nat.reduceBEq, Nat.reduceAdd, Nat.reduceMul, Nat.reduceSub, Nat.reduceLeDiff, Nat.reduceEqDiff, Nat.reduceLT, Nat.reducePow, Nat.reduceBneDiff, Nat.reduceBNe, Int.reduceBEq, Int.reduceEq, Int.reduceLT, Int.reduceLE, Int.reduceToNat, String.reduceBEq, hrep]))
  refine call_rest _ (t35 aliveG 1 (by decide) [1, 0] (by decide)) ?_
  rw [aliveG_e, aliveG_v]
  simp only [↓PR, PO, PC, PX, tyI, tyF, tyX, tyL, tyK, tyB, tyE, tyM, tyP, tyQ, Nat.reduceBEq, Nat.reduceAdd, Nat.reduceMul, Nat.reduceSub, Nat.reduceLeDiff, Nat.reduceEqDiff, Nat.reduceLT, Nat.reducePow, Nat.reduceBneDiff, Nat.reduceBNe, Int.reduceBEq, Int.reduceEq, Int.reduceLT, Int.reduceLE, Int.reduceToNat, String.reduceBEq, aliveG, Ev.enc_eq, List.map_cons, List.map_nil, ienc_eq]
  refine ⟨rfl, ?_⟩
  (refine of_gate ?_; repeat' ((first | (with_reducible refine gate_in ?_) | (with_reducible refine spK_intro ?_ ?_ <;> intro hp) | (with_reducible refine brK_intro ?_ ?_ <;> intro hb <;> try rw [hb]) | (with_reducible refine draw_in (by unfold DrawOk; decide +kernel) ?_) | (with_reducible refine And.intro (by first | omega | (simp only [List.length_map, List.length_take]; omega)) ?_) | fail) <;> try simp only [↓PR, PO, PC, PX, tyI, tyF, tyX, tyL, tyK, tyB, tyE, tyM, tyP, tyQ, Nat.reduceBEq, Nat.reduceAdd, Nat.reduceMul, Nat.reduceSub, Nat.reduceLeDiff, Nat.reduceEqDiff, Nat.reduceLT, Nat.reducePow, Nat.reduceBneDiff, Nat.reduceBNe, Int.reduceBEq, Int.reduceEq, Int.reduceLT, Int.reduceLE, Int.reduceToNat, String.reduceBEq, uenc_eq, List.map_cons, List.map_nil]))
  all_goals simp_all
theorem c36 {dst : Option Tmp} {σ : S} {K : S → Prop} (hK : S.ret σ dst [.a (B true)] K) : callV Tryd.prog GL 36 [] dst σ K := call_dat t36 hK
end Go.VC
namespace Go.VC
open Go.RowKit Go.Proofs Go.IntWalk
theorem cutJ (N : Nat) (r : List Int) : List.take (min (r.length : Int) N).toNat (r.map ienc) = (r.take N).map ienc := by
  have : (min (r.length : Int) N).toNat = min r.length N := by omega
  rw [this, ← List.map_take]
  congr 1
  rcases Nat.le_total r.length N with hl | hl
  · rw [Nat.min_eq_left hl, List.take_of_length_le (Nat.le_refl _), List.take_of_length_le hl]
  · rw [Nat.min_eq_right hl]
/-- All bits of rows are in other rows. -/
structure LeR (a b : List Nat) : Prop where
  len : a.length = b.length
  bit : ∀ (i x y : Nat), a[i]? = some x → b[i]? = some y → ∀ q, x.testBit q = true → y.testBit q = true
theorem LeR.refl (a : List Nat) : LeR a a := ⟨rfl, fun i x y h1 h2 q h => by rw [h1] at h2; cases h2; exact h⟩
theorem or_bit {x k q : Nat} : (x ||| 2 ^ k).testBit q = (x.testBit q || decide (k = q)) := by
  rw [Nat.testBit_or, Nat.testBit_two_pow]
theorem addE_get {a : List Nat} {i k j x : Nat} (h : (addE a i k)[j]? = some x) : ∃ x0, a[j]? = some x0 ∧ ∀ q, x.testBit q = (x0.testBit q || (decide (i = j) && decide (k = q))) := by
  unfold addE at h
  split at h
  · rename_i b hb
    rw [List.getElem?_set] at h
    split at h
    · rename_i e
      subst e
      rw [if_pos (List.getElem?_eq_some_iff.1 hb).1] at h
      cases h
      exact ⟨b, hb, fun q => by rw [or_bit]; simp⟩
    · rename_i e
      exact ⟨x, h, fun q => by simp [e]⟩
  · rename_i hn
    exact ⟨x, h, fun q => by
      have : ¬ i = j := fun e => by subst e; rw [hn] at h; cases h
      simp [this]⟩
theorem addE_len {a : List Nat} {i k : Nat} : (addE a i k).length = a.length := by
  unfold addE; split <;> simp
theorem LeR.add {a b : List Nat} (h : LeR a b) (i k : Nat) : LeR (addE a i k) (addE b i k) := by
  refine ⟨by rw [addE_len, addE_len]; exact h.len, fun j x y hx hy q hq => ?_⟩
  obtain ⟨x0, hx0, ex⟩ := addE_get hx
  obtain ⟨y0, hy0, ey⟩ := addE_get hy
  rw [ex] at hq
  rw [ey]
  cases hx : x0.testBit q with
  | true => rw [h.bit j x0 y0 hx0 hy0 q hx]; rfl
  | false => rw [hx, Bool.false_or] at hq; rw [hq, Bool.or_true]
theorem LeR.ge {a b : List Nat} (h : LeR a b) (i k : Nat) : LeR a (addE b i k) := by
  refine ⟨by rw [addE_len]; exact h.len, fun j x y hx hy q hq => ?_⟩
  obtain ⟨y0, hy0, ey⟩ := addE_get hy
  rw [ey, h.bit j x y0 hx hy0 q hq]; rfl
theorem LeR.fold {f g : List Nat → Nat → List Nat} (hfg : ∀ a b k, LeR a b → LeR (f a k) (g b k)) : ∀ (ks : List Nat) (a b : List Nat), LeR a b → LeR (ks.foldl f a) (ks.foldl g b)
  | [], _, _, h => h
  | k :: ks, a, b, h => LeR.fold hfg ks _ _ (hfg a b k h)
theorem stepC_mono {l : List Txn} {C C' : Nat} (hW : ∀ c v, wrC l C c v = true → wrC l C' c v = true) {place : List Int} {t : Nat} {w v : Int} {a b : List Nat} (c : Nat) (h : LeR a b) : LeR (stepC l C place t w v a c) (stepC l C' place t w v b c) := by
  unfold stepC
  by_cases h1 : c = t ∨ (c : Int) = w
  · rw [if_pos (by rcases h1 with h | h; exact .inl h; exact .inr (.inl h)), if_pos (by rcases h1 with h | h; exact .inl h; exact .inr (.inl h))]
    exact h
  · cases h2 : wrC l C c v with
    | true =>
      have h3 := hW c v h2
      have n1 : ¬ (c = t ∨ (c : Int) = w ∨ true = false) := by simpa using h1
      rw [h3, if_neg n1, if_neg n1]
      by_cases h4 : w < 0 ∨ place.getD w.toNat 0 < place.getD c 0
      · rw [if_pos h4, if_pos h4]; exact h.add _ _
      · rw [if_neg h4, if_neg h4]; exact h.add _ _
    | false =>
      rw [if_pos (.inr (.inr rfl))]
      split
      · exact h
      · split
        · exact h.ge _ _
        · exact h.ge _ _
theorem stepI_mono {l : List Txn} {sr : List (List Int)} {C C' : Nat} (hW : ∀ c v, wrC l C c v = true → wrC l C' c v = true) {place : List Int} {t : Nat} {a b : List Nat} (i : Nat) (h : LeR a b) : LeR (stepI l sr C place t a i) (stepI l sr C' place t b i) := by
  unfold stepI
  split
  · split
    · exact h
    · refine LeR.fold (fun a b k h => stepC_mono hW k h) _ _ _ ?_
      split
      · exact h.add _ _
      · exact h
  · exact h
theorem edges_mono {l : List Txn} {sr : List (List Int)} {C C' : Nat} (hW : ∀ c v, wrC l C c v = true → wrC l C' c v = true) {place : List Int} {a : List Nat} : LeR (edgesF l sr C place a) (edgesF l sr C' place a) := by
  refine LeR.fold (fun a b t h => ?_) _ _ _ (LeR.refl a)
  unfold stepT
  split
  · exact LeR.fold (fun a b i h => stepI_mono hW i h) _ _ _ h
  · exact h
theorem wrC_more {l : List Txn} {C M : Nat} (c : Nat) (v : Int) (h : wrC l C c v = true) : wrC l (C ||| M) c v = true := by
  unfold wrC at h ⊢
  split at h
  · rename_i x hx
    rw [Bool.and_eq_true] at h
    rw [Nat.testBit_or, h.1, h.2]; rfl
  · cases h
theorem edges_len {l : List Txn} {sr : List (List Int)} {C : Nat} {place : List Int} {a : List Nat} (hl : l.length ≤ 30) (hS : SrcT l sr) (h : RowsOk l.length a) : RowsOk l.length (edgesF l sr C place a) := by
  have fold : ∀ {f : List Nat → Nat → List Nat} {n : Nat} (ks : List Nat) (a : List Nat), (∀ a k, k ∈ ks → RowsOk n a → RowsOk n (f a k)) → RowsOk n a → RowsOk n (ks.foldl f a) := by
    intro f n ks
    induction ks with
    | nil => intro a _ h; exact h
    | cons k ks ih => intro a hf h; exact ih _ (fun a k hk => hf a k (List.mem_cons_of_mem _ hk)) (hf a k (List.mem_cons_self ..) h)
  refine fold _ _ (fun a t ht h => ?_) h
  have ht := List.mem_range.1 ht
  unfold stepT
  split
  · refine fold _ _ (fun a i hi h => ?_) h
    unfold stepI
    split
    · rename_i o w ho hw
      split
      · exact h
      · have hwl : w.toNat < 32 := by
          obtain ⟨r, hr, hrw⟩ := Option.bind_eq_some_iff.1 hw
          rcases hS.src t r w hr (List.mem_of_getElem? hrw) with h | h | ⟨k, rfl, hk⟩ <;> omega
        refine fold _ _ (fun a c hc h => ?_) ?_
        · have hc := List.mem_range.1 hc
          unfold stepC
          split
          · exact h
          · split
            · exact addE_ok h (by omega)
            · exact addE_ok h hwl
        · split
          · exact addE_ok h (by omega)
          · exact h
    · exact h
  · exact h
theorem u32_andnot {a b : Nat} (ha : a < 2 ^ 32) (hb : b < 2 ^ 32) (h : ∀ q, a.testBit q = true → b.testBit q = true) : IntKind.u32.wrap (BitVec.ofInt IntKind.u32.bits (a : Int) &&& ~~~ BitVec.ofInt IntKind.u32.bits (b : Int)).toNat = 0 := by
  have e : (BitVec.ofInt 32 (a : Int) &&& ~~~ BitVec.ofInt 32 (b : Int)) = 0#32 := by
    rw [BitVec.ofInt_natCast, BitVec.ofInt_natCast]
    refine BitVec.eq_of_getLsbD_eq fun i hi => ?_
    simp only [BitVec.getLsbD_and, BitVec.getLsbD_not, BitVec.getLsbD_ofNat]
    cases hx : a.testBit i with
    | true => simp [h i hx]
    | false => simp
  have e2 : (BitVec.ofInt IntKind.u32.bits (a : Int) &&& ~~~ BitVec.ofInt IntKind.u32.bits (b : Int)).toNat = 0 := by
    show (BitVec.ofInt 32 (a : Int) &&& ~~~ BitVec.ofInt 32 (b : Int)).toNat = 0
    rw [e]; rfl
  rw [e2]; rfl
set_option maxHeartbeats 1000000 in
theorem t8 (h0 : List Ev) (C M : Nat) (hC : C < 2 ^ 32) (hM : M < 2 ^ 32) (r0 : List Int) : Holds Tryd.prog GL 8 [evsA h0, U C, U M, intsA r0] [.a (B true)] := by
  refine fn_holds (vs := [.tmp 8]) (by kernel_rfl) Tryd.func8 rfl rfl (by kernel_rfl) (by kernel_rfl) rfl ?_
  have m0 : (0 : Int) ≤ min (h0.length : Int) 65 := by omega
  have m1 : min (h0.length : Int) 65 ≤ (h0.length : Int) := by omega
  have n0 : (0 : Int) ≤ min (r0.length : Int) 12 := by omega
  have n1 : min (r0.length : Int) 12 ≤ (r0.length : Int) := by omega
  have hc : List.take (min (h0.length : Int) 65).toNat (h0.map Ev.enc) = (h0.take 65).map Ev.enc := cutN 65 h0
  have hd : List.take (min (r0.length : Int) 12).toNat (r0.map ienc) = (r0.take 12).map ienc := cutJ 12 r0
  have hl65 : (h0.take 65).length ≤ 65 := by simp; omega
  have hr12 : (r0.take 12).length ≤ 12 := by simp; omega
  generalize h0.take 65 = h at hc hl65
  generalize r0.take 12 = r at hd hr12
  have hCM : C ||| M < 2 ^ 32 := Nat.or_lt_two_pow hC hM
  by_cases hE : buildE h C r = 0 ∧ buildE h (C ||| M) r = 0
  · obtain ⟨E1, E2⟩ := hE
    have key : ∃ L1 L2 : List Nat, buildV h C r = L1 ∧ buildV h (C ||| M) r = L2 ∧ L1.length = r.length ∧ L1.length ≤ 6 ∧ LeR L1 L2 ∧ (∀ b ∈ L1, b < 2 ^ 32) ∧ ∀ b ∈ L2, b < 2 ^ 32 := by
      have hlk : lookE h C = 0 := by
        unfold buildE at E1
        split at E1
        · assumption
        · rename_i hn; exact absurd E1 hn
      have hsE : sourcesE h = 0 := by
        unfold lookE at hlk
        split at hlk
        · assumption
        · rename_i hn; exact absurd hlk hn
      have hwb : wholeB r (txns h).length = true := by
        unfold buildE at E1
        rw [if_pos hlk] at E1
        split at E1
        · assumption
        · cases E1
      have hrn : r.length = (txns h).length := by
        simp only [wholeB, Bool.and_eq_true, decide_eq_true_eq] at hwb; exact hwb.1
      have hl6 := txns_len6 h
      have hS := srcT hsE
      have ok1 := edges_len (C := C) (place := placeF r (txns h).length) (by omega) hS (after_ok (txns h) (by omega))
      have ok2 := edges_len (C := C ||| M) (place := placeF r (txns h).length) (by omega) hS (after_ok (txns h) (by omega))
      refine ⟨_, _, by rw [buildV, if_pos E1], by rw [buildV, if_pos E2], by rw [ok1.len, hrn], by rw [ok1.len]; exact hl6, edges_mono fun c v => wrC_more c v, ok1.lt, ok2.lt⟩
    obtain ⟨L1, L2, V1, V2, hl1, hl6, hle, lt1, lt2⟩ := key
    have hle2 := hle.len
    have hlI : (L1.length : Int) = (L2.length : Int) := by omega
    have hrI : (L2.length : Int) = (r.length : Int) := by omega
    (refine of_gate ?_; repeat' ((first | (with_reducible refine gate_in ?_) | (with_reducible refine spK_intro ?_ ?_ <;> intro hp) | (with_reducible refine brK_intro ?_ ?_ <;> intro hb <;> try rw [hb]) | (with_reducible refine draw_in (by unfold DrawOk; decide +kernel) ?_) | (with_reducible refine And.intro (by first | omega | (simp only [List.length_map, List.length_take]; omega)) ?_) | fail) <;> try simp only [↓PR, PO, PC, PX, tyI, tyF, tyX, tyL, tyK, tyB, tyE, tyM, tyP, tyQ, Nat.reduceBEq, Nat.reduceAdd, Nat.reduceMul, Nat.reduceSub, Nat.reduceLeDiff, Nat.reduceEqDiff, Nat.reduceLT, Nat.reducePow, Nat.reduceBneDiff, Nat.reduceBNe, Int.reduceBEq, Int.reduceEq, Int.reduceLT, Int.reduceLE, Int.reduceToNat, String.reduceBEq, List.length_map, m0, m1, n0, n1, hc, hd, Int.toNat_zero, bne_self_eq_false, u32_or hC hM]))
    refine c35 (r := r) hC (by omega) ?_
    (refine of_gate ?_; repeat' ((first | (with_reducible refine gate_in ?_) | (with_reducible refine spK_intro ?_ ?_ <;> intro hp) | (with_reducible refine brK_intro ?_ ?_ <;> intro hb <;> try rw [hb]) | (with_reducible refine draw_in (by unfold DrawOk; decide +kernel) ?_) | (with_reducible refine And.intro (by first | omega | (simp only [List.length_map, List.length_take]; omega)) ?_) | fail) <;> try simp only [↓PR, PO, PC, PX, tyI, tyF, tyX, tyL, tyK, tyB, tyE, tyM, tyP, tyQ, Nat.reduceBEq, Nat.reduceAdd, Nat.reduceMul, Nat.reduceSub, Nat.reduceLeDiff, Nat.reduceEqDiff, Nat.reduceLT, Nat.reducePow, Nat.reduceBneDiff, Nat.reduceBNe, Int.reduceBEq, Int.reduceEq, Int.reduceLT, Int.reduceLE, Int.reduceToNat, String.reduceBEq, E1, V1, hc, hd, u32_or hC hM]))
    refine c35 (r := r) hCM (by omega) ?_
    (refine of_gate ?_; repeat' ((first | (with_reducible refine gate_in ?_) | (with_reducible refine spK_intro ?_ ?_ <;> intro hp) | (with_reducible refine brK_intro ?_ ?_ <;> intro hb <;> try rw [hb]) | (with_reducible refine draw_in (by unfold DrawOk; decide +kernel) ?_) | (with_reducible apply c36) | (with_reducible refine And.intro (by first | omega | (simp only [List.length_map, List.length_take]; omega)) ?_) | fail) <;> try simp only [↓PR, PO, PC, PX, tyI, tyF, tyX, tyL, tyK, tyB, tyE, tyM, tyP, tyQ, Nat.reduceBEq, Nat.reduceAdd, Nat.reduceMul, Nat.reduceSub, Nat.reduceLeDiff, Nat.reduceEqDiff, Nat.reduceLT, Nat.reducePow, Nat.reduceBneDiff, Nat.reduceBNe, Int.reduceBEq, Int.reduceEq, Int.reduceLT, Int.reduceLE, Int.reduceToNat, String.reduceBEq, E2, V2, hc, hd, List.length_map, hlI, hrI, bne_self_eq_false]))
    refine awp_loopA (fun t : Nat => [(9, .a (unsA L1)), (11, .a (unsA L2)), (64, .a (I L1.length)), (65, .a (I t))]) (fun _ => []) (fun t => t ≤ L1.length) (L1.length - ·) 0 ?_ ?_ (Nat.zero_le _) ?_
    · simp only [↓PR, PO, PC, PX, tyI, tyF, tyX, tyL, tyK, tyB, tyE, tyM, tyP, tyQ, Nat.reduceBEq, Nat.reduceAdd, Nat.reduceMul, Nat.reduceSub, Nat.reduceLeDiff, Nat.reduceEqDiff, Nat.reduceLT, Nat.reducePow, Nat.reduceBneDiff, Nat.reduceBNe, Int.reduceBEq, Int.reduceEq, Int.reduceLT, Int.reduceLE, Int.reduceToNat, String.reduceBEq, List.length_map, hlI, hrI]
    · simp only [↓PR, PO, PC, PX, tyI, tyF, tyX, tyL, tyK, tyB, tyE, tyM, tyP, tyQ, Nat.reduceBEq, Nat.reduceAdd, Nat.reduceMul, Nat.reduceSub, Nat.reduceLeDiff, Nat.reduceEqDiff, Nat.reduceLT, Nat.reducePow, Nat.reduceBneDiff, Nat.reduceBNe, Int.reduceBEq, Int.reduceEq, Int.reduceLT, Int.reduceLE, Int.reduceToNat, String.reduceBEq]
    intro t j ht
    (refine of_gate ?_; repeat' ((first | (with_reducible refine gate_in ?_) | (with_reducible refine spK_intro ?_ ?_ <;> intro hp) | (with_reducible refine brK_intro ?_ ?_ <;> intro hb <;> try rw [hb]) | (with_reducible refine draw_in (by unfold DrawOk; decide +kernel) ?_) | (with_reducible refine And.intro (by first | omega | (simp only [List.length_map, List.length_take]; omega)) ?_) | fail) <;> try simp only [↓PR, PO, PC, PX, tyI, tyF, tyX, tyL, tyK, tyB, tyE, tyM, tyP, tyQ, Nat.reduceBEq, Nat.reduceAdd, Nat.reduceMul, Nat.reduceSub, Nat.reduceLeDiff, Nat.reduceEqDiff, Nat.reduceLT, Nat.reducePow, Nat.reduceBneDiff, Nat.reduceBNe, Int.reduceBEq, Int.reduceEq, Int.reduceLT, Int.reduceLE, Int.reduceToNat, String.reduceBEq]))
    have htl : t < L1.length := by omega
    have hw := wrap_succ (n := L1.length) htl (by simp only [maxLen]; omega)
    obtain ⟨x, hx⟩ : ∃ x, L1[t]? = some x := ⟨_, List.getElem?_eq_getElem htl⟩
    obtain ⟨y, hy⟩ : ∃ y, L2[t]? = some y := ⟨_, List.getElem?_eq_getElem (by omega)⟩
    have hz := u32_andnot (lt1 x (List.mem_of_getElem? hx)) (lt2 y (List.mem_of_getElem? hy)) (hle.bit t x y hx hy)
    (refine of_gate ?_; repeat' ((first | (with_reducible refine gate_in ?_) | (with_reducible refine spK_intro ?_ ?_ <;> intro hp) | (with_reducible refine brK_intro ?_ ?_ <;> intro hb <;> try rw [hb]) | (with_reducible refine draw_in (by unfold DrawOk; decide +kernel) ?_) | (with_reducible refine And.intro (by first | omega | (simp only [List.length_map, List.length_take]; omega)) ?_) | fail) <;> try simp only [↓PR, PO, PC, PX, tyI, tyF, tyX, tyL, tyK, tyB, tyE, tyM, tyP, tyQ, Nat.reduceBEq, Nat.reduceAdd, Nat.reduceMul, Nat.reduceSub, Nat.reduceLeDiff, Nat.reduceEqDiff, Nat.reduceLT, Nat.reducePow, Nat.reduceBneDiff, Nat.reduceBNe, Int.reduceBEq, Int.reduceEq, Int.reduceLT, Int.reduceLE, Int.reduceToNat, String.reduceBEq, hx, hy, uenc_eq, List.length_map, hz, hw]))
    (refine ⟨t + 1, ?_, ?_, htl, by dsimp only; omega⟩ <;> simp only [↓PR, PO, PC, PX, tyI, tyF, tyX, tyL, tyK, tyB, tyE, tyM, tyP, tyQ, Nat.reduceBEq, Nat.reduceAdd, Nat.reduceMul, Nat.reduceSub, Nat.reduceLeDiff, Nat.reduceEqDiff, Nat.reduceLT, Nat.reducePow, Nat.reduceBneDiff, Nat.reduceBNe, Int.reduceBEq, Int.reduceEq, Int.reduceLT, Int.reduceLE, Int.reduceToNat, String.reduceBEq, hw])
  · (refine of_gate ?_; repeat' ((first | (with_reducible refine gate_in ?_) | (with_reducible refine spK_intro ?_ ?_ <;> intro hp) | (with_reducible refine brK_intro ?_ ?_ <;> intro hb <;> try rw [hb]) | (with_reducible refine draw_in (by unfold DrawOk; decide +kernel) ?_) | (with_reducible refine And.intro (by first | omega | (simp only [List.length_map, List.length_take]; omega)) ?_) | fail) <;> try simp only [↓PR, PO, PC, PX, tyI, tyF, tyX, tyL, tyK, tyB, tyE, tyM, tyP, tyQ, Nat.reduceBEq, Nat.reduceAdd, Nat.reduceMul, Nat.reduceSub, Nat.reduceLeDiff, Nat.reduceEqDiff, Nat.reduceLT, Nat.reducePow, Nat.reduceBneDiff, Nat.reduceBNe, Int.reduceBEq, Int.reduceEq, Int.reduceLT, Int.reduceLE, Int.reduceToNat, String.reduceBEq, List.length_map, m0, m1, n0, n1, hc, hd, Int.toNat_zero, bne_self_eq_false, u32_or hC hM]))
    refine c35 (r := r) hC (by omega) ?_
    (refine of_gate ?_; repeat' ((first | (with_reducible refine gate_in ?_) | (with_reducible refine spK_intro ?_ ?_ <;> intro hp) | (with_reducible refine brK_intro ?_ ?_ <;> intro hb <;> try rw [hb]) | (with_reducible refine draw_in (by unfold DrawOk; decide +kernel) ?_) | (with_reducible refine And.intro (by first | omega | (simp only [List.length_map, List.length_take]; omega)) ?_) | fail) <;> try simp only [↓PR, PO, PC, PX, tyI, tyF, tyX, tyL, tyK, tyB, tyE, tyM, tyP, tyQ, Nat.reduceBEq, Nat.reduceAdd, Nat.reduceMul, Nat.reduceSub, Nat.reduceLeDiff, Nat.reduceEqDiff, Nat.reduceLT, Nat.reducePow, Nat.reduceBneDiff, Nat.reduceBNe, Int.reduceBEq, Int.reduceEq, Int.reduceLT, Int.reduceLE, Int.reduceToNat, String.reduceBEq, hc, hd, u32_or hC hM]))
    refine c35 (r := r) hCM (by omega) ?_
    (refine of_gate ?_; repeat' ((first | (with_reducible refine gate_in ?_) | (with_reducible refine spK_intro ?_ ?_ <;> intro hp) | (with_reducible refine brK_intro ?_ ?_ <;> intro hb <;> try rw [hb]) | (with_reducible refine draw_in (by unfold DrawOk; decide +kernel) ?_) | (with_reducible apply c36) | (with_reducible refine And.intro (by first | omega | (simp only [List.length_map, List.length_take]; omega)) ?_) | fail) <;> try simp only [↓PR, PO, PC, PX, tyI, tyF, tyX, tyL, tyK, tyB, tyE, tyM, tyP, tyQ, Nat.reduceBEq, Nat.reduceAdd, Nat.reduceMul, Nat.reduceSub, Nat.reduceLeDiff, Nat.reduceEqDiff, Nat.reduceLT, Nat.reducePow, Nat.reduceBneDiff, Nat.reduceBNe, Int.reduceBEq, Int.reduceEq, Int.reduceLT, Int.reduceLE, Int.reduceToNat, String.reduceBEq, hc, hd]))
    all_goals exact absurd ⟨by assumption, by assumption⟩ hE
theorem u32_nat {n : Int} (h : (Lit.int .u32 n).wf = true) : ∃ k : Nat, n = k ∧ k < 2 ^ 32 := by
  simp only [Lit.wf, Bool.and_eq_true, decide_eq_true_eq] at h
  obtain ⟨h1, h2⟩ := h
  have e1 : IntKind.u32.min = 0 := rfl
  have e2 : IntKind.u32.max = 4294967295 := rfl
  rw [e1] at h1; rw [e2] at h2
  exact ⟨n.toNat, by omega, by omega⟩
theorem t8r (h0 : List Ev) (C M : Int) (wC : (Lit.int .u32 C).wf = true) (wM : (Lit.int .u32 M).wf = true) (r0 : List Int) : Holds Tryd.prog GL 8 [evsA h0, .d (.v (.int .u32 C)), .d (.v (.int .u32 M)), intsA r0] [.a (B true)] := by
  obtain ⟨C, rfl, hC⟩ := u32_nat wC
  obtain ⟨M, rfl, hM⟩ := u32_nat wM
  exact t8 h0 C M hC hM r0
end Go.VC
