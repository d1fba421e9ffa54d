/- unique: what the law of a prefix's sources asks. -/
import Derived.Test.YtjmbgnncokeliaaDoorVUa
set_option maxRecDepth 100000
set_option linter.unusedSimpArgs false
set_option linter.unusedVariables false
namespace Go.VC
open Go.RowKit Go.Proofs Go.IntWalk
/-- A write, and a read of it. -/
def aliveU : List Ev := [⟨0, 1, 0, 0⟩, ⟨1, 1, 0, 0⟩, ⟨4, 1, 0, 5⟩, ⟨5, 1, 0, 0⟩, ⟨0, 2, 0, 0⟩, ⟨1, 2, 0, 0⟩, ⟨2, 2, 0, 0⟩, ⟨3, 2, 0, 5⟩]
theorem aliveU_e : sourcesE aliveU = 0 := by decide +kernel
theorem aliveU_r : sourcesR aliveU = [[0], [0]] := by decide +kernel
theorem intRow_eq (l : List Int) : intRow l = [.sl (l.map ienc)] := rfl
theorem intRow_len {l : List (List Int)} : (∀ c ∈ l.map intRow, c.length = 1) = True := eq_true fun c hc => by
  obtain ⟨e, _, rfl⟩ := List.mem_map.1 hc; rfl
theorem t29 : Holds Tryd.prog GL 29 [] [.a (B true)] := by
  refine fn_holds (vs := [.tmp 0]) (by kernel_rfl) Tryd.func29 rfl rfl (by kernel_rfl) (by kernel_rfl) rfl ?_
  (refine of_gate ?_; repeat' ((first | (with_reducible refine gate_in ?_) | (with_reducible refine spK_intro ?_ ?_ <;> intro hp) | (with_reducible refine brK_intro ?_ ?_ <;> intro hb <;> try rw [hb]) | (with_reducible refine draw_in (by unfold DrawOk; decide +kernel) ?_)) <;> try simp only [↓PR, PO, PC, PX, tyI, tyF, tyX, tyL, tyK, tyB, tyE, tyM, tyP, tyQ, Nat.reduceBEq, Nat.reduceAdd, Nat.reduceMul, Nat.reduceSub, Nat.reduceLeDiff, Nat.reduceEqDiff, Nat.reduceLT, Nat.reducePow, Nat.reduceBneDiff, Nat.reduceBNe, Int.reduceBEq, Int.reduceEq, Int.reduceLT, Int.reduceLE, Int.reduceToNat, String.reduceBEq]))
  refine call_rest _ (t28 aliveU) ?_
  rw [aliveU_e, aliveU_r]
  simp only [↓PR, PO, PC, PX, tyI, tyF, tyX, tyL, tyK, tyB, tyE, tyM, tyP, tyQ, Nat.reduceBEq, Nat.reduceAdd, Nat.reduceMul, Nat.reduceSub, Nat.reduceLeDiff, Nat.reduceEqDiff, Nat.reduceLT, Nat.reducePow, Nat.reduceBneDiff, Nat.reduceBNe, Int.reduceBEq, Int.reduceEq, Int.reduceLT, Int.reduceLE, Int.reduceToNat, String.reduceBEq, aliveU, Ev.enc_eq]
  refine ⟨rfl, ?_⟩
  (refine of_gate ?_; repeat' ((first | (with_reducible refine gate_in ?_) | (with_reducible refine spK_intro ?_ ?_ <;> intro hp) | (with_reducible refine brK_intro ?_ ?_ <;> intro hb <;> try rw [hb]) | (with_reducible refine draw_in (by unfold DrawOk; decide +kernel) ?_)) <;> try simp only [↓PR, PO, PC, PX, tyI, tyF, tyX, tyL, tyK, tyB, tyE, tyM, tyP, tyQ, Nat.reduceBEq, Nat.reduceAdd, Nat.reduceMul, Nat.reduceSub, Nat.reduceLeDiff, Nat.reduceEqDiff, Nat.reduceLT, Nat.reducePow, Nat.reduceBneDiff, Nat.reduceBNe, Int.reduceBEq, Int.reduceEq, Int.reduceLT, Int.reduceLE, Int.reduceToNat, String.reduceBEq, intRow_eq, ienc_eq]))
  refine call_own _ (t34 [0] [0]) (by simp only [↓PR, PO, PC, PX, tyI, tyF, tyX, tyL, tyK, tyB, tyE, tyM, tyP, tyQ, Nat.reduceBEq, Nat.reduceAdd, Nat.reduceMul, Nat.reduceSub, Nat.reduceLeDiff, Nat.reduceEqDiff, Nat.reduceLT, Nat.reducePow, Nat.reduceBneDiff, Nat.reduceBNe, Int.reduceBEq, Int.reduceEq, Int.reduceLT, Int.reduceLE, Int.reduceToNat, String.reduceBEq, argsA, argA, ienc_eq] <;> rfl) rfl ?_
  (refine of_gate ?_; repeat' ((first | (with_reducible refine gate_in ?_) | (with_reducible refine spK_intro ?_ ?_ <;> intro hp) | (with_reducible refine brK_intro ?_ ?_ <;> intro hb <;> try rw [hb]) | (with_reducible refine draw_in (by unfold DrawOk; decide +kernel) ?_)) <;> try simp only [↓PR, PO, PC, PX, tyI, tyF, tyX, tyL, tyK, tyB, tyE, tyM, tyP, tyQ, Nat.reduceBEq, Nat.reduceAdd, Nat.reduceMul, Nat.reduceSub, Nat.reduceLeDiff, Nat.reduceEqDiff, Nat.reduceLT, Nat.reducePow, Nat.reduceBneDiff, Nat.reduceBNe, Int.reduceBEq, Int.reduceEq, Int.reduceLT, Int.reduceLE, Int.reduceToNat, String.reduceBEq]))
  all_goals simp_all
theorem c29 {dst : Option Tmp} {σ : S} {K : S → Prop} (hK : S.ret σ dst [.a (B true)] K) : callV Tryd.prog GL 29 [] dst σ K := call_dat t29 hK
theorem sources_small (h : List Ev) : (sourcesR h).length ≤ h.length ∧ ∀ row ∈ sourcesR h, row.length ≤ h.length := by
  by_cases h0 : sourcesE h = 0
  · obtain ⟨_, kv, _, hR⟩ := sources_ok h0
    rw [hR, srcRows_len]
    refine ⟨tab_len _, fun row hr => ?_⟩
    obtain ⟨t, ht⟩ := List.getElem?_of_mem hr
    have := srcRows_get (kv := kv) (tabOf h) 0 t
    rw [show (srcRows kv (tabOf h) 0)[t]? = _ from this] at ht
    obtain ⟨r, hrr, rfl⟩ := Option.map_eq_some_iff.1 ht
    rw [srcRow_len]
    exact tab_ops _ r (List.mem_of_getElem? hrr)
  · rw [sources_bad h0]; simp
theorem c28 {h : List Ev} {dst : Option Tmp} {σ : S} {K : S → Prop} (hK : S.ret σ dst [.a (.d (.sl ((sourcesR h).map intRow))), .a (I (sourcesE h))] K) : callV Tryd.prog GL 28 [.a (evsA h)] dst σ K :=
  call_dat (t28 h) hK
theorem q28 {h : List Ev} {σ : S} {KR : R → Prop} (hK : KR (retR [(.d (.sl ((sourcesR h).map intRow))), (I (sourcesE h))])) : callVQ Tryd.prog GL 28 [.a (evsA h)] σ KR :=
  callQ_dat (res := [(.d (.sl ((sourcesR h).map intRow))), (I (sourcesE h))]) (t28 h) hK
theorem t6 (h0 : List Ev) (k0 : Int) : Holds Tryd.prog GL 6 [evsA h0, I k0] [.a (B true)] := by
  refine fn_holds (vs := [.tmp 4]) (by kernel_rfl) Tryd.func6 rfl rfl (by kernel_rfl) (by kernel_rfl) rfl ?_
  have m0 : (0 : Int) ≤ min (h0.length : Int) 65 := by omega
  have m1 : min (h0.length : Int) 65 ≤ (h0.length : Int) := by omega
  have hc : List.take (min (h0.length : Int) 65).toNat (h0.map Ev.enc) = (h0.take 65).map Ev.enc := cutN 65 h0
  have hl58 : (h0.take 65).length ≤ 65 := by simp; omega
  generalize h0.take 65 = h at hc hl58
  obtain ⟨w1, w2, w3⟩ := place_w k0 h.length (by omega)
  have pe := place_eq k0 h.length
  have pl := place_le k0 h.length
  generalize placeIn k0 h.length = k at pe pl
  have hne : ¬ ((h.length : Int) + 1 = 0) := by omega
  have hk1 : (k : Int) ≤ (h.length : Int) := by omega
  have htk : List.take k (h.map Ev.enc) = (h.take k).map Ev.enc := by rw [List.map_take]
  by_cases hE : sourcesE h = 0
  · obtain ⟨g1, g2, g3⟩ := grows_law hE pl
    obtain ⟨b1, b2⟩ := sources_small (h.take k)
    have htl : (h.take k).length ≤ 65 := by rw [List.length_take]; omega
    generalize hM : sourcesR (h.take k) = M at g2 g3 b1 b2
    generalize hL : sourcesR h = L at g2 g3
    (refine of_gate ?_; repeat' ((first | (with_reducible refine gate_in ?_) | (with_reducible refine spK_intro ?_ ?_ <;> intro hp) | (with_reducible refine brK_intro ?_ ?_ <;> intro hb <;> try rw [hb]) | (with_reducible refine draw_in (by unfold DrawOk; decide +kernel) ?_) | (with_reducible apply c28) | (with_reducible apply c29)) <;> try simp only [↓PR, PO, PC, PX, tyI, tyF, tyX, tyL, tyK, tyB, tyE, tyM, tyP, tyQ, Nat.reduceBEq, Nat.reduceAdd, Nat.reduceMul, Nat.reduceSub, Nat.reduceLeDiff, Nat.reduceEqDiff, Nat.reduceLT, Nat.reducePow, Nat.reduceBneDiff, Nat.reduceBNe, Int.reduceBEq, Int.reduceEq, Int.reduceLT, Int.reduceLE, Int.reduceToNat, String.reduceBEq, List.length_map, m0, m1, hc, w1, w2, w3, pe, hne, hk1, htk, hE, g1, hL, hM, Int.le_refl, Int.toNat_zero, bne_self_eq_false]))
    · omega
    refine awp_loopA (fun t : Nat => [(5, .a (.d (.sl (L.map intRow)))), (64, .a (.d (.sl (M.map intRow)))), (65, .a (I M.length)), (66, .a (I t))]) (fun _ => []) (fun t => t ≤ M.length) (M.length - ·) 0 ?_ ?_ (Nat.zero_le _) ?_
    · simp only [↓PR, PO, PC, PX, tyI, tyF, tyX, tyL, tyK, tyB, tyE, tyM, tyP, tyQ, Nat.reduceBEq, Nat.reduceAdd, Nat.reduceMul, Nat.reduceSub, Nat.reduceLeDiff, Nat.reduceEqDiff, Nat.reduceLT, Nat.reducePow, Nat.reduceBneDiff, Nat.reduceBNe, Int.reduceBEq, Int.reduceEq, Int.reduceLT, Int.reduceLE, Int.reduceToNat, String.reduceBEq]
    · simp only [↓PR, PO, PC, PX, tyI, tyF, tyX, tyL, tyK, tyB, tyE, tyM, tyP, tyQ, Nat.reduceBEq, Nat.reduceAdd, Nat.reduceMul, Nat.reduceSub, Nat.reduceLeDiff, Nat.reduceEqDiff, Nat.reduceLT, Nat.reducePow, Nat.reduceBneDiff, Nat.reduceBNe, Int.reduceBEq, Int.reduceEq, Int.reduceLT, Int.reduceLE, Int.reduceToNat, String.reduceBEq]
    intro t j ht
    (refine of_gate ?_; repeat' ((first | (with_reducible refine gate_in ?_) | (with_reducible refine spK_intro ?_ ?_ <;> intro hp) | (with_reducible refine brK_intro ?_ ?_ <;> intro hb <;> try rw [hb]) | (with_reducible refine draw_in (by unfold DrawOk; decide +kernel) ?_)) <;> try simp only [↓PR, PO, PC, PX, tyI, tyF, tyX, tyL, tyK, tyB, tyE, tyM, tyP, tyQ, Nat.reduceBEq, Nat.reduceAdd, Nat.reduceMul, Nat.reduceSub, Nat.reduceLeDiff, Nat.reduceEqDiff, Nat.reduceLT, Nat.reducePow, Nat.reduceBneDiff, Nat.reduceBNe, Int.reduceBEq, Int.reduceEq, Int.reduceLT, Int.reduceLE, Int.reduceToNat, String.reduceBEq, List.length_map]))
    · have htl : t < M.length := by omega
      have hx : M[t]? = some M[t] := List.getElem?_eq_getElem htl
      have hw := wrap_succ (n := M.length) htl (by simp only [maxLen]; omega)
      obtain ⟨row2, hy, hle, hall⟩ := g3 t _ hx
      have hb := b2 M[t] (List.getElem_mem htl)
      generalize M[t] = row at hx hle hall hb
      have htL : ((t : Int) < (L.length : Int)) = True := eq_true (by omega)
      (refine of_gate ?_; repeat' ((first | (with_reducible refine gate_in ?_) | (with_reducible refine spK_intro ?_ ?_ <;> intro hp) | (with_reducible refine brK_intro ?_ ?_ <;> intro hb <;> try rw [hb]) | (with_reducible refine draw_in (by unfold DrawOk; decide +kernel) ?_)) <;> try simp only [↓PR, PO, PC, PX, tyI, tyF, tyX, tyL, tyK, tyB, tyE, tyM, tyP, tyQ, Nat.reduceBEq, Nat.reduceAdd, Nat.reduceMul, Nat.reduceSub, Nat.reduceLeDiff, Nat.reduceEqDiff, Nat.reduceLT, Nat.reducePow, Nat.reduceBneDiff, Nat.reduceBNe, Int.reduceBEq, Int.reduceEq, Int.reduceLT, Int.reduceLE, Int.reduceToNat, String.reduceBEq, List.length_map, hx, hy, intRow_eq]))
      · omega
      refine awp_loopA (fun i : Nat => [(5, .a (.d (.sl (L.map intRow)))), (9, .a (I t)), (64, .a (.d (.sl (M.map intRow)))), (65, .a (I M.length)), (66, .a (I t)), (79, .a (intsA row)), (80, .a (I row.length)), (81, .a (I i))]) (fun _ => []) (fun i => i ≤ row.length) (row.length - ·) 0 ?_ ?_ (Nat.zero_le _) ?_
      · simp only [↓PR, PO, PC, PX, tyI, tyF, tyX, tyL, tyK, tyB, tyE, tyM, tyP, tyQ, Nat.reduceBEq, Nat.reduceAdd, Nat.reduceMul, Nat.reduceSub, Nat.reduceLeDiff, Nat.reduceEqDiff, Nat.reduceLT, Nat.reducePow, Nat.reduceBneDiff, Nat.reduceBNe, Int.reduceBEq, Int.reduceEq, Int.reduceLT, Int.reduceLE, Int.reduceToNat, String.reduceBEq]
      · simp only [↓PR, PO, PC, PX, tyI, tyF, tyX, tyL, tyK, tyB, tyE, tyM, tyP, tyQ, Nat.reduceBEq, Nat.reduceAdd, Nat.reduceMul, Nat.reduceSub, Nat.reduceLeDiff, Nat.reduceEqDiff, Nat.reduceLT, Nat.reducePow, Nat.reduceBneDiff, Nat.reduceBNe, Int.reduceBEq, Int.reduceEq, Int.reduceLT, Int.reduceLE, Int.reduceToNat, String.reduceBEq]
      intro i j hi
      (refine of_gate ?_; repeat' ((first | (with_reducible refine gate_in ?_) | (with_reducible refine spK_intro ?_ ?_ <;> intro hp) | (with_reducible refine brK_intro ?_ ?_ <;> intro hb <;> try rw [hb]) | (with_reducible refine draw_in (by unfold DrawOk; decide +kernel) ?_)) <;> try simp only [↓PR, PO, PC, PX, tyI, tyF, tyX, tyL, tyK, tyB, tyE, tyM, tyP, tyQ, Nat.reduceBEq, Nat.reduceAdd, Nat.reduceMul, Nat.reduceSub, Nat.reduceLeDiff, Nat.reduceEqDiff, Nat.reduceLT, Nat.reducePow, Nat.reduceBneDiff, Nat.reduceBNe, Int.reduceBEq, Int.reduceEq, Int.reduceLT, Int.reduceLE, Int.reduceToNat, String.reduceBEq, List.length_map]))
      · have hil : i < row.length := by omega
        have hz : row[i]? = some row[i] := List.getElem?_eq_getElem hil
        have hwi := wrap_succ (n := row.length) hil (by simp only [maxLen]; omega)
        obtain ⟨y, hyy, hor⟩ := hall i _ hz
        generalize row[i] = from' at hz hor
        rcases hor with rfl | ⟨rfl, hy0, hyt⟩
        · (refine of_gate ?_; repeat' ((first | (with_reducible refine gate_in ?_) | (with_reducible refine spK_intro ?_ ?_ <;> intro hp) | (with_reducible refine brK_intro ?_ ?_ <;> intro hb <;> try rw [hb]) | (with_reducible refine draw_in (by unfold DrawOk; decide +kernel) ?_)) <;> try simp only [↓PR, PO, PC, PX, tyI, tyF, tyX, tyL, tyK, tyB, tyE, tyM, tyP, tyQ, Nat.reduceBEq, Nat.reduceAdd, Nat.reduceMul, Nat.reduceSub, Nat.reduceLeDiff, Nat.reduceEqDiff, Nat.reduceLT, Nat.reducePow, Nat.reduceBneDiff, Nat.reduceBNe, Int.reduceBEq, Int.reduceEq, Int.reduceLT, Int.reduceLE, Int.reduceToNat, String.reduceBEq, List.length_map, hz, hy, hyy, intRow_eq, ienc_eq, hwi]))
          exact ⟨i + 1, by simp only [↓PR, PO, PC, PX, tyI, tyF, tyX, tyL, tyK, tyB, tyE, tyM, tyP, tyQ, Nat.reduceBEq, Nat.reduceAdd, Nat.reduceMul, Nat.reduceSub, Nat.reduceLeDiff, Nat.reduceEqDiff, Nat.reduceLT, Nat.reducePow, Nat.reduceBneDiff, Nat.reduceBNe, Int.reduceBEq, Int.reduceEq, Int.reduceLT, Int.reduceLE, Int.reduceToNat, String.reduceBEq], by simp only [↓PR, PO, PC, PX, tyI, tyF, tyX, tyL, tyK, tyB, tyE, tyM, tyP, tyQ, Nat.reduceBEq, Nat.reduceAdd, Nat.reduceMul, Nat.reduceSub, Nat.reduceLeDiff, Nat.reduceEqDiff, Nat.reduceLT, Nat.reducePow, Nat.reduceBneDiff, Nat.reduceBNe, Int.reduceBEq, Int.reduceEq, Int.reduceLT, Int.reduceLE, Int.reduceToNat, String.reduceBEq], hil, by dsimp only; omega⟩
        · have hc1 : ((-2 : Int) = y) = False := eq_false (by omega)
          have hc2 : (y < 0) = False := eq_false (by omega)
          have hc3 : (y = (t : Int)) = False := eq_false hyt
          (refine of_gate ?_; repeat' ((first | (with_reducible refine gate_in ?_) | (with_reducible refine spK_intro ?_ ?_ <;> intro hp) | (with_reducible refine brK_intro ?_ ?_ <;> intro hb <;> try rw [hb]) | (with_reducible refine draw_in (by unfold DrawOk; decide +kernel) ?_)) <;> try simp only [↓PR, PO, PC, PX, tyI, tyF, tyX, tyL, tyK, tyB, tyE, tyM, tyP, tyQ, Nat.reduceBEq, Nat.reduceAdd, Nat.reduceMul, Nat.reduceSub, Nat.reduceLeDiff, Nat.reduceEqDiff, Nat.reduceLT, Nat.reducePow, Nat.reduceBneDiff, Nat.reduceBNe, Int.reduceBEq, Int.reduceEq, Int.reduceLT, Int.reduceLE, Int.reduceToNat, String.reduceBEq, List.length_map, hz, hy, hyy, intRow_eq, ienc_eq, hwi, hc1, hc2, hc3]))
          exact ⟨i + 1, by simp only [↓PR, PO, PC, PX, tyI, tyF, tyX, tyL, tyK, tyB, tyE, tyM, tyP, tyQ, Nat.reduceBEq, Nat.reduceAdd, Nat.reduceMul, Nat.reduceSub, Nat.reduceLeDiff, Nat.reduceEqDiff, Nat.reduceLT, Nat.reducePow, Nat.reduceBneDiff, Nat.reduceBNe, Int.reduceBEq, Int.reduceEq, Int.reduceLT, Int.reduceLE, Int.reduceToNat, String.reduceBEq], by simp only [↓PR, PO, PC, PX, tyI, tyF, tyX, tyL, tyK, tyB, tyE, tyM, tyP, tyQ, Nat.reduceBEq, Nat.reduceAdd, Nat.reduceMul, Nat.reduceSub, Nat.reduceLeDiff, Nat.reduceEqDiff, Nat.reduceLT, Nat.reducePow, Nat.reduceBneDiff, Nat.reduceBNe, Int.reduceBEq, Int.reduceEq, Int.reduceLT, Int.reduceLE, Int.reduceToNat, String.reduceBEq], hil, by dsimp only; omega⟩
      · (refine of_gate ?_; repeat' ((first | (with_reducible refine gate_in ?_) | (with_reducible refine spK_intro ?_ ?_ <;> intro hp) | (with_reducible refine brK_intro ?_ ?_ <;> intro hb <;> try rw [hb]) | (with_reducible refine draw_in (by unfold DrawOk; decide +kernel) ?_)) <;> try simp only [↓PR, PO, PC, PX, tyI, tyF, tyX, tyL, tyK, tyB, tyE, tyM, tyP, tyQ, Nat.reduceBEq, Nat.reduceAdd, Nat.reduceMul, Nat.reduceSub, Nat.reduceLeDiff, Nat.reduceEqDiff, Nat.reduceLT, Nat.reducePow, Nat.reduceBneDiff, Nat.reduceBNe, Int.reduceBEq, Int.reduceEq, Int.reduceLT, Int.reduceLE, Int.reduceToNat, String.reduceBEq, hw]))
        exact ⟨t + 1, by simp only [↓PR, PO, PC, PX, tyI, tyF, tyX, tyL, tyK, tyB, tyE, tyM, tyP, tyQ, Nat.reduceBEq, Nat.reduceAdd, Nat.reduceMul, Nat.reduceSub, Nat.reduceLeDiff, Nat.reduceEqDiff, Nat.reduceLT, Nat.reducePow, Nat.reduceBneDiff, Nat.reduceBNe, Int.reduceBEq, Int.reduceEq, Int.reduceLT, Int.reduceLE, Int.reduceToNat, String.reduceBEq], by simp only [↓PR, PO, PC, PX, tyI, tyF, tyX, tyL, tyK, tyB, tyE, tyM, tyP, tyQ, Nat.reduceBEq, Nat.reduceAdd, Nat.reduceMul, Nat.reduceSub, Nat.reduceLeDiff, Nat.reduceEqDiff, Nat.reduceLT, Nat.reducePow, Nat.reduceBneDiff, Nat.reduceBNe, Int.reduceBEq, Int.reduceEq, Int.reduceLT, Int.reduceLE, Int.reduceToNat, String.reduceBEq], htl, by dsimp only; omega⟩
  · have hR := sources_bad hE
    (refine of_gate ?_; repeat' ((first | (with_reducible refine gate_in ?_) | (with_reducible refine spK_intro ?_ ?_ <;> intro hp) | (with_reducible refine brK_intro ?_ ?_ <;> intro hb <;> try rw [hb]) | (with_reducible refine draw_in (by unfold DrawOk; decide +kernel) ?_) | (with_reducible apply c28) | (with_reducible apply c29)) <;> try simp only [↓PR, PO, PC, PX, tyI, tyF, tyX, tyL, tyK, tyB, tyE, tyM, tyP, tyQ, Nat.reduceBEq, Nat.reduceAdd, Nat.reduceMul, Nat.reduceSub, Nat.reduceLeDiff, Nat.reduceEqDiff, Nat.reduceLT, Nat.reducePow, Nat.reduceBneDiff, Nat.reduceBNe, Int.reduceBEq, Int.reduceEq, Int.reduceLT, Int.reduceLE, Int.reduceToNat, String.reduceBEq, List.length_map, m0, m1, hc, w1, w2, w3, pe, hne, hk1, htk, hE, hR, Int.le_refl, Int.toNat_zero, bne_self_eq_false]))
end Go.VC
