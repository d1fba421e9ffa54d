/- slices.Grow of nil, slices.Concat at events. -/
import Derived.Test.YtjmbgnncokeliaaDoorVC
import Derived.Shelf.Spec.SlicesGrow
set_option maxRecDepth 100000
set_option linter.unusedSimpArgs false
set_option linter.unusedVariables false
namespace Go.Proofs
open Go.Shelf
def Tryd.grow89_ren : Go.Shelf.Ren := ⟨fun | 4 => 89 | n => n, fun | 22 => 22 | 25 => 69 | 3 => 3 | 4 => 4 | 9 => 9 | 20 => 20 | 0 => 0 | n => n, fun | n => n⟩
theorem Tryd.grow89 : Go.Proofs.Lays8.n4 Tryd.prog Tryd.grow89_ren := {
  mixed := by kernel_rfl
  f4 := ⟨Tryd.f89.name, by decide, Tryd.func89.trans (congrArg some (by kernel_rfl))⟩
  t0 := Tryd.underlying0
  a0 := Tryd.isAgg0
  z0 := Tryd.sizeOf0
  v0 := Tryd.zeroValue0
  t3 := Tryd.underlying3
  a3 := Tryd.isAgg3
  z3 := Tryd.sizeOf3
  v3 := Tryd.zeroValue3
  t4 := Tryd.underlying4
  a4 := Tryd.isAgg4
  z4 := Tryd.sizeOf4
  v4 := Tryd.zeroValue4
  t9 := Tryd.underlying9
  a9 := Tryd.isAgg9
  z9 := Tryd.sizeOf9
  v9 := Tryd.zeroValue9
  t20 := Tryd.underlying20
  a20 := Tryd.isAgg20
  z20 := Tryd.sizeOf20
  v20 := Tryd.zeroValue20
  t22 := Tryd.underlying22
  a22 := Tryd.isAgg22
  z22 := Tryd.sizeOf22
  v22 := Tryd.zeroValue22 }
end Go.Proofs
namespace Go.VC
open Go.RowKit Go.Proofs Go.IntWalk
theorem grow_inl {n : Nat} {σ : S} {K : S → List R → Prop} (hn : n ≤ 1000000) (hk : K (σ.newOb 7777 (.log 69 4 [])) [.own 7777]) : Inl Tryd.prog GL 89 [.cs [], .a (I n)] σ K := by
  refine ⟨⟨_, Tryd.func89, rfl, by kernel_rfl⟩, fun c β a w vs hP hgl hs hv => ?_⟩
  obtain ⟨v0, s0, rfl, h0, hs0⟩ := hv.of_cons
  obtain ⟨v1, s1, rfl, h1, hs1⟩ := hs0.of_cons
  obtain rfl := hs1.of_nil
  obtain ⟨p, m, rfl, hr⟩ := h0.inv_cs
  obtain rfl : m = 0 := by have := hr.sl_len; simpa using this
  have e1 : v1 = .int .i64 n := h1.inv_v
  subst e1
  by_cases hn0 : n = 0
  · subst hn0
    refine (Any8.slices_Grow_room Tryd.grow89 p 0 0 0 w (by omega) (by omega) (by omega) (by omega)).mono ?_
    rintro e w' ⟨rfl, rfl⟩
    exact ⟨[.slice p 0 0], [.own 7777], _, upd β 7777 (.slice p 0 0), rfl, hs.new (o := 7777) (x := .log 69 4 []) (bv := .slice p 0 0) (Keep.refl _ _) (fun b hb => by cases p <;> cases hb) ⟨[], .inr ⟨rfl, rfl, p, by simp [upd]⟩, F2.nil, by simp⟩, F2.cons (.own (by simp [upd]) rfl) F2.nil, hk⟩
  · obtain ⟨i, u, z, hi, hu, hz, hti⟩ := tinf_info tiE
    have hisz : i.size = 4 := by have := congrArg TI.sz hti; exact this.symm
    have hibs : i.bytes = 32 := by have := congrArg TI.bs hti; exact this.symm
    have hzc : z.cells.toList.length = 4 := by have := congrArg (fun t => t.z.length) hti; exact this.symm
    have hc := Any8.slices_Grow_grow Tryd.grow89 i z hi hz (by omega) p 0 0 n [] w (by omega) (by omega) (by rw [hibs]; omega) (by omega) (by simp) (fun _ => rfl) (fun a _ j v hj => by simp at hj)
    refine hc.mono ?_
    rintro e w' ⟨rfl, rfl⟩
    simp only [Nat.zero_add, Nat.sub_zero]
    have hge := grownCap_ge w n 0 69
    have hcm := grownCap_le_maxLen w n 0 69 (by simp only [maxLen]; omega)
    have hn' : ∀ b, ownB (.slice (some ⟨w.heap.size, 0, none⟩) 0 (grownCap w n 0 69)) = some b → w.heap.size ≤ b ∨ ∃ y, σ.mem 7777 = some y ∧ ownB (β 7777) = some b := fun b hb => by
      left
      cases hcp : grownCap w n 0 69 with
      | zero => rw [hcp] at hb; cases hb
      | succ k => rw [hcp] at hb; cases hb; exact Nat.le_refl _
    refine ⟨[_], [.own 7777], _, upd β 7777 (.slice (some ⟨w.heap.size, 0, none⟩) 0 (grownCap w n 0 69)), rfl, hs.new (o := 7777) (x := .log 69 4 []) (bv := .slice (some ⟨w.heap.size, 0, none⟩) 0 (grownCap w n 0 69)) ⟨rfl, rfl, rfl, by simp, fun k hk _ => by first | exact Go.heap_alloc_old w.drew _ k hk | exact Go.heap_alloc_old w.drew _ hk | exact heap_alloc_old w.drew _ hk⟩ hn' ⟨[], .inl ⟨rfl, .inr ⟨w.heap.size, _, _, rfl, Nat.zero_le _, heap_alloc_new w.drew _, Nat.zero_le _, hcm, ?_, by simp⟩⟩, F2.nil, by simp⟩, F2.cons (.own (by simp [upd]; rfl) rfl) F2.nil, hk⟩
    simp only [Array.size_append, List.size_toArray, List.length_nil, size_zeroCells]
    rw [← Array.length_toList, hzc, Nat.zero_add, ← Nat.add_mul]
    congr 1
    have : n ≤ grownCap w n 0 69 := hge
    exact Nat.add_sub_cancel' this
def rowsD (rows : List (List Ev)) : List (List D) := rows.map fun r => [.sl (r.map Ev.enc)]
def sumLen (rows : List (List Ev)) : Nat := (rows.map List.length).sum
theorem sum_s {rows : List (List Ev)} {k : Nat} (hk : k < rows.length) : sumLen (rows.take (k + 1)) = sumLen (rows.take k) + rows[k].length := by
  unfold sumLen
  rw [List.take_succ_eq_append_getElem hk, List.map_append, List.sum_append]
  simp only [List.map_cons, List.map_nil, List.sum_cons, List.sum_nil, Nat.add_zero]
theorem sum_le (rows : List (List Ev)) (k : Nat) : sumLen (rows.take k) ≤ sumLen rows := by
  have : sumLen rows = sumLen (rows.take k) + sumLen (rows.drop k) := by
    conv => lhs; rw [← List.take_append_drop k rows]
    simp only [sumLen, List.map_append, List.sum_append]
  omega
theorem sum_flat (rows : List (List Ev)) : rows.flatten.length = sumLen rows := by simp [sumLen, List.length_flatten]
theorem flat_s {rows : List (List Ev)} {k : Nat} (hk : k < rows.length) : (rows.take (k + 1)).flatten = (rows.take k).flatten ++ rows[k] := by
  rw [List.take_succ_eq_append_getElem hk, List.flatten_append, List.flatten_cons, List.flatten_nil, List.append_nil]
theorem t54 (rows : List (List Ev)) (hr : rows.length ≤ 1000000) (hl : sumLen rows ≤ 1000000) : Holds Tryd.prog GL 54 [.d (.sl (rowsD rows))] [.fresh 69 4 (rows.flatten.map Ev.enc)] := by
  refine fn_holds (vs := [.tmp 2]) (by kernel_rfl) Tryd.func54 rfl rfl (by kernel_rfl) (by kernel_rfl) rfl ?_
  have hrl : (rowsD rows).length = rows.length := by simp [rowsD]
  simp only [↓PR, PO, PC, PX, tyI, tyF, tyX, tyL, tyK, tyB, tyE, tyM, tyP, tyQ, Nat.reduceBEq, Nat.reduceAdd, Nat.reduceMul, Nat.reduceSub, Nat.reduceLeDiff, Nat.reduceEqDiff, Nat.reduceLT, Nat.reducePow, Nat.reduceBneDiff, Nat.reduceBNe, Int.reduceBEq, Int.reduceEq, Int.reduceLT, Int.reduceLE, Int.reduceToNat, String.reduceBEq, hrl]
  refine awp_loopA (fun k : Nat => [(0, .a (.d (.sl (rowsD rows)))), (3, .a (I (sumLen (rows.take k)))), (9, .a (.d (.sl (rowsD rows)))), (10, .a (I rows.length)), (11, .a (I k))]) (fun _ => []) (fun k => k ≤ rows.length) (rows.length - ·) 0 ?_ ?_ (Nat.zero_le _) ?_
  · simp only [↓PR, PO, PC, PX, tyI, tyF, tyX, tyL, tyK, tyB, tyE, tyM, tyP, tyQ, Nat.reduceBEq, Nat.reduceAdd, Nat.reduceMul, Nat.reduceSub, Nat.reduceLeDiff, Nat.reduceEqDiff, Nat.reduceLT, Nat.reducePow, Nat.reduceBneDiff, Nat.reduceBNe, Int.reduceBEq, Int.reduceEq, Int.reduceLT, Int.reduceLE, Int.reduceToNat, String.reduceBEq] <;> rfl
  · simp only [↓PR, PO, PC, PX, tyI, tyF, tyX, tyL, tyK, tyB, tyE, tyM, tyP, tyQ, Nat.reduceBEq, Nat.reduceAdd, Nat.reduceMul, Nat.reduceSub, Nat.reduceLeDiff, Nat.reduceEqDiff, Nat.reduceLT, Nat.reducePow, Nat.reduceBneDiff, Nat.reduceBNe, Int.reduceBEq, Int.reduceEq, Int.reduceLT, Int.reduceLE, Int.reduceToNat, String.reduceBEq]
  intro k j hk
  (refine of_gate ?_; repeat' ((first | (with_reducible refine gate_in ?_) | (with_reducible refine spK_intro ?_ ?_ <;> intro hp) | (with_reducible refine brK_intro ?_ ?_ <;> intro hb <;> try rw [hb]) | (with_reducible refine draw_in (by unfold DrawOk; decide +kernel) ?_)) <;> try simp only [↓PR, PO, PC, PX, tyI, tyF, tyX, tyL, tyK, tyB, tyE, tyM, tyP, tyQ, Nat.reduceBEq, Nat.reduceAdd, Nat.reduceMul, Nat.reduceSub, Nat.reduceLeDiff, Nat.reduceEqDiff, Nat.reduceLT, Nat.reducePow, Nat.reduceBneDiff, Nat.reduceBNe, Int.reduceBEq, Int.reduceEq, Int.reduceLT, Int.reduceLE, Int.reduceToNat, String.reduceBEq]))
  · have hkl : k < rows.length := by omega
    have hx : (rowsD rows)[k]? = some [.sl (rows[k].map Ev.enc)] := by simp [rowsD, hkl]
    have hw := wrap_succ (n := rows.length) hkl (by simp only [maxLen]; omega)
    have hs := sum_s hkl
    have hle := sum_le rows (k + 1)
    have hw2 : IntKind.i64.wrap (((sumLen (rows.take k) : Nat) : Int) + (rows[k].length : Int)) = ((sumLen (rows.take (k + 1)) : Nat) : Int) := by
      rw [i64_in _ (by omega)]; omega
    have hneg : ¬ (((sumLen (rows.take (k + 1)) : Nat) : Int) < 0) := by omega
    (refine of_gate ?_; repeat' ((first | (with_reducible refine gate_in ?_) | (with_reducible refine spK_intro ?_ ?_ <;> intro hp) | (with_reducible refine brK_intro ?_ ?_ <;> intro hb <;> try rw [hb]) | (with_reducible refine draw_in (by unfold DrawOk; decide +kernel) ?_)) <;> try simp only [↓PR, PO, PC, PX, tyI, tyF, tyX, tyL, tyK, tyB, tyE, tyM, tyP, tyQ, Nat.reduceBEq, Nat.reduceAdd, Nat.reduceMul, Nat.reduceSub, Nat.reduceLeDiff, Nat.reduceEqDiff, Nat.reduceLT, Nat.reducePow, Nat.reduceBneDiff, Nat.reduceBNe, Int.reduceBEq, Int.reduceEq, Int.reduceLT, Int.reduceLE, Int.reduceToNat, String.reduceBEq, hx, hw, hw2, hneg, List.length_map]))
    exact ⟨k + 1, by simp only [↓PR, PO, PC, PX, tyI, tyF, tyX, tyL, tyK, tyB, tyE, tyM, tyP, tyQ, Nat.reduceBEq, Nat.reduceAdd, Nat.reduceMul, Nat.reduceSub, Nat.reduceLeDiff, Nat.reduceEqDiff, Nat.reduceLT, Nat.reducePow, Nat.reduceBneDiff, Nat.reduceBNe, Int.reduceBEq, Int.reduceEq, Int.reduceLT, Int.reduceLE, Int.reduceToNat, String.reduceBEq], by simp only [↓PR, PO, PC, PX, tyI, tyF, tyX, tyL, tyK, tyB, tyE, tyM, tyP, tyQ, Nat.reduceBEq, Nat.reduceAdd, Nat.reduceMul, Nat.reduceSub, Nat.reduceLeDiff, Nat.reduceEqDiff, Nat.reduceLT, Nat.reducePow, Nat.reduceBneDiff, Nat.reduceBNe, Int.reduceBEq, Int.reduceEq, Int.reduceLT, Int.reduceLE, Int.reduceToNat, String.reduceBEq], hkl, by dsimp only; omega⟩
  · obtain rfl : k = rows.length := by omega
    rw [List.take_length]
    refine call_inl (grow_inl hl ?_)
    simp only [one]
    (refine of_gate ?_; repeat' ((first | (with_reducible refine gate_in ?_) | (with_reducible refine spK_intro ?_ ?_ <;> intro hp) | (with_reducible refine brK_intro ?_ ?_ <;> intro hb <;> try rw [hb]) | (with_reducible refine draw_in (by unfold DrawOk; decide +kernel) ?_)) <;> try simp only [↓PR, PO, PC, PX, tyI, tyF, tyX, tyL, tyK, tyB, tyE, tyM, tyP, tyQ, Nat.reduceBEq, Nat.reduceAdd, Nat.reduceMul, Nat.reduceSub, Nat.reduceLeDiff, Nat.reduceEqDiff, Nat.reduceLT, Nat.reducePow, Nat.reduceBneDiff, Nat.reduceBNe, Int.reduceBEq, Int.reduceEq, Int.reduceLT, Int.reduceLE, Int.reduceToNat, String.reduceBEq, hrl]))
    refine awp_loopA (fun k : Nat => [(6, .own 7777), (25, .a (.d (.sl (rowsD rows)))), (26, .a (I rows.length)), (27, .a (I k))]) (fun k => [(7777, .log 69 4 ((rows.take k).flatten.map Ev.enc))]) (fun k => k ≤ rows.length) (rows.length - ·) 0 ?_ ?_ (Nat.zero_le _) ?_
    · simp only [↓PR, PO, PC, PX, tyI, tyF, tyX, tyL, tyK, tyB, tyE, tyM, tyP, tyQ, Nat.reduceBEq, Nat.reduceAdd, Nat.reduceMul, Nat.reduceSub, Nat.reduceLeDiff, Nat.reduceEqDiff, Nat.reduceLT, Nat.reducePow, Nat.reduceBneDiff, Nat.reduceBNe, Int.reduceBEq, Int.reduceEq, Int.reduceLT, Int.reduceLE, Int.reduceToNat, String.reduceBEq] <;> rfl
    · simp only [↓PR, PO, PC, PX, tyI, tyF, tyX, tyL, tyK, tyB, tyE, tyM, tyP, tyQ, Nat.reduceBEq, Nat.reduceAdd, Nat.reduceMul, Nat.reduceSub, Nat.reduceLeDiff, Nat.reduceEqDiff, Nat.reduceLT, Nat.reducePow, Nat.reduceBneDiff, Nat.reduceBNe, Int.reduceBEq, Int.reduceEq, Int.reduceLT, Int.reduceLE, Int.reduceToNat, String.reduceBEq] <;> rfl
    intro k j hk
    (refine of_gate ?_; repeat' ((first | (with_reducible refine gate_in ?_) | (with_reducible refine spK_intro ?_ ?_ <;> intro hp) | (with_reducible refine brK_intro ?_ ?_ <;> intro hb <;> try rw [hb]) | (with_reducible refine draw_in (by unfold DrawOk; decide +kernel) ?_)) <;> try simp only [↓PR, PO, PC, PX, tyI, tyF, tyX, tyL, tyK, tyB, tyE, tyM, tyP, tyQ, Nat.reduceBEq, Nat.reduceAdd, Nat.reduceMul, Nat.reduceSub, Nat.reduceLeDiff, Nat.reduceEqDiff, Nat.reduceLT, Nat.reducePow, Nat.reduceBneDiff, Nat.reduceBNe, Int.reduceBEq, Int.reduceEq, Int.reduceLT, Int.reduceLE, Int.reduceToNat, String.reduceBEq]))
    · have hkl : k < rows.length := by omega
      have hx : (rowsD rows)[k]? = some [.sl (rows[k].map Ev.enc)] := by simp [rowsD, hkl]
      have hw := wrap_succ (n := rows.length) hkl (by simp only [maxLen]; omega)
      have hs := sum_s hkl
      have hle := sum_le rows (k + 1)
      have hfl : ((rows.take k).flatten.map Ev.enc).length = sumLen (rows.take k) := by rw [List.length_map, sum_flat]
      (refine of_gate ?_; repeat' ((first | (with_reducible refine gate_in ?_) | (with_reducible refine spK_intro ?_ ?_ <;> intro hp) | (with_reducible refine brK_intro ?_ ?_ <;> intro hb <;> try rw [hb]) | (with_reducible refine draw_in (by unfold DrawOk; decide +kernel) ?_)) <;> try simp only [↓PR, PO, PC, PX, tyI, tyF, tyX, tyL, tyK, tyB, tyE, tyM, tyP, tyQ, Nat.reduceBEq, Nat.reduceAdd, Nat.reduceMul, Nat.reduceSub, Nat.reduceLeDiff, Nat.reduceEqDiff, Nat.reduceLT, Nat.reducePow, Nat.reduceBneDiff, Nat.reduceBNe, Int.reduceBEq, Int.reduceEq, Int.reduceLT, Int.reduceLE, Int.reduceToNat, String.reduceBEq, hx, hw, hfl, List.length_map]))
      exact ⟨by omega, k + 1, by simp only [↓PR, PO, PC, PX, tyI, tyF, tyX, tyL, tyK, tyB, tyE, tyM, tyP, tyQ, Nat.reduceBEq, Nat.reduceAdd, Nat.reduceMul, Nat.reduceSub, Nat.reduceLeDiff, Nat.reduceEqDiff, Nat.reduceLT, Nat.reducePow, Nat.reduceBneDiff, Nat.reduceBNe, Int.reduceBEq, Int.reduceEq, Int.reduceLT, Int.reduceLE, Int.reduceToNat, String.reduceBEq], by simp only [↓PR, PO, PC, PX, tyI, tyF, tyX, tyL, tyK, tyB, tyE, tyM, tyP, tyQ, Nat.reduceBEq, Nat.reduceAdd, Nat.reduceMul, Nat.reduceSub, Nat.reduceLeDiff, Nat.reduceEqDiff, Nat.reduceLT, Nat.reducePow, Nat.reduceBneDiff, Nat.reduceBNe, Int.reduceBEq, Int.reduceEq, Int.reduceLT, Int.reduceLE, Int.reduceToNat, String.reduceBEq, flat_s hkl, List.map_append], hkl, by dsimp only; omega⟩
    · have hkk : k = rows.length := by omega
      simp only [hkk, List.take_length]
end Go.VC
