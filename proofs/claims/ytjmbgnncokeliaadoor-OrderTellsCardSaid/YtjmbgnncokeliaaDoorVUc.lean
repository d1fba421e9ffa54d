/- The references of layer 16: their contracts. -/
import Derived.Test.YtjmbgnncokeliaaDoorVUb
import Derived.Test.YtjmbgnncokeliaaDoorVTo
set_option maxRecDepth 100000
set_option linter.unusedSimpArgs false
set_option linter.unusedVariables false
namespace Go.VC
open Go.RowKit Go.Proofs Go.IntWalk
theorem rowsA_txn (l : List Kp) : rowsA l = txnsA (l.map Kp.txn) := by
  simp only [rowsA, txnsA, List.map_map]; rfl
/-! ### Layer 16 -/
theorem t96 (ops : List Op) (v : Int) : Holds Tryd.prog GL 96 [opsA' ops, I v] [.a (B (ownsR ops v))] := by
  refine fn_holds_is (vs := [.tmp 4]) (by kernel_rfl) Tryd.func96 rfl rfl (by kernel_rfl) (by kernel_rfl) rfl fun his => ?_
  have hlen := his.1.len
  rw [List.length_map] at hlen
  simp only [↓PR, PO, PC, PX, tyI, tyF, tyX, tyL, tyK, tyB, tyE, tyM, tyP, tyQ, Nat.reduceBEq, Nat.reduceAdd, Nat.reduceMul, Nat.reduceSub, Nat.reduceLeDiff, Nat.reduceEqDiff, Nat.reduceLT, Nat.reducePow, Nat.reduceBneDiff, Nat.reduceBNe, Int.reduceBEq, Int.reduceEq, Int.reduceLT, Int.reduceLE, Int.reduceToNat, List.length_map]
  refine awp_loopA (fun k : Nat => [(1, .a (I v)), (7, .a (opsA' ops)), (8, .a (I ops.length)), (9, .a (I k))]) (fun _ => []) (fun k => k ≤ ops.length ∧ ownsR ops v = ownsR (ops.drop k) v) (ops.length - ·) 0 ?_ ?_ ⟨Nat.zero_le _, rfl⟩ ?_
  · simp only [↓PR, PO, PC, PX, tyI, tyF, tyX, tyL, tyK, tyB, tyE, tyM, tyP, tyQ, Nat.reduceBEq, Nat.reduceAdd, Nat.reduceMul, Nat.reduceSub, Nat.reduceLeDiff, Nat.reduceEqDiff, Nat.reduceLT, Nat.reducePow, Nat.reduceBneDiff, Nat.reduceBNe, Int.reduceBEq, Int.reduceEq, Int.reduceLT, Int.reduceLE, Int.reduceToNat]
  · simp only [↓PR, PO, PC, PX, tyI, tyF, tyX, tyL, tyK, tyB, tyE, tyM, tyP, tyQ, Nat.reduceBEq, Nat.reduceAdd, Nat.reduceMul, Nat.reduceSub, Nat.reduceLeDiff, Nat.reduceEqDiff, Nat.reduceLT, Nat.reducePow, Nat.reduceBneDiff, Nat.reduceBNe, Int.reduceBEq, Int.reduceEq, Int.reduceLT, Int.reduceLE, Int.reduceToNat]
  intro k j ⟨hk, hl⟩
  (refine of_gate ?_; repeat' ((first | (with_reducible refine gate_in ?_) | (with_reducible refine spK_intro ?_ ?_ <;> intro hp) | (with_reducible refine brK_intro ?_ ?_ <;> intro hb <;> try rw [hb]) | (with_reducible refine draw_in (by unfold DrawOk; decide +kernel) ?_) | (with_reducible refine And.intro (by first | omega | (simp only [List.length_map, List.length_take]; omega)) ?_) | fail) <;> try simp only [↓PR, PO, PC, PX, tyI, tyF, tyX, tyL, tyK, tyB, tyE, tyM, tyP, tyQ, Nat.reduceBEq, Nat.reduceAdd, Nat.reduceMul, Nat.reduceSub, Nat.reduceLeDiff, Nat.reduceEqDiff, Nat.reduceLT, Nat.reducePow, Nat.reduceBneDiff, Nat.reduceBNe, Int.reduceBEq, Int.reduceEq, Int.reduceLT, Int.reduceLE, Int.reduceToNat]))
  · have hkl : k < ops.length := by omega
    have hx : ops[k]? = some ops[k] := List.getElem?_eq_getElem hkl
    have hw := wrap_succ hkl hlen
    rw [List.drop_eq_getElem_cons hkl] at hl
    generalize ops[k] = o at hx hl
    simp only [ownsR, List.any_cons] at hl
    (refine of_gate ?_; repeat' ((first | (with_reducible refine gate_in ?_) | (with_reducible refine spK_intro ?_ ?_ <;> intro hp) | (with_reducible refine brK_intro ?_ ?_ <;> intro hb <;> try rw [hb]) | (with_reducible refine draw_in (by unfold DrawOk; decide +kernel) ?_) | (with_reducible refine And.intro (by first | omega | (simp only [List.length_map, List.length_take]; omega)) ?_) | fail) <;> try simp only [↓PR, PO, PC, PX, tyI, tyF, tyX, tyL, tyK, tyB, tyE, tyM, tyP, tyQ, Nat.reduceBEq, Nat.reduceAdd, Nat.reduceMul, Nat.reduceSub, Nat.reduceLeDiff, Nat.reduceEqDiff, Nat.reduceLT, Nat.reducePow, Nat.reduceBneDiff, Nat.reduceBNe, Int.reduceBEq, Int.reduceEq, Int.reduceLT, Int.reduceLE, Int.reduceToNat, hx, Op.enc_eq, hw]))
    all_goals first
      | exact ⟨k + 1, by simp only [↓PR, PO, PC, PX, tyI, tyF, tyX, tyL, tyK, tyB, tyE, tyM, tyP, tyQ, Nat.reduceBEq, Nat.reduceAdd, Nat.reduceMul, Nat.reduceSub, Nat.reduceLeDiff, Nat.reduceEqDiff, Nat.reduceLT, Nat.reducePow, Nat.reduceBneDiff, Nat.reduceBNe, Int.reduceBEq, Int.reduceEq, Int.reduceLT, Int.reduceLE, Int.reduceToNat], by simp only [↓PR, PO, PC, PX, tyI, tyF, tyX, tyL, tyK, tyB, tyE, tyM, tyP, tyQ, Nat.reduceBEq, Nat.reduceAdd, Nat.reduceMul, Nat.reduceSub, Nat.reduceLeDiff, Nat.reduceEqDiff, Nat.reduceLT, Nat.reducePow, Nat.reduceBneDiff, Nat.reduceBNe, Int.reduceBEq, Int.reduceEq, Int.reduceLT, Int.reduceLE, Int.reduceToNat], ⟨hkl, by rw [ownsR, hl]; simp [*, ownsR]⟩, by dsimp only; omega⟩
      | (rw [ownsR, hl]; simp [*])
  · have hd : ops.drop k = [] := List.drop_eq_nil_of_le (by omega)
    rw [hl, hd]; rfl
theorem c96 {ops : List Op} {v : Int} {dst : Option Tmp} {σ : S} {K : S → Prop} (hK : S.ret σ dst [.a (B (ownsR ops v))] K) : callV Tryd.prog GL 96 [.a (opsA' ops), .a (I v)] dst σ K :=
  call_dat (t96 ops v) hK
theorem q96 {ops : List Op} {v : Int} {σ : S} {KR : R → Prop} (hK : KR (retR [(B (ownsR ops v))])) : callVQ Tryd.prog GL 96 [.a (opsA' ops), .a (I v)] σ KR :=
  callQ_dat (res := [(B (ownsR ops v))]) (t96 ops v) hK
/-- Does a transaction write a value of a variable? -/
def writesR (ops : List Op) (v n : Int) : Bool := ops.any fun o => o.w && o.var == v && o.val == n
theorem t63 (t : Txn) (v n : Int) (hlen : t.ops.length ≤ maxLen) : Holds Tryd.prog GL 63 [t.a, I v, I n] [.a (B (writesR t.ops v n))] := by
  refine fn_holds (vs := [.tmp 6]) (by kernel_rfl) Tryd.func63 rfl rfl (by kernel_rfl) (by kernel_rfl) rfl ?_
  simp only [↓PR, PO, PC, PX, tyI, tyF, tyX, tyL, tyK, tyB, tyE, tyM, tyP, tyQ, Nat.reduceBEq, Nat.reduceAdd, Nat.reduceMul, Nat.reduceSub, Nat.reduceLeDiff, Nat.reduceEqDiff, Nat.reduceLT, Nat.reducePow, Nat.reduceBneDiff, Nat.reduceBNe, Int.reduceBEq, Int.reduceEq, Int.reduceLT, Int.reduceLE, Int.reduceToNat, List.length_map]
  obtain ⟨t0, t1, t2, t3, ops⟩ := t
  dsimp only at hlen
  refine awp_loopA (fun k : Nat => [(1, .a (I v)), (2, .a (I n)), (10, .a (opsA' ops)), (11, .a (I ops.length)), (12, .a (I k))]) (fun _ => []) (fun k => k ≤ ops.length ∧ writesR ops v n = writesR (ops.drop k) v n) (ops.length - ·) 0 ?_ ?_ ⟨Nat.zero_le _, rfl⟩ ?_
  · simp only [↓PR, PO, PC, PX, tyI, tyF, tyX, tyL, tyK, tyB, tyE, tyM, tyP, tyQ, Nat.reduceBEq, Nat.reduceAdd, Nat.reduceMul, Nat.reduceSub, Nat.reduceLeDiff, Nat.reduceEqDiff, Nat.reduceLT, Nat.reducePow, Nat.reduceBneDiff, Nat.reduceBNe, Int.reduceBEq, Int.reduceEq, Int.reduceLT, Int.reduceLE, Int.reduceToNat]
  · simp only [↓PR, PO, PC, PX, tyI, tyF, tyX, tyL, tyK, tyB, tyE, tyM, tyP, tyQ, Nat.reduceBEq, Nat.reduceAdd, Nat.reduceMul, Nat.reduceSub, Nat.reduceLeDiff, Nat.reduceEqDiff, Nat.reduceLT, Nat.reducePow, Nat.reduceBneDiff, Nat.reduceBNe, Int.reduceBEq, Int.reduceEq, Int.reduceLT, Int.reduceLE, Int.reduceToNat]
  intro k j ⟨hk, hl⟩
  (refine of_gate ?_; repeat' ((first | (with_reducible refine gate_in ?_) | (with_reducible refine spK_intro ?_ ?_ <;> intro hp) | (with_reducible refine brK_intro ?_ ?_ <;> intro hb <;> try rw [hb]) | (with_reducible refine draw_in (by unfold DrawOk; decide +kernel) ?_) | (with_reducible refine And.intro (by first | omega | (simp only [List.length_map, List.length_take]; omega)) ?_) | fail) <;> try simp only [↓PR, PO, PC, PX, tyI, tyF, tyX, tyL, tyK, tyB, tyE, tyM, tyP, tyQ, Nat.reduceBEq, Nat.reduceAdd, Nat.reduceMul, Nat.reduceSub, Nat.reduceLeDiff, Nat.reduceEqDiff, Nat.reduceLT, Nat.reducePow, Nat.reduceBneDiff, Nat.reduceBNe, Int.reduceBEq, Int.reduceEq, Int.reduceLT, Int.reduceLE, Int.reduceToNat]))
  · have hkl : k < ops.length := by omega
    have hx : ops[k]? = some ops[k] := List.getElem?_eq_getElem hkl
    have hw := wrap_succ hkl hlen
    rw [List.drop_eq_getElem_cons hkl] at hl
    generalize ops[k] = o at hx hl
    simp only [writesR, List.any_cons] at hl
    (refine of_gate ?_; repeat' ((first | (with_reducible refine gate_in ?_) | (with_reducible refine spK_intro ?_ ?_ <;> intro hp) | (with_reducible refine brK_intro ?_ ?_ <;> intro hb <;> try rw [hb]) | (with_reducible refine draw_in (by unfold DrawOk; decide +kernel) ?_) | (with_reducible refine And.intro (by first | omega | (simp only [List.length_map, List.length_take]; omega)) ?_) | fail) <;> try simp only [↓PR, PO, PC, PX, tyI, tyF, tyX, tyL, tyK, tyB, tyE, tyM, tyP, tyQ, Nat.reduceBEq, Nat.reduceAdd, Nat.reduceMul, Nat.reduceSub, Nat.reduceLeDiff, Nat.reduceEqDiff, Nat.reduceLT, Nat.reducePow, Nat.reduceBneDiff, Nat.reduceBNe, Int.reduceBEq, Int.reduceEq, Int.reduceLT, Int.reduceLE, Int.reduceToNat, hx, Op.enc_eq, hw]))
    all_goals first
      | exact ⟨k + 1, by simp only [↓PR, PO, PC, PX, tyI, tyF, tyX, tyL, tyK, tyB, tyE, tyM, tyP, tyQ, Nat.reduceBEq, Nat.reduceAdd, Nat.reduceMul, Nat.reduceSub, Nat.reduceLeDiff, Nat.reduceEqDiff, Nat.reduceLT, Nat.reducePow, Nat.reduceBneDiff, Nat.reduceBNe, Int.reduceBEq, Int.reduceEq, Int.reduceLT, Int.reduceLE, Int.reduceToNat], by simp only [↓PR, PO, PC, PX, tyI, tyF, tyX, tyL, tyK, tyB, tyE, tyM, tyP, tyQ, Nat.reduceBEq, Nat.reduceAdd, Nat.reduceMul, Nat.reduceSub, Nat.reduceLeDiff, Nat.reduceEqDiff, Nat.reduceLT, Nat.reducePow, Nat.reduceBneDiff, Nat.reduceBNe, Int.reduceBEq, Int.reduceEq, Int.reduceLT, Int.reduceLE, Int.reduceToNat], ⟨hkl, by rw [writesR, hl]; simp [*, writesR]⟩, by dsimp only; omega⟩
      | (rw [writesR, hl]; simp [*])
  · have hd : ops.drop k = [] := List.drop_eq_nil_of_le (by omega)
    rw [hl, hd]; rfl
/-- Whose value an operation's is. -/
def othersR (l : List Txn) (t : Int) (v n : Int) : Nat → Option Int
  | k => ((List.range l.length).drop k).findSome? fun j => match l[j]? with
    | some x => if (j : Int) ≠ t ∧ writesR x.ops v n = true then some (j : Int) else none
    | none => none
def sourceR (l : List Txn) (t : Nat) (i : Nat) (x : Txn) (o : Op) : Int :=
  if o.w || ownsR (x.ops.take i) o.var then t else if o.val = 0 then -1 else (othersR l t o.var o.val 0).getD (-2)
theorem range_drop {n k : Nat} (h : k < n) : (List.range n).drop k = k :: (List.range n).drop (k + 1) := by
  rw [List.drop_eq_getElem_cons (by simpa using h)]; simp
theorem t68 (l : List Txn) (hf : FitT l) (t i : Nat) (x : Txn) (o : Op) (hx : l[t]? = some x) (ho : x.ops[i]? = some o) : Holds Tryd.prog GL 68 [txnsA l, I t, I i] [.a (I (sourceR l t i x o))] := by
  refine fn_holds (vs := [.tmp 6]) (by kernel_rfl) Tryd.func68 rfl rfl (by kernel_rfl) (by kernel_rfl) rfl ?_
  have hil := (List.getElem?_eq_some_iff.1 ho).1
  have hi1 : (i : Int) ≤ (x.ops.length : Int) := by omega
  have htk : List.take i (x.ops.map Op.enc) = (x.ops.take i).map Op.enc := by rw [List.map_take]
  (refine of_gate ?_; repeat' ((first | (with_reducible refine gate_in ?_) | (with_reducible refine spK_intro ?_ ?_ <;> intro hp) | (with_reducible refine brK_intro ?_ ?_ <;> intro hb <;> try rw [hb]) | (with_reducible refine draw_in (by unfold DrawOk; decide +kernel) ?_) | (with_reducible apply q96) | (with_reducible refine And.intro (by first | omega | (simp only [List.length_map, List.length_take]; omega)) ?_) | fail) <;> try simp only [↓PR, PO, PC, PX, tyI, tyF, tyX, tyL, tyK, tyB, tyE, tyM, tyP, tyQ, Nat.reduceBEq, Nat.reduceAdd, Nat.reduceMul, Nat.reduceSub, Nat.reduceLeDiff, Nat.reduceEqDiff, Nat.reduceLT, Nat.reducePow, Nat.reduceBneDiff, Nat.reduceBNe, Int.reduceBEq, Int.reduceEq, Int.reduceLT, Int.reduceLE, Int.reduceToNat, hx, ho, Txn.enc_eq, Op.enc_eq, hi1, htk, Int.toNat_zero, ops_lenT, List.length_map]))
  · simp [sourceR, *]
  · simp [sourceR, *]
  · simp [sourceR, *]
  · have hres : sourceR l t i x o = (othersR l t o.var o.val 0).getD (-2) := by simp [sourceR, *]
    rw [hres]
    refine awp_loopA (fun k : Nat => [(1, .a (I t)), (7, .ref 7 0), (36, .a (txnsA l)), (37, .a (I l.length)), (38, .a (I k))]) (fun _ => [(7, .box [.a (B o.w), .a (I o.var), .a (I o.val)])]) (fun k => k ≤ l.length ∧ othersR l t o.var o.val 0 = othersR l t o.var o.val k) (l.length - ·) 0 ?_ ?_ ⟨Nat.zero_le _, rfl⟩ ?_
    · simp only [↓PR, PO, PC, PX, tyI, tyF, tyX, tyL, tyK, tyB, tyE, tyM, tyP, tyQ, Nat.reduceBEq, Nat.reduceAdd, Nat.reduceMul, Nat.reduceSub, Nat.reduceLeDiff, Nat.reduceEqDiff, Nat.reduceLT, Nat.reducePow, Nat.reduceBneDiff, Nat.reduceBNe, Int.reduceBEq, Int.reduceEq, Int.reduceLT, Int.reduceLE, Int.reduceToNat, List.length_map]
    · simp only [↓PR, PO, PC, PX, tyI, tyF, tyX, tyL, tyK, tyB, tyE, tyM, tyP, tyQ, Nat.reduceBEq, Nat.reduceAdd, Nat.reduceMul, Nat.reduceSub, Nat.reduceLeDiff, Nat.reduceEqDiff, Nat.reduceLT, Nat.reducePow, Nat.reduceBneDiff, Nat.reduceBNe, Int.reduceBEq, Int.reduceEq, Int.reduceLT, Int.reduceLE, Int.reduceToNat, ‹o.w = false›]
    intro k j ⟨hk, hl⟩
    (refine of_gate ?_; repeat' ((first | (with_reducible refine gate_in ?_) | (with_reducible refine spK_intro ?_ ?_ <;> intro hp) | (with_reducible refine brK_intro ?_ ?_ <;> intro hb <;> try rw [hb]) | (with_reducible refine draw_in (by unfold DrawOk; decide +kernel) ?_) | (with_reducible refine And.intro (by first | omega | (simp only [List.length_map, List.length_take]; omega)) ?_) | fail) <;> try simp only [↓PR, PO, PC, PX, tyI, tyF, tyX, tyL, tyK, tyB, tyE, tyM, tyP, tyQ, Nat.reduceBEq, Nat.reduceAdd, Nat.reduceMul, Nat.reduceSub, Nat.reduceLeDiff, Nat.reduceEqDiff, Nat.reduceLT, Nat.reducePow, Nat.reduceBneDiff, Nat.reduceBNe, Int.reduceBEq, Int.reduceEq, Int.reduceLT, Int.reduceLE, Int.reduceToNat]))
    · have hkl : k < l.length := by omega
      have hx : l[k]? = some l[k] := List.getElem?_eq_getElem hkl
      have hw := wrap_succ (n := l.length) hkl (by have := hf.1; simp only [maxLen]; omega)
      have hol := hf.at hkl
      have hs : othersR l t o.var o.val k = if (k : Int) ≠ t ∧ writesR l[k].ops o.var o.val = true then some (k : Int) else othersR l t o.var o.val (k + 1) := by
        simp only [othersR, range_drop hkl, List.findSome?_cons, hx]
        by_cases hc : (k : Int) ≠ t ∧ writesR l[k].ops o.var o.val = true
        · rw [if_pos hc, if_pos hc]
        · rw [if_neg hc, if_neg hc]
      rw [hs] at hl
      generalize l[k] = y at hx hol hl
      (refine of_gate ?_; repeat' ((first | (with_reducible refine gate_in ?_) | (with_reducible refine spK_intro ?_ ?_ <;> intro hp) | (with_reducible refine brK_intro ?_ ?_ <;> intro hb <;> try rw [hb]) | (with_reducible refine draw_in (by unfold DrawOk; decide +kernel) ?_) | (with_reducible refine And.intro (by first | omega | (simp only [List.length_map, List.length_take]; omega)) ?_) | fail) <;> try simp only [↓PR, PO, PC, PX, tyI, tyF, tyX, tyL, tyK, tyB, tyE, tyM, tyP, tyQ, Nat.reduceBEq, Nat.reduceAdd, Nat.reduceMul, Nat.reduceSub, Nat.reduceLeDiff, Nat.reduceEqDiff, Nat.reduceLT, Nat.reducePow, Nat.reduceBneDiff, Nat.reduceBNe, Int.reduceBEq, Int.reduceEq, Int.reduceLT, Int.reduceLE, Int.reduceToNat, hx, Txn.enc_eq, hw]))
      · rw [if_neg (by simp [*])] at hl
        (refine ⟨k + 1, ?_, ?_, ⟨hkl, hl⟩, by dsimp only; omega⟩ <;> simp only [↓PR, PO, PC, PX, tyI, tyF, tyX, tyL, tyK, tyB, tyE, tyM, tyP, tyQ, Nat.reduceBEq, Nat.reduceAdd, Nat.reduceMul, Nat.reduceSub, Nat.reduceLeDiff, Nat.reduceEqDiff, Nat.reduceLT, Nat.reducePow, Nat.reduceBneDiff, Nat.reduceBNe, Int.reduceBEq, Int.reduceEq, Int.reduceLT, Int.reduceLE, Int.reduceToNat])
      · refine call_dat (t63 y o.var o.val (by simp only [maxLen]; omega)) ?_
        (refine of_gate ?_; repeat' ((first | (with_reducible refine gate_in ?_) | (with_reducible refine spK_intro ?_ ?_ <;> intro hp) | (with_reducible refine brK_intro ?_ ?_ <;> intro hb <;> try rw [hb]) | (with_reducible refine draw_in (by unfold DrawOk; decide +kernel) ?_) | (with_reducible refine And.intro (by first | omega | (simp only [List.length_map, List.length_take]; omega)) ?_) | fail) <;> try simp only [↓PR, PO, PC, PX, tyI, tyF, tyX, tyL, tyK, tyB, tyE, tyM, tyP, tyQ, Nat.reduceBEq, Nat.reduceAdd, Nat.reduceMul, Nat.reduceSub, Nat.reduceLeDiff, Nat.reduceEqDiff, Nat.reduceLT, Nat.reducePow, Nat.reduceBneDiff, Nat.reduceBNe, Int.reduceBEq, Int.reduceEq, Int.reduceLT, Int.reduceLE, Int.reduceToNat, hx, Txn.enc_eq, hw]))
        · rw [if_pos ⟨by assumption, by assumption⟩] at hl
          rw [hl]; rfl
        · rw [if_neg (by simp [*])] at hl
          (refine ⟨k + 1, ?_, ?_, ⟨hkl, hl⟩, by dsimp only; omega⟩ <;> simp only [↓PR, PO, PC, PX, tyI, tyF, tyX, tyL, tyK, tyB, tyE, tyM, tyP, tyQ, Nat.reduceBEq, Nat.reduceAdd, Nat.reduceMul, Nat.reduceSub, Nat.reduceLeDiff, Nat.reduceEqDiff, Nat.reduceLT, Nat.reducePow, Nat.reduceBneDiff, Nat.reduceBNe, Int.reduceBEq, Int.reduceEq, Int.reduceLT, Int.reduceLE, Int.reduceToNat])
    · rw [hl, othersR, List.drop_eq_nil_of_le (by simp; omega)]; rfl
theorem c68 {l : List Txn} {t i : Nat} {x : Txn} {o : Op} (hf : FitT l) (hx : l[t]? = some x) (ho : x.ops[i]? = some o) {dst : Option Tmp} {σ : S} {K : S → Prop} (hK : S.ret σ dst [.a (I (sourceR l t i x o))] K) : callV Tryd.prog GL 68 [.a (txnsA l), .a (I t), .a (I i)] dst σ K := call_dat (t68 l hf t i x o hx ho) hK
def srcRowR (l : List Txn) (t : Nat) (x : Txn) (k : Nat) : List Int := (List.range k).map fun i => match x.ops[i]? with
  | some o => sourceR l t i x o
  | none => 0
def sourcesTo (l : List Txn) (k : Nat) : List (List Int) := (List.range k).map fun t => match l[t]? with
  | some x => srcRowR l t x x.ops.length
  | none => []
theorem t33 (l : List Txn) (hf : FitT l) : Holds Tryd.prog GL 33 [txnsA l] [.a (.d (.sl ((sourcesTo l l.length).map intRow)))] := by
  refine fn_holds (vs := [.tmp 2]) (by kernel_rfl) Tryd.func33 rfl rfl (by kernel_rfl) (by kernel_rfl) rfl ?_
  have hfl := hf.1
  (refine of_gate ?_; repeat' ((first | (with_reducible refine gate_in ?_) | (with_reducible refine spK_intro ?_ ?_ <;> intro hp) | (with_reducible refine brK_intro ?_ ?_ <;> intro hb <;> try rw [hb]) | (with_reducible refine draw_in (by unfold DrawOk; decide +kernel) ?_) | (with_reducible refine And.intro (by first | omega | (simp only [List.length_map, List.length_take]; omega)) ?_) | fail) <;> try simp only [↓PR, PO, PC, PX, tyI, tyF, tyX, tyL, tyK, tyB, tyE, tyM, tyP, tyQ, Nat.reduceBEq, Nat.reduceAdd, Nat.reduceMul, Nat.reduceSub, Nat.reduceLeDiff, Nat.reduceEqDiff, Nat.reduceLT, Nat.reducePow, Nat.reduceBneDiff, Nat.reduceBNe, Int.reduceBEq, Int.reduceEq, Int.reduceLT, Int.reduceLE, Int.reduceToNat, List.length_map]))
  refine awp_loopA (fun k : Nat => [(0, .a (txnsA l)), (3, .own 8), (9, .a (txnsA l)), (10, .a (I l.length)), (11, .a (I k))]) (fun k => [(8, .log 30 1 ((sourcesTo l k).map intRow))]) (fun k => k ≤ l.length) (l.length - ·) 0 ?_ ?_ (Nat.zero_le _) ?_
  · simp only [↓PR, PO, PC, PX, tyI, tyF, tyX, tyL, tyK, tyB, tyE, tyM, tyP, tyQ, Nat.reduceBEq, Nat.reduceAdd, Nat.reduceMul, Nat.reduceSub, Nat.reduceLeDiff, Nat.reduceEqDiff, Nat.reduceLT, Nat.reducePow, Nat.reduceBneDiff, Nat.reduceBNe, Int.reduceBEq, Int.reduceEq, Int.reduceLT, Int.reduceLE, Int.reduceToNat]
  · simp only [↓PR, PO, PC, PX, tyI, tyF, tyX, tyL, tyK, tyB, tyE, tyM, tyP, tyQ, Nat.reduceBEq, Nat.reduceAdd, Nat.reduceMul, Nat.reduceSub, Nat.reduceLeDiff, Nat.reduceEqDiff, Nat.reduceLT, Nat.reducePow, Nat.reduceBneDiff, Nat.reduceBNe, Int.reduceBEq, Int.reduceEq, Int.reduceLT, Int.reduceLE, Int.reduceToNat]; try rfl
  intro k j hk
  (refine of_gate ?_; repeat' ((first | (with_reducible refine gate_in ?_) | (with_reducible refine spK_intro ?_ ?_ <;> intro hp) | (with_reducible refine brK_intro ?_ ?_ <;> intro hb <;> try rw [hb]) | (with_reducible refine draw_in (by unfold DrawOk; decide +kernel) ?_) | (with_reducible refine And.intro (by first | omega | (simp only [List.length_map, List.length_take]; omega)) ?_) | fail) <;> try simp only [↓PR, PO, PC, PX, tyI, tyF, tyX, tyL, tyK, tyB, tyE, tyM, tyP, tyQ, Nat.reduceBEq, Nat.reduceAdd, Nat.reduceMul, Nat.reduceSub, Nat.reduceLeDiff, Nat.reduceEqDiff, Nat.reduceLT, Nat.reducePow, Nat.reduceBneDiff, Nat.reduceBNe, Int.reduceBEq, Int.reduceEq, Int.reduceLT, Int.reduceLE, Int.reduceToNat]))
  · have hkl : k < l.length := by omega
    have hx : l[k]? = some l[k] := List.getElem?_eq_getElem hkl
    have hw := wrap_succ (n := l.length) hkl (by simp only [maxLen]; omega)
    have hol := hf.at hkl
    have hs : sourcesTo l (k + 1) = sourcesTo l k ++ [srcRowR l k l[k] l[k].ops.length] := by
      simp only [sourcesTo, List.range_succ, List.map_append, List.map_cons, List.map_nil, hx]
    have hsl : (sourcesTo l k).length = k := by simp [sourcesTo]
    generalize l[k] = x at hx hol hs
    (refine of_gate ?_; repeat' ((first | (with_reducible refine gate_in ?_) | (with_reducible refine spK_intro ?_ ?_ <;> intro hp) | (with_reducible refine brK_intro ?_ ?_ <;> intro hb <;> try rw [hb]) | (with_reducible refine draw_in (by unfold DrawOk; decide +kernel) ?_) | (with_reducible refine And.intro (by first | omega | (simp only [List.length_map, List.length_take]; omega)) ?_) | fail) <;> try simp only [↓PR, PO, PC, PX, tyI, tyF, tyX, tyL, tyK, tyB, tyE, tyM, tyP, tyQ, Nat.reduceBEq, Nat.reduceAdd, Nat.reduceMul, Nat.reduceSub, Nat.reduceLeDiff, Nat.reduceEqDiff, Nat.reduceLT, Nat.reducePow, Nat.reduceBneDiff, Nat.reduceBNe, Int.reduceBEq, Int.reduceEq, Int.reduceLT, Int.reduceLE, Int.reduceToNat, hx, Txn.enc_eq, hw, List.length_map]))
    refine awp_loopA (fun i : Nat => [(0, .a (txnsA l)), (3, .own 8), (4, .a (I k)), (6, .own 16), (9, .a (txnsA l)), (10, .a (I l.length)), (11, .a (I k)), (19, .a (I x.ops.length)), (20, .a (I i))]) (fun i => [(8, .log 30 1 ((sourcesTo l k).map intRow)), (16, .log 3 1 ((srcRowR l k x i).map ienc))]) (fun i => i ≤ x.ops.length) (x.ops.length - ·) 0 ?_ ?_ (Nat.zero_le _) ?_
    · simp only [↓PR, PO, PC, PX, tyI, tyF, tyX, tyL, tyK, tyB, tyE, tyM, tyP, tyQ, Nat.reduceBEq, Nat.reduceAdd, Nat.reduceMul, Nat.reduceSub, Nat.reduceLeDiff, Nat.reduceEqDiff, Nat.reduceLT, Nat.reducePow, Nat.reduceBneDiff, Nat.reduceBNe, Int.reduceBEq, Int.reduceEq, Int.reduceLT, Int.reduceLE, Int.reduceToNat]
    · simp only [↓PR, PO, PC, PX, tyI, tyF, tyX, tyL, tyK, tyB, tyE, tyM, tyP, tyQ, Nat.reduceBEq, Nat.reduceAdd, Nat.reduceMul, Nat.reduceSub, Nat.reduceLeDiff, Nat.reduceEqDiff, Nat.reduceLT, Nat.reducePow, Nat.reduceBneDiff, Nat.reduceBNe, Int.reduceBEq, Int.reduceEq, Int.reduceLT, Int.reduceLE, Int.reduceToNat]; try rfl
    intro i j hi
    (refine of_gate ?_; repeat' ((first | (with_reducible refine gate_in ?_) | (with_reducible refine spK_intro ?_ ?_ <;> intro hp) | (with_reducible refine brK_intro ?_ ?_ <;> intro hb <;> try rw [hb]) | (with_reducible refine draw_in (by unfold DrawOk; decide +kernel) ?_) | (with_reducible refine And.intro (by first | omega | (simp only [List.length_map, List.length_take]; omega)) ?_) | fail) <;> try simp only [↓PR, PO, PC, PX, tyI, tyF, tyX, tyL, tyK, tyB, tyE, tyM, tyP, tyQ, Nat.reduceBEq, Nat.reduceAdd, Nat.reduceMul, Nat.reduceSub, Nat.reduceLeDiff, Nat.reduceEqDiff, Nat.reduceLT, Nat.reducePow, Nat.reduceBneDiff, Nat.reduceBNe, Int.reduceBEq, Int.reduceEq, Int.reduceLT, Int.reduceLE, Int.reduceToNat]))
    · have hil : i < x.ops.length := by omega
      have hy : x.ops[i]? = some x.ops[i] := List.getElem?_eq_getElem hil
      have hwi := wrap_succ (n := x.ops.length) hil (by simp only [maxLen]; omega)
      have hs2 : srcRowR l k x (i + 1) = srcRowR l k x i ++ [sourceR l k i x x.ops[i]] := by
        simp only [srcRowR, List.range_succ, List.map_append, List.map_cons, List.map_nil, hy]
      have hsl2 : (srcRowR l k x i).length = i := by simp [srcRowR]
      generalize x.ops[i] = o at hy hs2
      (refine of_gate ?_; repeat' ((first | (with_reducible refine gate_in ?_) | (with_reducible refine spK_intro ?_ ?_ <;> intro hp) | (with_reducible refine brK_intro ?_ ?_ <;> intro hb <;> try rw [hb]) | (with_reducible refine draw_in (by unfold DrawOk; decide +kernel) ?_) | (with_reducible refine And.intro (by first | omega | (simp only [List.length_map, List.length_take]; omega)) ?_) | fail) <;> try simp only [↓PR, PO, PC, PX, tyI, tyF, tyX, tyL, tyK, tyB, tyE, tyM, tyP, tyQ, Nat.reduceBEq, Nat.reduceAdd, Nat.reduceMul, Nat.reduceSub, Nat.reduceLeDiff, Nat.reduceEqDiff, Nat.reduceLT, Nat.reducePow, Nat.reduceBneDiff, Nat.reduceBNe, Int.reduceBEq, Int.reduceEq, Int.reduceLT, Int.reduceLE, Int.reduceToNat, hwi]))
      refine c68 hf hx hy ?_
      (refine of_gate ?_; repeat' ((first | (with_reducible refine gate_in ?_) | (with_reducible refine spK_intro ?_ ?_ <;> intro hp) | (with_reducible refine brK_intro ?_ ?_ <;> intro hb <;> try rw [hb]) | (with_reducible refine draw_in (by unfold DrawOk; decide +kernel) ?_) | (with_reducible refine And.intro (by first | omega | (simp only [List.length_map, List.length_take]; omega)) ?_) | fail) <;> try simp only [↓PR, PO, PC, PX, tyI, tyF, tyX, tyL, tyK, tyB, tyE, tyM, tyP, tyQ, Nat.reduceBEq, Nat.reduceAdd, Nat.reduceMul, Nat.reduceSub, Nat.reduceLeDiff, Nat.reduceEqDiff, Nat.reduceLT, Nat.reducePow, Nat.reduceBneDiff, Nat.reduceBNe, Int.reduceBEq, Int.reduceEq, Int.reduceLT, Int.reduceLE, Int.reduceToNat, hwi]))
      (refine ⟨i + 1, ?_, ?_, hil, by dsimp only; omega⟩ <;> simp only [↓PR, PO, PC, PX, tyI, tyF, tyX, tyL, tyK, tyB, tyE, tyM, tyP, tyQ, Nat.reduceBEq, Nat.reduceAdd, Nat.reduceMul, Nat.reduceSub, Nat.reduceLeDiff, Nat.reduceEqDiff, Nat.reduceLT, Nat.reducePow, Nat.reduceBneDiff, Nat.reduceBNe, Int.reduceBEq, Int.reduceEq, Int.reduceLT, Int.reduceLE, Int.reduceToNat, hs2, List.map_append, ienc_eq])
    · rw [show i = x.ops.length by omega]
      (refine of_gate ?_; repeat' ((first | (with_reducible refine gate_in ?_) | (with_reducible refine spK_intro ?_ ?_ <;> intro hp) | (with_reducible refine brK_intro ?_ ?_ <;> intro hb <;> try rw [hb]) | (with_reducible refine draw_in (by unfold DrawOk; decide +kernel) ?_) | (with_reducible refine And.intro (by first | omega | (simp only [List.length_map, List.length_take]; omega)) ?_) | fail) <;> try simp only [↓PR, PO, PC, PX, tyI, tyF, tyX, tyL, tyK, tyB, tyE, tyM, tyP, tyQ, Nat.reduceBEq, Nat.reduceAdd, Nat.reduceMul, Nat.reduceSub, Nat.reduceLeDiff, Nat.reduceEqDiff, Nat.reduceLT, Nat.reducePow, Nat.reduceBneDiff, Nat.reduceBNe, Int.reduceBEq, Int.reduceEq, Int.reduceLT, Int.reduceLE, Int.reduceToNat, hw]))
      (refine ⟨k + 1, ?_, ?_, hkl, by dsimp only; omega⟩ <;> simp only [↓PR, PO, PC, PX, tyI, tyF, tyX, tyL, tyK, tyB, tyE, tyM, tyP, tyQ, Nat.reduceBEq, Nat.reduceAdd, Nat.reduceMul, Nat.reduceSub, Nat.reduceLeDiff, Nat.reduceEqDiff, Nat.reduceLT, Nat.reducePow, Nat.reduceBneDiff, Nat.reduceBNe, Int.reduceBEq, Int.reduceEq, Int.reduceLT, Int.reduceLE, Int.reduceToNat, hs, List.map_append, intRow_eq])
  · rw [show k = l.length by omega]
/-! Are values unique? -/
def clash (l : List Txn) (i : Int) (o : Op) (k0 : Nat) : Bool := ((List.range l.length).drop k0).any fun k => match l[k]? with
  | some x => !decide ((k : Int) = i) && writesR x.ops o.var o.val
  | none => false
def okOp (l : List Txn) (i : Int) (o : Op) : Bool := !(o.w && (o.val == 0 || clash l i o 0))
def uniqTo (l : List Txn) (i0 : Nat) : Bool := ((List.range l.length).drop i0).all fun i => match l[i]? with
  | some t => t.ops.all (okOp l i)
  | none => true
theorem t31 (l : List Txn) (hf : FitT l) : Holds Tryd.prog GL 31 [txnsA l] [.a (B (uniqTo l 0))] := by
  refine fn_holds (vs := [.tmp 2]) (by kernel_rfl) Tryd.func31 rfl rfl (by kernel_rfl) (by kernel_rfl) rfl ?_
  have hfl := hf.1
  (refine of_gate ?_; repeat' ((first | (with_reducible refine gate_in ?_) | (with_reducible refine spK_intro ?_ ?_ <;> intro hp) | (with_reducible refine brK_intro ?_ ?_ <;> intro hb <;> try rw [hb]) | (with_reducible refine draw_in (by unfold DrawOk; decide +kernel) ?_) | (with_reducible refine And.intro (by first | omega | (simp only [List.length_map, List.length_take]; omega)) ?_) | fail) <;> try simp only [↓PR, PO, PC, PX, tyI, tyF, tyX, tyL, tyK, tyB, tyE, tyM, tyP, tyQ, Nat.reduceBEq, Nat.reduceAdd, Nat.reduceMul, Nat.reduceSub, Nat.reduceLeDiff, Nat.reduceEqDiff, Nat.reduceLT, Nat.reducePow, Nat.reduceBneDiff, Nat.reduceBNe, Int.reduceBEq, Int.reduceEq, Int.reduceLT, Int.reduceLE, Int.reduceToNat, List.length_map]))
  refine awp_loopA (fun k : Nat => [(0, .a (txnsA l)), (9, .a (txnsA l)), (10, .a (I l.length)), (11, .a (I k))]) (fun k => []) (fun k => k ≤ l.length ∧ uniqTo l 0 = uniqTo l k) (l.length - ·) 0 ?_ ?_ ⟨Nat.zero_le _, rfl⟩ ?_
  · simp only [↓PR, PO, PC, PX, tyI, tyF, tyX, tyL, tyK, tyB, tyE, tyM, tyP, tyQ, Nat.reduceBEq, Nat.reduceAdd, Nat.reduceMul, Nat.reduceSub, Nat.reduceLeDiff, Nat.reduceEqDiff, Nat.reduceLT, Nat.reducePow, Nat.reduceBneDiff, Nat.reduceBNe, Int.reduceBEq, Int.reduceEq, Int.reduceLT, Int.reduceLE, Int.reduceToNat]
  · simp only [↓PR, PO, PC, PX, tyI, tyF, tyX, tyL, tyK, tyB, tyE, tyM, tyP, tyQ, Nat.reduceBEq, Nat.reduceAdd, Nat.reduceMul, Nat.reduceSub, Nat.reduceLeDiff, Nat.reduceEqDiff, Nat.reduceLT, Nat.reducePow, Nat.reduceBneDiff, Nat.reduceBNe, Int.reduceBEq, Int.reduceEq, Int.reduceLT, Int.reduceLE, Int.reduceToNat]
  intro k j ⟨hk, hu⟩
  (refine of_gate ?_; repeat' ((first | (with_reducible refine gate_in ?_) | (with_reducible refine spK_intro ?_ ?_ <;> intro hp) | (with_reducible refine brK_intro ?_ ?_ <;> intro hb <;> try rw [hb]) | (with_reducible refine draw_in (by unfold DrawOk; decide +kernel) ?_) | (with_reducible refine And.intro (by first | omega | (simp only [List.length_map, List.length_take]; omega)) ?_) | fail) <;> try simp only [↓PR, PO, PC, PX, tyI, tyF, tyX, tyL, tyK, tyB, tyE, tyM, tyP, tyQ, Nat.reduceBEq, Nat.reduceAdd, Nat.reduceMul, Nat.reduceSub, Nat.reduceLeDiff, Nat.reduceEqDiff, Nat.reduceLT, Nat.reducePow, Nat.reduceBneDiff, Nat.reduceBNe, Int.reduceBEq, Int.reduceEq, Int.reduceLT, Int.reduceLE, Int.reduceToNat]))
  · have hkl : k < l.length := by omega
    have hx : l[k]? = some l[k] := List.getElem?_eq_getElem hkl
    have hw := wrap_succ (n := l.length) hkl (by simp only [maxLen]; omega)
    have hol := hf.at hkl
    have hs : uniqTo l k = (l[k].ops.all (okOp l k) && uniqTo l (k + 1)) := by
      simp only [uniqTo, range_drop hkl, List.all_cons, hx]
    rw [hs] at hu
    generalize l[k] = x at hx hol hu
    (refine of_gate ?_; repeat' ((first | (with_reducible refine gate_in ?_) | (with_reducible refine spK_intro ?_ ?_ <;> intro hp) | (with_reducible refine brK_intro ?_ ?_ <;> intro hb <;> try rw [hb]) | (with_reducible refine draw_in (by unfold DrawOk; decide +kernel) ?_) | (with_reducible refine And.intro (by first | omega | (simp only [List.length_map, List.length_take]; omega)) ?_) | fail) <;> try simp only [↓PR, PO, PC, PX, tyI, tyF, tyX, tyL, tyK, tyB, tyE, tyM, tyP, tyQ, Nat.reduceBEq, Nat.reduceAdd, Nat.reduceMul, Nat.reduceSub, Nat.reduceLeDiff, Nat.reduceEqDiff, Nat.reduceLT, Nat.reducePow, Nat.reduceBneDiff, Nat.reduceBNe, Int.reduceBEq, Int.reduceEq, Int.reduceLT, Int.reduceLE, Int.reduceToNat, hx, Txn.enc_eq, hw, List.length_map]))
    refine awp_loopA (fun i : Nat => [(0, .a (txnsA l)), (3, .a (I k)), (9, .a (txnsA l)), (10, .a (I l.length)), (11, .a (I k)), (17, .a (opsA' x.ops)), (18, .a (I x.ops.length)), (19, .a (I i))]) (fun i => []) (fun i => i ≤ x.ops.length ∧ uniqTo l 0 = ((x.ops.drop i).all (okOp l k) && uniqTo l (k + 1))) (x.ops.length - ·) 0 ?_ ?_ ⟨Nat.zero_le _, hu⟩ ?_
    · simp only [↓PR, PO, PC, PX, tyI, tyF, tyX, tyL, tyK, tyB, tyE, tyM, tyP, tyQ, Nat.reduceBEq, Nat.reduceAdd, Nat.reduceMul, Nat.reduceSub, Nat.reduceLeDiff, Nat.reduceEqDiff, Nat.reduceLT, Nat.reducePow, Nat.reduceBneDiff, Nat.reduceBNe, Int.reduceBEq, Int.reduceEq, Int.reduceLT, Int.reduceLE, Int.reduceToNat]
    · simp only [↓PR, PO, PC, PX, tyI, tyF, tyX, tyL, tyK, tyB, tyE, tyM, tyP, tyQ, Nat.reduceBEq, Nat.reduceAdd, Nat.reduceMul, Nat.reduceSub, Nat.reduceLeDiff, Nat.reduceEqDiff, Nat.reduceLT, Nat.reducePow, Nat.reduceBneDiff, Nat.reduceBNe, Int.reduceBEq, Int.reduceEq, Int.reduceLT, Int.reduceLE, Int.reduceToNat]
    intro i j ⟨hi, hv⟩
    (refine of_gate ?_; repeat' ((first | (with_reducible refine gate_in ?_) | (with_reducible refine spK_intro ?_ ?_ <;> intro hp) | (with_reducible refine brK_intro ?_ ?_ <;> intro hb <;> try rw [hb]) | (with_reducible refine draw_in (by unfold DrawOk; decide +kernel) ?_) | (with_reducible refine And.intro (by first | omega | (simp only [List.length_map, List.length_take]; omega)) ?_) | fail) <;> try simp only [↓PR, PO, PC, PX, tyI, tyF, tyX, tyL, tyK, tyB, tyE, tyM, tyP, tyQ, Nat.reduceBEq, Nat.reduceAdd, Nat.reduceMul, Nat.reduceSub, Nat.reduceLeDiff, Nat.reduceEqDiff, Nat.reduceLT, Nat.reducePow, Nat.reduceBneDiff, Nat.reduceBNe, Int.reduceBEq, Int.reduceEq, Int.reduceLT, Int.reduceLE, Int.reduceToNat]))
    · have hil : i < x.ops.length := by omega
      have hy : x.ops[i]? = some x.ops[i] := List.getElem?_eq_getElem hil
      have hwi := wrap_succ (n := x.ops.length) hil (by simp only [maxLen]; omega)
      rw [List.drop_eq_getElem_cons hil, List.all_cons] at hv
      generalize x.ops[i] = o at hy hv
      have key : ∀ (bo : Bool), o.w = bo → o.w = false ∨ ¬ o.val = 0 → (bo = true → uniqTo l 0 = (!clash l k o 0 && (x.ops.drop (i + 1)).all (okOp l k) && uniqTo l (k + 1))) ∧ (bo = false → uniqTo l 0 = ((x.ops.drop (i + 1)).all (okOp l k) && uniqTo l (k + 1))) := by
        intro bo hb hz
        refine ⟨fun h => ?_, fun h => ?_⟩
        · rw [hv, okOp, hb, h]
          have : (o.val == 0) = false := by
            rcases hz with hz | hz
            · rw [hb, h] at hz; cases hz
            · simpa using hz
          rw [this]; rfl
        · rw [hv, okOp, hb, h]; rfl
      (refine of_gate ?_; repeat' ((first | (with_reducible refine gate_in ?_) | (with_reducible refine spK_intro ?_ ?_ <;> intro hp) | (with_reducible refine brK_intro ?_ ?_ <;> intro hb <;> try rw [hb]) | (with_reducible refine draw_in (by unfold DrawOk; decide +kernel) ?_) | (with_reducible refine And.intro (by first | omega | (simp only [List.length_map, List.length_take]; omega)) ?_) | fail) <;> try simp only [↓PR, PO, PC, PX, tyI, tyF, tyX, tyL, tyK, tyB, tyE, tyM, tyP, tyQ, Nat.reduceBEq, Nat.reduceAdd, Nat.reduceMul, Nat.reduceSub, Nat.reduceLeDiff, Nat.reduceEqDiff, Nat.reduceLT, Nat.reducePow, Nat.reduceBneDiff, Nat.reduceBNe, Int.reduceBEq, Int.reduceEq, Int.reduceLT, Int.reduceLE, Int.reduceToNat, hy, Op.enc_eq, List.length_map]))
      · rw [hv, okOp, ‹o.w = true›, ‹o.val = 0›]; rfl
      · have hv := (key true ‹_› (.inr ‹_›)).1 rfl
        refine awp_loopA (fun m : Nat => [(0, .a (txnsA l)), (3, .a (I k)), (6, .ref 6 0), (9, .a (txnsA l)), (10, .a (I l.length)), (11, .a (I k)), (17, .a (opsA' x.ops)), (18, .a (I x.ops.length)), (19, .a (I i)), (30, .a (txnsA l)), (31, .a (I l.length)), (32, .a (I m))]) (fun _ => [(6, .box [.a (B true), .a (I o.var), .a (I o.val)])]) (fun m => m ≤ l.length ∧ clash l k o 0 = clash l k o m) (l.length - ·) 0 ?_ ?_ ⟨Nat.zero_le _, rfl⟩ ?_
        · simp only [↓PR, PO, PC, PX, tyI, tyF, tyX, tyL, tyK, tyB, tyE, tyM, tyP, tyQ, Nat.reduceBEq, Nat.reduceAdd, Nat.reduceMul, Nat.reduceSub, Nat.reduceLeDiff, Nat.reduceEqDiff, Nat.reduceLT, Nat.reducePow, Nat.reduceBneDiff, Nat.reduceBNe, Int.reduceBEq, Int.reduceEq, Int.reduceLT, Int.reduceLE, Int.reduceToNat, List.length_map]
        · simp only [↓PR, PO, PC, PX, tyI, tyF, tyX, tyL, tyK, tyB, tyE, tyM, tyP, tyQ, Nat.reduceBEq, Nat.reduceAdd, Nat.reduceMul, Nat.reduceSub, Nat.reduceLeDiff, Nat.reduceEqDiff, Nat.reduceLT, Nat.reducePow, Nat.reduceBneDiff, Nat.reduceBNe, Int.reduceBEq, Int.reduceEq, Int.reduceLT, Int.reduceLE, Int.reduceToNat]
        intro m j ⟨hm, hc⟩
        (refine of_gate ?_; repeat' ((first | (with_reducible refine gate_in ?_) | (with_reducible refine spK_intro ?_ ?_ <;> intro hp) | (with_reducible refine brK_intro ?_ ?_ <;> intro hb <;> try rw [hb]) | (with_reducible refine draw_in (by unfold DrawOk; decide +kernel) ?_) | (with_reducible refine And.intro (by first | omega | (simp only [List.length_map, List.length_take]; omega)) ?_) | fail) <;> try simp only [↓PR, PO, PC, PX, tyI, tyF, tyX, tyL, tyK, tyB, tyE, tyM, tyP, tyQ, Nat.reduceBEq, Nat.reduceAdd, Nat.reduceMul, Nat.reduceSub, Nat.reduceLeDiff, Nat.reduceEqDiff, Nat.reduceLT, Nat.reducePow, Nat.reduceBneDiff, Nat.reduceBNe, Int.reduceBEq, Int.reduceEq, Int.reduceLT, Int.reduceLE, Int.reduceToNat]))
        · have hml : m < l.length := by omega
          have hz : l[m]? = some l[m] := List.getElem?_eq_getElem hml
          have hwm := wrap_succ (n := l.length) hml (by simp only [maxLen]; omega)
          have hzl := hf.at hml
          have hs : clash l k o m = ((!decide ((m : Int) = k) && writesR l[m].ops o.var o.val) || clash l k o (m + 1)) := by
            simp only [clash, range_drop hml, List.any_cons, hz]
          rw [hs] at hc
          generalize l[m] = y at hz hzl hc
          (refine of_gate ?_; repeat' ((first | (with_reducible refine gate_in ?_) | (with_reducible refine spK_intro ?_ ?_ <;> intro hp) | (with_reducible refine brK_intro ?_ ?_ <;> intro hb <;> try rw [hb]) | (with_reducible refine draw_in (by unfold DrawOk; decide +kernel) ?_) | (with_reducible refine And.intro (by first | omega | (simp only [List.length_map, List.length_take]; omega)) ?_) | fail) <;> try simp only [↓PR, PO, PC, PX, tyI, tyF, tyX, tyL, tyK, tyB, tyE, tyM, tyP, tyQ, Nat.reduceBEq, Nat.reduceAdd, Nat.reduceMul, Nat.reduceSub, Nat.reduceLeDiff, Nat.reduceEqDiff, Nat.reduceLT, Nat.reducePow, Nat.reduceBneDiff, Nat.reduceBNe, Int.reduceBEq, Int.reduceEq, Int.reduceLT, Int.reduceLE, Int.reduceToNat, hz, Txn.enc_eq, hwm]))
          · rw [decide_eq_true ‹_›] at hc
            (refine ⟨m + 1, ?_, ?_, ⟨hml, hc⟩, by dsimp only; omega⟩ <;> simp only [↓PR, PO, PC, PX, tyI, tyF, tyX, tyL, tyK, tyB, tyE, tyM, tyP, tyQ, Nat.reduceBEq, Nat.reduceAdd, Nat.reduceMul, Nat.reduceSub, Nat.reduceLeDiff, Nat.reduceEqDiff, Nat.reduceLT, Nat.reducePow, Nat.reduceBneDiff, Nat.reduceBNe, Int.reduceBEq, Int.reduceEq, Int.reduceLT, Int.reduceLE, Int.reduceToNat])
          · rw [decide_eq_false ‹_›] at hc
            refine call_dat (t63 y o.var o.val (by simp only [maxLen]; omega)) ?_
            (refine of_gate ?_; repeat' ((first | (with_reducible refine gate_in ?_) | (with_reducible refine spK_intro ?_ ?_ <;> intro hp) | (with_reducible refine brK_intro ?_ ?_ <;> intro hb <;> try rw [hb]) | (with_reducible refine draw_in (by unfold DrawOk; decide +kernel) ?_) | (with_reducible refine And.intro (by first | omega | (simp only [List.length_map, List.length_take]; omega)) ?_) | fail) <;> try simp only [↓PR, PO, PC, PX, tyI, tyF, tyX, tyL, tyK, tyB, tyE, tyM, tyP, tyQ, Nat.reduceBEq, Nat.reduceAdd, Nat.reduceMul, Nat.reduceSub, Nat.reduceLeDiff, Nat.reduceEqDiff, Nat.reduceLT, Nat.reducePow, Nat.reduceBneDiff, Nat.reduceBNe, Int.reduceBEq, Int.reduceEq, Int.reduceLT, Int.reduceLE, Int.reduceToNat, hwm]))
            · rw [hv, hc, ‹writesR _ _ _ = true›]; rfl
            · rw [‹writesR _ _ _ = false›] at hc
              (refine ⟨m + 1, ?_, ?_, ⟨hml, hc⟩, by dsimp only; omega⟩ <;> simp only [↓PR, PO, PC, PX, tyI, tyF, tyX, tyL, tyK, tyB, tyE, tyM, tyP, tyQ, Nat.reduceBEq, Nat.reduceAdd, Nat.reduceMul, Nat.reduceSub, Nat.reduceLeDiff, Nat.reduceEqDiff, Nat.reduceLT, Nat.reducePow, Nat.reduceBneDiff, Nat.reduceBNe, Int.reduceBEq, Int.reduceEq, Int.reduceLT, Int.reduceLE, Int.reduceToNat])
        · have hc0 : clash l k o m = false := by rw [clash, List.drop_eq_nil_of_le (by simp; omega)]; rfl
          rw [hc0] at hc
          rw [hc] at hv
          (refine of_gate ?_; repeat' ((first | (with_reducible refine gate_in ?_) | (with_reducible refine spK_intro ?_ ?_ <;> intro hp) | (with_reducible refine brK_intro ?_ ?_ <;> intro hb <;> try rw [hb]) | (with_reducible refine draw_in (by unfold DrawOk; decide +kernel) ?_) | (with_reducible refine And.intro (by first | omega | (simp only [List.length_map, List.length_take]; omega)) ?_) | fail) <;> try simp only [↓PR, PO, PC, PX, tyI, tyF, tyX, tyL, tyK, tyB, tyE, tyM, tyP, tyQ, Nat.reduceBEq, Nat.reduceAdd, Nat.reduceMul, Nat.reduceSub, Nat.reduceLeDiff, Nat.reduceEqDiff, Nat.reduceLT, Nat.reducePow, Nat.reduceBneDiff, Nat.reduceBNe, Int.reduceBEq, Int.reduceEq, Int.reduceLT, Int.reduceLE, Int.reduceToNat, hwi]))
          (refine ⟨i + 1, ?_, ?_, ⟨hil, hv⟩, by dsimp only; omega⟩ <;> simp only [↓PR, PO, PC, PX, tyI, tyF, tyX, tyL, tyK, tyB, tyE, tyM, tyP, tyQ, Nat.reduceBEq, Nat.reduceAdd, Nat.reduceMul, Nat.reduceSub, Nat.reduceLeDiff, Nat.reduceEqDiff, Nat.reduceLT, Nat.reducePow, Nat.reduceBneDiff, Nat.reduceBNe, Int.reduceBEq, Int.reduceEq, Int.reduceLT, Int.reduceLE, Int.reduceToNat])
      · have hv := (key false ‹_› (.inl ‹_›)).2 rfl
        refine awp_loopA (fun m : Nat => [(0, .a (txnsA l)), (3, .a (I k)), (6, .ref 6 0), (9, .a (txnsA l)), (10, .a (I l.length)), (11, .a (I k)), (17, .a (opsA' x.ops)), (18, .a (I x.ops.length)), (19, .a (I i)), (30, .a (txnsA l)), (31, .a (I l.length)), (32, .a (I m))]) (fun _ => [(6, .box [.a (B false), .a (I o.var), .a (I o.val)])]) (fun m => m ≤ l.length) (l.length - ·) 0 ?_ ?_ (Nat.zero_le _) ?_
        · simp only [↓PR, PO, PC, PX, tyI, tyF, tyX, tyL, tyK, tyB, tyE, tyM, tyP, tyQ, Nat.reduceBEq, Nat.reduceAdd, Nat.reduceMul, Nat.reduceSub, Nat.reduceLeDiff, Nat.reduceEqDiff, Nat.reduceLT, Nat.reducePow, Nat.reduceBneDiff, Nat.reduceBNe, Int.reduceBEq, Int.reduceEq, Int.reduceLT, Int.reduceLE, Int.reduceToNat, List.length_map]
        · simp only [↓PR, PO, PC, PX, tyI, tyF, tyX, tyL, tyK, tyB, tyE, tyM, tyP, tyQ, Nat.reduceBEq, Nat.reduceAdd, Nat.reduceMul, Nat.reduceSub, Nat.reduceLeDiff, Nat.reduceEqDiff, Nat.reduceLT, Nat.reducePow, Nat.reduceBneDiff, Nat.reduceBNe, Int.reduceBEq, Int.reduceEq, Int.reduceLT, Int.reduceLE, Int.reduceToNat]
        intro m j hm
        (refine of_gate ?_; repeat' ((first | (with_reducible refine gate_in ?_) | (with_reducible refine spK_intro ?_ ?_ <;> intro hp) | (with_reducible refine brK_intro ?_ ?_ <;> intro hb <;> try rw [hb]) | (with_reducible refine draw_in (by unfold DrawOk; decide +kernel) ?_) | (with_reducible refine And.intro (by first | omega | (simp only [List.length_map, List.length_take]; omega)) ?_) | fail) <;> try simp only [↓PR, PO, PC, PX, tyI, tyF, tyX, tyL, tyK, tyB, tyE, tyM, tyP, tyQ, Nat.reduceBEq, Nat.reduceAdd, Nat.reduceMul, Nat.reduceSub, Nat.reduceLeDiff, Nat.reduceEqDiff, Nat.reduceLT, Nat.reducePow, Nat.reduceBneDiff, Nat.reduceBNe, Int.reduceBEq, Int.reduceEq, Int.reduceLT, Int.reduceLE, Int.reduceToNat]))
        · have hml : m < l.length := by omega
          have hz : l[m]? = some l[m] := List.getElem?_eq_getElem hml
          have hwm := wrap_succ (n := l.length) hml (by simp only [maxLen]; omega)
          (refine of_gate ?_; repeat' ((first | (with_reducible refine gate_in ?_) | (with_reducible refine spK_intro ?_ ?_ <;> intro hp) | (with_reducible refine brK_intro ?_ ?_ <;> intro hb <;> try rw [hb]) | (with_reducible refine draw_in (by unfold DrawOk; decide +kernel) ?_) | (with_reducible refine And.intro (by first | omega | (simp only [List.length_map, List.length_take]; omega)) ?_) | fail) <;> try simp only [↓PR, PO, PC, PX, tyI, tyF, tyX, tyL, tyK, tyB, tyE, tyM, tyP, tyQ, Nat.reduceBEq, Nat.reduceAdd, Nat.reduceMul, Nat.reduceSub, Nat.reduceLeDiff, Nat.reduceEqDiff, Nat.reduceLT, Nat.reducePow, Nat.reduceBneDiff, Nat.reduceBNe, Int.reduceBEq, Int.reduceEq, Int.reduceLT, Int.reduceLE, Int.reduceToNat, hz, Txn.enc_eq, hwm]))
          (refine ⟨m + 1, ?_, ?_, hml, by dsimp only; omega⟩ <;> simp only [↓PR, PO, PC, PX, tyI, tyF, tyX, tyL, tyK, tyB, tyE, tyM, tyP, tyQ, Nat.reduceBEq, Nat.reduceAdd, Nat.reduceMul, Nat.reduceSub, Nat.reduceLeDiff, Nat.reduceEqDiff, Nat.reduceLT, Nat.reducePow, Nat.reduceBneDiff, Nat.reduceBNe, Int.reduceBEq, Int.reduceEq, Int.reduceLT, Int.reduceLE, Int.reduceToNat])
        · (refine of_gate ?_; repeat' ((first | (with_reducible refine gate_in ?_) | (with_reducible refine spK_intro ?_ ?_ <;> intro hp) | (with_reducible refine brK_intro ?_ ?_ <;> intro hb <;> try rw [hb]) | (with_reducible refine draw_in (by unfold DrawOk; decide +kernel) ?_) | (with_reducible refine And.intro (by first | omega | (simp only [List.length_map, List.length_take]; omega)) ?_) | fail) <;> try simp only [↓PR, PO, PC, PX, tyI, tyF, tyX, tyL, tyK, tyB, tyE, tyM, tyP, tyQ, Nat.reduceBEq, Nat.reduceAdd, Nat.reduceMul, Nat.reduceSub, Nat.reduceLeDiff, Nat.reduceEqDiff, Nat.reduceLT, Nat.reducePow, Nat.reduceBneDiff, Nat.reduceBNe, Int.reduceBEq, Int.reduceEq, Int.reduceLT, Int.reduceLE, Int.reduceToNat, hwi]))
          (refine ⟨i + 1, ?_, ?_, ⟨hil, hv⟩, by dsimp only; omega⟩ <;> simp only [↓PR, PO, PC, PX, tyI, tyF, tyX, tyL, tyK, tyB, tyE, tyM, tyP, tyQ, Nat.reduceBEq, Nat.reduceAdd, Nat.reduceMul, Nat.reduceSub, Nat.reduceLeDiff, Nat.reduceEqDiff, Nat.reduceLT, Nat.reducePow, Nat.reduceBneDiff, Nat.reduceBNe, Int.reduceBEq, Int.reduceEq, Int.reduceLT, Int.reduceLE, Int.reduceToNat])
    · rw [List.drop_eq_nil_of_le (show x.ops.length ≤ i by omega)] at hv
      (refine of_gate ?_; repeat' ((first | (with_reducible refine gate_in ?_) | (with_reducible refine spK_intro ?_ ?_ <;> intro hp) | (with_reducible refine brK_intro ?_ ?_ <;> intro hb <;> try rw [hb]) | (with_reducible refine draw_in (by unfold DrawOk; decide +kernel) ?_) | (with_reducible refine And.intro (by first | omega | (simp only [List.length_map, List.length_take]; omega)) ?_) | fail) <;> try simp only [↓PR, PO, PC, PX, tyI, tyF, tyX, tyL, tyK, tyB, tyE, tyM, tyP, tyQ, Nat.reduceBEq, Nat.reduceAdd, Nat.reduceMul, Nat.reduceSub, Nat.reduceLeDiff, Nat.reduceEqDiff, Nat.reduceLT, Nat.reducePow, Nat.reduceBneDiff, Nat.reduceBNe, Int.reduceBEq, Int.reduceEq, Int.reduceLT, Int.reduceLE, Int.reduceToNat, hw]))
      (refine ⟨k + 1, ?_, ?_, ⟨hkl, by simpa using hv⟩, by dsimp only; omega⟩ <;> simp only [↓PR, PO, PC, PX, tyI, tyF, tyX, tyL, tyK, tyB, tyE, tyM, tyP, tyQ, Nat.reduceBEq, Nat.reduceAdd, Nat.reduceMul, Nat.reduceSub, Nat.reduceLeDiff, Nat.reduceEqDiff, Nat.reduceLT, Nat.reducePow, Nat.reduceBneDiff, Nat.reduceBNe, Int.reduceBEq, Int.reduceEq, Int.reduceLT, Int.reduceLE, Int.reduceToNat])
  · rw [hu, uniqTo, List.drop_eq_nil_of_le (by simp; omega)]; rfl
end Go.VC
