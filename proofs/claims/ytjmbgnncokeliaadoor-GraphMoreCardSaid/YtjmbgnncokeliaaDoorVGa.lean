/- graph: what a trace tells. -/
import Derived.Test.YtjmbgnncokeliaaDoorVOg
import Derived.Test.YtjmbgnncokeliaaDoorVUb
set_option maxRecDepth 100000
set_option linter.unusedSimpArgs false
set_option linter.unusedVariables false
set_option linter.unnecessarySimpa false
namespace Go.VC
open Go.RowKit Go.Proofs Go.IntWalk
/-! ### What is written last -/
def lastW (ops : List Op) (v : Int) : Option Int := ops.foldl (fun r o => if o.w && o.var == v then some o.val else r) none
theorem lastW_s {ops : List Op} {k : Nat} {v : Int} (hk : k < ops.length) : lastW (ops.take (k + 1)) v = if ops[k].w && ops[k].var == v then some ops[k].val else lastW (ops.take k) v := by
  rw [List.take_succ_eq_append_getElem hk, lastW, List.foldl_append]; rfl
theorem t118 (ops : List Op) (v : Int) (hl : ops.length ≤ 1000000) : Holds Tryd.prog GL 118 [opsA' ops, I v] [.a (I ((lastW ops v).getD 0)), .a (B (lastW ops v).isSome)] := by
  refine fn_holds (vs := [.tmp 4, .tmp 5]) (by kernel_rfl) Tryd.func118 rfl rfl (by kernel_rfl) (by kernel_rfl) rfl ?_
  have hw0 : IntKind.i64.wrap ((ops.length : Int) - 1) = (ops.length : Int) - 1 := i64_in _ (by omega)
  (refine of_gate ?_; repeat' ((first | (with_reducible refine gate_in ?_) | (with_reducible refine spK_intro ?_ ?_ <;> intro hp) | (with_reducible refine brK_intro ?_ ?_ <;> intro hb <;> try rw [hb]) | (with_reducible refine draw_in (by unfold DrawOk; decide +kernel) ?_) | (with_reducible refine And.intro (by first | omega | (simp only [List.length_map, List.length_take]; omega)) ?_) | fail) <;> try simp only [↓PR, PO, PC, PX, tyI, tyF, tyX, tyL, tyK, tyB, tyE, tyM, tyP, tyQ, Nat.reduceBEq, Nat.reduceAdd, Nat.reduceMul, Nat.reduceSub, Nat.reduceLeDiff, Nat.reduceEqDiff, Nat.reduceLT, Nat.reducePow, Nat.reduceBneDiff, Nat.reduceBNe, Int.reduceBEq, Int.reduceEq, Int.reduceLT, Int.reduceLE, Int.reduceToNat, String.reduceBEq, List.length_map, hw0]))
  refine awp_loopA (fun k : Nat => [(0, .a (opsA' ops)), (1, .a (I v)), (6, .a (I ((k : Int) - 1)))]) (fun _ => []) (fun k => k ≤ ops.length ∧ lastW ops v = lastW (ops.take k) v) (fun k => k) ops.length ?_ ?_ ⟨Nat.le_refl _, by rw [List.take_length]⟩ ?_
  · simp only [↓PR, PO, PC, PX, tyI, tyF, tyX, tyL, tyK, tyB, tyE, tyM, tyP, tyQ, Nat.reduceBEq, Nat.reduceAdd, Nat.reduceMul, Nat.reduceSub, Nat.reduceLeDiff, Nat.reduceEqDiff, Nat.reduceLT, Nat.reducePow, Nat.reduceBneDiff, Nat.reduceBNe, Int.reduceBEq, Int.reduceEq, Int.reduceLT, Int.reduceLE, Int.reduceToNat, String.reduceBEq, hw0, List.length_map]
  · simp only [↓PR, PO, PC, PX, tyI, tyF, tyX, tyL, tyK, tyB, tyE, tyM, tyP, tyQ, Nat.reduceBEq, Nat.reduceAdd, Nat.reduceMul, Nat.reduceSub, Nat.reduceLeDiff, Nat.reduceEqDiff, Nat.reduceLT, Nat.reducePow, Nat.reduceBneDiff, Nat.reduceBNe, Int.reduceBEq, Int.reduceEq, Int.reduceLT, Int.reduceLE, Int.reduceToNat, String.reduceBEq]
  intro k j ⟨hk, hl2⟩
  cases k with
  | zero =>
    have e : ((0 : Nat) : Int) - 1 = -1 := rfl
    have e2 : ¬ ((-1 : Int) ≥ 0) := by decide
    have e3 : ¬ ((0 : Int) - 1 ≥ 0) := by decide
    (refine of_gate ?_; repeat' ((first | (with_reducible refine gate_in ?_) | (with_reducible refine spK_intro ?_ ?_ <;> intro hp) | (with_reducible refine brK_intro ?_ ?_ <;> intro hb <;> try rw [hb]) | (with_reducible refine draw_in (by unfold DrawOk; decide +kernel) ?_) | (with_reducible refine And.intro (by first | omega | (simp only [List.length_map, List.length_take]; omega)) ?_) | fail) <;> try simp only [↓PR, PO, PC, PX, tyI, tyF, tyX, tyL, tyK, tyB, tyE, tyM, tyP, tyQ, Nat.reduceBEq, Nat.reduceAdd, Nat.reduceMul, Nat.reduceSub, Nat.reduceLeDiff, Nat.reduceEqDiff, Nat.reduceLT, Nat.reducePow, Nat.reduceBneDiff, Nat.reduceBNe, Int.reduceBEq, Int.reduceEq, Int.reduceLT, Int.reduceLE, Int.reduceToNat, String.reduceBEq, e, e2, e3]))
    rw [hl2, List.take_zero]; exact ⟨rfl, rfl⟩
  | succ k =>
    have hkl : k < ops.length := by omega
    have hx : ops[k]? = some ops[k] := List.getElem?_eq_getElem hkl
    have e : ((k + 1 : Nat) : Int) - 1 = (k : Int) := by omega
    have hw : IntKind.i64.wrap ((k : Int) - 1) = (k : Int) - 1 := i64_in _ (by omega)
    have h0 : (0 : Int) ≤ (k : Int) := by omega
    rw [lastW_s hkl] at hl2
    generalize ops[k] = o at hx hl2
    (refine of_gate ?_; repeat' ((first | (with_reducible refine gate_in ?_) | (with_reducible refine spK_intro ?_ ?_ <;> intro hp) | (with_reducible refine brK_intro ?_ ?_ <;> intro hb <;> try rw [hb]) | (with_reducible refine draw_in (by unfold DrawOk; decide +kernel) ?_) | (with_reducible refine And.intro (by first | omega | (simp only [List.length_map, List.length_take]; omega)) ?_) | fail) <;> try simp only [↓PR, PO, PC, PX, tyI, tyF, tyX, tyL, tyK, tyB, tyE, tyM, tyP, tyQ, Nat.reduceBEq, Nat.reduceAdd, Nat.reduceMul, Nat.reduceSub, Nat.reduceLeDiff, Nat.reduceEqDiff, Nat.reduceLT, Nat.reducePow, Nat.reduceBneDiff, Nat.reduceBNe, Int.reduceBEq, Int.reduceEq, Int.reduceLT, Int.reduceLE, Int.reduceToNat, String.reduceBEq, e, hx, hw, h0, Op.enc_eq]))
    · have : (o.w && o.var == v) = true := by simp [*]
      rw [if_pos this] at hl2
      rw [hl2]; exact ⟨rfl, rfl⟩
    · have : (o.w && o.var == v) = false := by simp [*]
      rw [this, if_neg (by decide)] at hl2
      (refine ⟨k, ?_, ?_, ⟨by omega, hl2⟩, by dsimp only; omega⟩ <;> simp only [↓PR, PO, PC, PX, tyI, tyF, tyX, tyL, tyK, tyB, tyE, tyM, tyP, tyQ, Nat.reduceBEq, Nat.reduceAdd, Nat.reduceMul, Nat.reduceSub, Nat.reduceLeDiff, Nat.reduceEqDiff, Nat.reduceLT, Nat.reducePow, Nat.reduceBneDiff, Nat.reduceBNe, Int.reduceBEq, Int.reduceEq, Int.reduceLT, Int.reduceLE, Int.reduceToNat, String.reduceBEq, hw])
    · have : (o.w && o.var == v) = false := by simp [*]
      rw [this, if_neg (by decide)] at hl2
      (refine ⟨k, ?_, ?_, ⟨by omega, hl2⟩, by dsimp only; omega⟩ <;> simp only [↓PR, PO, PC, PX, tyI, tyF, tyX, tyL, tyK, tyB, tyE, tyM, tyP, tyQ, Nat.reduceBEq, Nat.reduceAdd, Nat.reduceMul, Nat.reduceSub, Nat.reduceLeDiff, Nat.reduceEqDiff, Nat.reduceLT, Nat.reducePow, Nat.reduceBneDiff, Nat.reduceBNe, Int.reduceBEq, Int.reduceEq, Int.reduceLT, Int.reduceLE, Int.reduceToNat, String.reduceBEq, hw])
theorem c118 {ops : List Op} {v : Int} (hl : ops.length ≤ 1000000) {dst : Option Tmp} {σ : Go.VC.S} {K : Go.VC.S → Prop} (hK : σ.ret dst [.a (I ((lastW ops v).getD 0)), .a (B (lastW ops v).isSome)] K) : callV Tryd.prog GL 118 [.a (opsA' ops), .a (I v)] dst σ K := call_dat (t118 ops v hl) hK
theorem q118 {ops : List Op} {v : Int} (hl : ops.length ≤ 1000000) {σ : S} {KR : R → Prop} (hK : KR (retR [I ((lastW ops v).getD 0), B (lastW ops v).isSome])) : callVQ Tryd.prog GL 118 [.a (opsA' ops), .a (I v)] σ KR :=
  callQ_dat (res := [I ((lastW ops v).getD 0), B (lastW ops v).isSome]) (t118 ops v hl) hK
/-! ### A trace -/
abbrev trA (l : List Txn) (sr : List (List Int)) (C : Nat) : A := .ag [.sl (l.map Txn.enc), .sl (sr.map intRow), .v (.int .u32 C)]
theorem u32_bit' {b k : Nat} (hb : b < 2 ^ 32) : IntKind.u32.wrap (BitVec.ofInt IntKind.u32.bits ((b / 2 ^ k : Nat) : Int) &&& BitVec.ofInt IntKind.u32.bits 1).toNat = if b.testBit k then 1 else 0 := u32_bit hb
theorem t119 (l : List Txn) (sr : List (List Int)) (C i : Nat) (hC : C < 2 ^ 32) (hi : i < 32) : Holds Tryd.prog GL 119 [trA l sr C, I i] [.a (B (C.testBit i))] := by
  refine fn_holds (vs := [.tmp 4]) (by kernel_rfl) Tryd.func119 rfl rfl (by kernel_rfl) (by kernel_rfl) rfl ?_
  have hbit := u32_bit (k := i) hC
  cases hB : C.testBit i with
  | true =>
    rw [hB] at hbit
    simp only [if_true] at hbit
    (refine of_gate ?_; repeat' ((first | (with_reducible refine gate_in ?_) | (with_reducible refine spK_intro ?_ ?_ <;> intro hp) | (with_reducible refine brK_intro ?_ ?_ <;> intro hb <;> try rw [hb]) | (with_reducible refine draw_in (by unfold DrawOk; decide +kernel) ?_) | (with_reducible refine And.intro (by first | omega | (simp only [List.length_map, List.length_take]; omega)) ?_) | fail) <;> try simp only [↓PR, PO, PC, PX, tyI, tyF, tyX, tyL, tyK, tyB, tyE, tyM, tyP, tyQ, Nat.reduceBEq, Nat.reduceAdd, Nat.reduceMul, Nat.reduceSub, Nat.reduceLeDiff, Nat.reduceEqDiff, Nat.reduceLT, Nat.reducePow, Nat.reduceBneDiff, Nat.reduceBNe, Int.reduceBEq, Int.reduceEq, Int.reduceLT, Int.reduceLE, Int.reduceToNat, String.reduceBEq, u32_shr hi, hbit]))
  | false =>
    rw [hB] at hbit
    simp only [Bool.false_eq_true, if_false] at hbit
    (refine of_gate ?_; repeat' ((first | (with_reducible refine gate_in ?_) | (with_reducible refine spK_intro ?_ ?_ <;> intro hp) | (with_reducible refine brK_intro ?_ ?_ <;> intro hb <;> try rw [hb]) | (with_reducible refine draw_in (by unfold DrawOk; decide +kernel) ?_) | (with_reducible refine And.intro (by first | omega | (simp only [List.length_map, List.length_take]; omega)) ?_) | fail) <;> try simp only [↓PR, PO, PC, PX, tyI, tyF, tyX, tyL, tyK, tyB, tyE, tyM, tyP, tyQ, Nat.reduceBEq, Nat.reduceAdd, Nat.reduceMul, Nat.reduceSub, Nat.reduceLeDiff, Nat.reduceEqDiff, Nat.reduceLT, Nat.reducePow, Nat.reduceBneDiff, Nat.reduceBNe, Int.reduceBEq, Int.reduceEq, Int.reduceLT, Int.reduceLE, Int.reduceToNat, String.reduceBEq, u32_shr hi, hbit]))
theorem c119 {l : List Txn} {sr : List (List Int)} {C i : Nat} (hC : C < 2 ^ 32) (hi : i < 32) {dst : Option Tmp} {σ : Go.VC.S} {K : Go.VC.S → Prop} (hK : σ.ret dst [.a (B (C.testBit i))] K) : callV Tryd.prog GL 119 [.a (trA l sr C), .a (I i)] dst σ K := call_dat (t119 l sr C i hC hi) hK
/-- Does a transaction that commits write a variable? -/
def wrC (l : List Txn) (C : Nat) (i : Nat) (v : Int) : Bool := match l[i]? with
  | some x => (lastW x.ops v).isSome && C.testBit i
  | none => false
theorem t98 (l : List Txn) (hf : FitT l) (sr : List (List Int)) (C i : Nat) (v : Int) (hC : C < 2 ^ 32) (hi : i < 32) (hil : i < l.length) : Holds Tryd.prog GL 98 [trA l sr C, I i, I v] [.a (B (wrC l C i v))] := by
  refine fn_holds (vs := [.tmp 6]) (by kernel_rfl) Tryd.func98 rfl rfl (by kernel_rfl) (by kernel_rfl) rfl ?_
  have hx : l[i]? = some l[i] := List.getElem?_eq_getElem hil
  have hol := hf.at hil
  have hb : wrC l C i v = ((lastW l[i].ops v).isSome && C.testBit i) := by simp only [wrC, hx]
  rw [hb]
  generalize l[i] = x at hx hol
  cases hs : (lastW x.ops v).isSome with
  | true =>
    (refine of_gate ?_; repeat' ((first | (with_reducible refine gate_in ?_) | (with_reducible refine spK_intro ?_ ?_ <;> intro hp) | (with_reducible refine brK_intro ?_ ?_ <;> intro hb <;> try rw [hb]) | (with_reducible refine draw_in (by unfold DrawOk; decide +kernel) ?_) | (with_reducible refine And.intro (by first | omega | (simp only [List.length_map, List.length_take]; omega)) ?_) | fail) <;> try simp only [↓PR, PO, PC, PX, tyI, tyF, tyX, tyL, tyK, tyB, tyE, tyM, tyP, tyQ, Nat.reduceBEq, Nat.reduceAdd, Nat.reduceMul, Nat.reduceSub, Nat.reduceLeDiff, Nat.reduceEqDiff, Nat.reduceLT, Nat.reducePow, Nat.reduceBneDiff, Nat.reduceBNe, Int.reduceBEq, Int.reduceEq, Int.reduceLT, Int.reduceLE, Int.reduceToNat, String.reduceBEq, hx, Txn.enc_eq]))
    refine c118 hol ?_
    (refine of_gate ?_; repeat' ((first | (with_reducible refine gate_in ?_) | (with_reducible refine spK_intro ?_ ?_ <;> intro hp) | (with_reducible refine brK_intro ?_ ?_ <;> intro hb <;> try rw [hb]) | (with_reducible refine draw_in (by unfold DrawOk; decide +kernel) ?_) | (with_reducible refine And.intro (by first | omega | (simp only [List.length_map, List.length_take]; omega)) ?_) | fail) <;> try simp only [↓PR, PO, PC, PX, tyI, tyF, tyX, tyL, tyK, tyB, tyE, tyM, tyP, tyQ, Nat.reduceBEq, Nat.reduceAdd, Nat.reduceMul, Nat.reduceSub, Nat.reduceLeDiff, Nat.reduceEqDiff, Nat.reduceLT, Nat.reducePow, Nat.reduceBneDiff, Nat.reduceBNe, Int.reduceBEq, Int.reduceEq, Int.reduceLT, Int.reduceLE, Int.reduceToNat, String.reduceBEq, hs]))
    refine c119 hC hi ?_
    (refine of_gate ?_; repeat' ((first | (with_reducible refine gate_in ?_) | (with_reducible refine spK_intro ?_ ?_ <;> intro hp) | (with_reducible refine brK_intro ?_ ?_ <;> intro hb <;> try rw [hb]) | (with_reducible refine draw_in (by unfold DrawOk; decide +kernel) ?_) | (with_reducible refine And.intro (by first | omega | (simp only [List.length_map, List.length_take]; omega)) ?_) | fail) <;> try simp only [↓PR, PO, PC, PX, tyI, tyF, tyX, tyL, tyK, tyB, tyE, tyM, tyP, tyQ, Nat.reduceBEq, Nat.reduceAdd, Nat.reduceMul, Nat.reduceSub, Nat.reduceLeDiff, Nat.reduceEqDiff, Nat.reduceLT, Nat.reducePow, Nat.reduceBneDiff, Nat.reduceBNe, Int.reduceBEq, Int.reduceEq, Int.reduceLT, Int.reduceLE, Int.reduceToNat, String.reduceBEq]))
    rfl
  | false =>
    (refine of_gate ?_; repeat' ((first | (with_reducible refine gate_in ?_) | (with_reducible refine spK_intro ?_ ?_ <;> intro hp) | (with_reducible refine brK_intro ?_ ?_ <;> intro hb <;> try rw [hb]) | (with_reducible refine draw_in (by unfold DrawOk; decide +kernel) ?_) | (with_reducible refine And.intro (by first | omega | (simp only [List.length_map, List.length_take]; omega)) ?_) | fail) <;> try simp only [↓PR, PO, PC, PX, tyI, tyF, tyX, tyL, tyK, tyB, tyE, tyM, tyP, tyQ, Nat.reduceBEq, Nat.reduceAdd, Nat.reduceMul, Nat.reduceSub, Nat.reduceLeDiff, Nat.reduceEqDiff, Nat.reduceLT, Nat.reducePow, Nat.reduceBneDiff, Nat.reduceBNe, Int.reduceBEq, Int.reduceEq, Int.reduceLT, Int.reduceLE, Int.reduceToNat, String.reduceBEq, hx, Txn.enc_eq]))
    refine c118 hol ?_
    (refine of_gate ?_; repeat' ((first | (with_reducible refine gate_in ?_) | (with_reducible refine spK_intro ?_ ?_ <;> intro hp) | (with_reducible refine brK_intro ?_ ?_ <;> intro hb <;> try rw [hb]) | (with_reducible refine draw_in (by unfold DrawOk; decide +kernel) ?_) | (with_reducible refine And.intro (by first | omega | (simp only [List.length_map, List.length_take]; omega)) ?_) | fail) <;> try simp only [↓PR, PO, PC, PX, tyI, tyF, tyX, tyL, tyK, tyB, tyE, tyM, tyP, tyQ, Nat.reduceBEq, Nat.reduceAdd, Nat.reduceMul, Nat.reduceSub, Nat.reduceLeDiff, Nat.reduceEqDiff, Nat.reduceLT, Nat.reducePow, Nat.reduceBneDiff, Nat.reduceBNe, Int.reduceBEq, Int.reduceEq, Int.reduceLT, Int.reduceLE, Int.reduceToNat, String.reduceBEq, hs]))
    rfl
def Ftr : List (List Nat) := [[0, 1, 2, 3, 4, 5, 6, 7, 8, 9, 10, 11, 12, 13, 14, 15, 16], [9, 10, 11, 12, 13, 14, 15, 16], []]
/-- Can a read be explained? -/
def rdOk (l : List Txn) (sr : List (List Int)) (C t i : Nat) : Bool := match l[t]? with
  | none => true
  | some x => match x.ops[i]? with
    | none => true
    | some o => match sr[t]?.bind (·[i]?) with
      | none => true
      | some s => if o.w || s == -1 then true else if s = -2 then false else if s = t then (lastW (x.ops.take i) o.var).getD 0 == o.val
        else match l[s.toNat]? with
          | none => true
          | some y => (lastW y.ops o.var).getD 0 == o.val && C.testBit s.toNat
/-- Sources of a table. -/
structure SrcT (l : List Txn) (sr : List (List Int)) : Prop where
  len : sr.length = l.length
  row : ∀ (t : Nat) (x : Txn) (r : List Int), l[t]? = some x → sr[t]? = some r → r.length = x.ops.length
  src : ∀ (t : Nat) (r : List Int) (s : Int), sr[t]? = some r → s ∈ r → s = -1 ∨ s = -2 ∨ ∃ k : Nat, s = k ∧ k < l.length
theorem t97 (l : List Txn) (hf : FitT l) (hl : l.length ≤ 30) (sr : List (List Int)) (hS : SrcT l sr) (C t i : Nat) (hC : C < 2 ^ 32) (x : Txn) (o : Op) (hx : l[t]? = some x) (ho : x.ops[i]? = some o) : Holds Tryd.prog GL 97 [trA l sr C, I t, I i] [.a (B (rdOk l sr C t i))] := by
  refine fn_holds (vs := [.tmp 6]) (by kernel_rfl) Tryd.func97 rfl rfl (by kernel_rfl) (by kernel_rfl) rfl ?_
  have htl := (List.getElem?_eq_some_iff.1 hx).1
  have hil := (List.getElem?_eq_some_iff.1 ho).1
  have htS : t < sr.length := by rw [hS.len]; exact htl
  obtain ⟨r, hr⟩ : ∃ r, sr[t]? = some r := ⟨_, List.getElem?_eq_getElem htS⟩
  have hrl := hS.row t x r hx hr
  obtain ⟨s, hs⟩ : ∃ s, r[i]? = some s := ⟨_, List.getElem?_eq_getElem (show i < r.length by omega)⟩
  have hsrc := hS.src t r s hr (List.mem_of_getElem? hs)
  have hR : rdOk l sr C t i = (if o.w || s == -1 then true else if s = -2 then false else if s = t then (lastW (x.ops.take i) o.var).getD 0 == o.val
        else match l[s.toNat]? with
          | none => true
          | some y => (lastW y.ops o.var).getD 0 == o.val && C.testBit s.toNat) := by
    simp only [rdOk, hx, ho, hr, Option.bind_some, hs]
  rw [hR]
  have hxl : x.ops.length ≤ 1000000 := by
    have := hf.at htl
    rw [(List.getElem?_eq_some_iff.1 hx).2] at this; exact this
  have htk : List.take i (x.ops.map Op.enc) = (x.ops.take i).map Op.enc := by rw [List.map_take]
  have htkl : (x.ops.take i).length ≤ 1000000 := by simp; omega
  have hi1 : (i : Int) ≤ (x.ops.length : Int) := by omega
  have hneg : ∀ k : Nat, ¬ ((k : Int) = -1) ∧ ¬ ((k : Int) = -2) := fun k => by omega
  by_cases hw : o.w = true
  · (refine of_gate ?_; repeat' ((first | (with_reducible refine gate_in ?_) | (with_reducible refine spK_intro ?_ ?_ <;> intro hp) | (with_reducible refine brK_intro ?_ ?_ <;> intro hb <;> try rw [hb]) | (with_reducible refine draw_in (by unfold DrawOk; decide +kernel) ?_) | (with_reducible refine draw_F Ftr (by decide +kernel) ?_) | (with_reducible refine And.intro (by first | omega | (simp only [List.length_map, List.length_take]; omega)) ?_) | fail) <;> try simp only [↓PR, PO, PC, PX, tyI, tyF, tyX, tyL, tyK, tyB, tyE, tyM, tyP, tyQ, Nat.reduceBEq, Nat.reduceAdd, Nat.reduceMul, Nat.reduceSub, Nat.reduceLeDiff, Nat.reduceEqDiff, Nat.reduceLT, Nat.reducePow, Nat.reduceBneDiff, Nat.reduceBNe, Int.reduceBEq, Int.reduceEq, Int.reduceLT, Int.reduceLE, Int.reduceToNat, String.reduceBEq, hx, ho, hr, hs, intRow_eq, ienc_eq, Txn.enc_eq, Op.enc_eq, hw, PG, Ftr]))
    simp
  · have hw : o.w = false := by simpa using hw
    rcases hsrc with rfl | rfl | ⟨k, rfl, hk⟩
    · (refine of_gate ?_; repeat' ((first | (with_reducible refine gate_in ?_) | (with_reducible refine spK_intro ?_ ?_ <;> intro hp) | (with_reducible refine brK_intro ?_ ?_ <;> intro hb <;> try rw [hb]) | (with_reducible refine draw_in (by unfold DrawOk; decide +kernel) ?_) | (with_reducible refine draw_F Ftr (by decide +kernel) ?_) | (with_reducible refine And.intro (by first | omega | (simp only [List.length_map, List.length_take]; omega)) ?_) | fail) <;> try simp only [↓PR, PO, PC, PX, tyI, tyF, tyX, tyL, tyK, tyB, tyE, tyM, tyP, tyQ, Nat.reduceBEq, Nat.reduceAdd, Nat.reduceMul, Nat.reduceSub, Nat.reduceLeDiff, Nat.reduceEqDiff, Nat.reduceLT, Nat.reducePow, Nat.reduceBneDiff, Nat.reduceBNe, Int.reduceBEq, Int.reduceEq, Int.reduceLT, Int.reduceLE, Int.reduceToNat, String.reduceBEq, hx, ho, hr, hs, intRow_eq, ienc_eq, Txn.enc_eq, Op.enc_eq, hw, PG, Ftr]))
      simp
    · (refine of_gate ?_; repeat' ((first | (with_reducible refine gate_in ?_) | (with_reducible refine spK_intro ?_ ?_ <;> intro hp) | (with_reducible refine brK_intro ?_ ?_ <;> intro hb <;> try rw [hb]) | (with_reducible refine draw_in (by unfold DrawOk; decide +kernel) ?_) | (with_reducible refine draw_F Ftr (by decide +kernel) ?_) | (with_reducible refine And.intro (by first | omega | (simp only [List.length_map, List.length_take]; omega)) ?_) | fail) <;> try simp only [↓PR, PO, PC, PX, tyI, tyF, tyX, tyL, tyK, tyB, tyE, tyM, tyP, tyQ, Nat.reduceBEq, Nat.reduceAdd, Nat.reduceMul, Nat.reduceSub, Nat.reduceLeDiff, Nat.reduceEqDiff, Nat.reduceLT, Nat.reducePow, Nat.reduceBneDiff, Nat.reduceBNe, Int.reduceBEq, Int.reduceEq, Int.reduceLT, Int.reduceLE, Int.reduceToNat, String.reduceBEq, hx, ho, hr, hs, intRow_eq, ienc_eq, Txn.enc_eq, Op.enc_eq, hw, PG, Ftr]))
      simp
    · have hy : l[k]? = some l[k] := List.getElem?_eq_getElem hk
      have hyl := hf.at hk
      generalize l[k] = y at hy hyl
      simp only [hw, Bool.false_or, Int.toNat_natCast, hy]
      obtain ⟨n1, n2⟩ := hneg k
      have n3 : ((k : Int) == -1) = false := by simp
      simp only [n3, Bool.false_eq_true, if_false, if_neg n2]
      by_cases hkt : (k : Int) = (t : Int)
      · rw [if_pos hkt]
        obtain rfl : k = t := by omega
        clear hkt
        (refine of_gate ?_; repeat' ((first | (with_reducible refine gate_in ?_) | (with_reducible refine spK_intro ?_ ?_ <;> intro hp) | (with_reducible refine brK_intro ?_ ?_ <;> intro hb <;> try rw [hb]) | (with_reducible refine draw_in (by unfold DrawOk; decide +kernel) ?_) | (with_reducible refine draw_F Ftr (by decide +kernel) ?_) | (with_reducible refine And.intro (by first | omega | (simp only [List.length_map, List.length_take]; omega)) ?_) | fail) <;> try simp only [↓PR, PO, PC, PX, tyI, tyF, tyX, tyL, tyK, tyB, tyE, tyM, tyP, tyQ, Nat.reduceBEq, Nat.reduceAdd, Nat.reduceMul, Nat.reduceSub, Nat.reduceLeDiff, Nat.reduceEqDiff, Nat.reduceLT, Nat.reducePow, Nat.reduceBneDiff, Nat.reduceBNe, Int.reduceBEq, Int.reduceEq, Int.reduceLT, Int.reduceLE, Int.reduceToNat, String.reduceBEq, hx, ho, hr, hs, intRow_eq, ienc_eq, Txn.enc_eq, Op.enc_eq, hw, n1, n2, hi1, htk, ops_lenT, Int.toNat_zero, PG, Ftr]))
        refine q118 htkl ?_
        (refine of_gate ?_; repeat' ((first | (with_reducible refine gate_in ?_) | (with_reducible refine spK_intro ?_ ?_ <;> intro hp) | (with_reducible refine brK_intro ?_ ?_ <;> intro hb <;> try rw [hb]) | (with_reducible refine draw_in (by unfold DrawOk; decide +kernel) ?_) | (with_reducible refine And.intro (by first | omega | (simp only [List.length_map, List.length_take]; omega)) ?_) | fail) <;> try simp only [↓PR, PO, PC, PX, tyI, tyF, tyX, tyL, tyK, tyB, tyE, tyM, tyP, tyQ, Nat.reduceBEq, Nat.reduceAdd, Nat.reduceMul, Nat.reduceSub, Nat.reduceLeDiff, Nat.reduceEqDiff, Nat.reduceLT, Nat.reducePow, Nat.reduceBneDiff, Nat.reduceBNe, Int.reduceBEq, Int.reduceEq, Int.reduceLT, Int.reduceLE, Int.reduceToNat, String.reduceBEq, hx, ho, Txn.enc_eq, Op.enc_eq]))
        · simp [*]
        · simp [*]
      · rw [if_neg hkt]
        (refine of_gate ?_; repeat' ((first | (with_reducible refine gate_in ?_) | (with_reducible refine spK_intro ?_ ?_ <;> intro hp) | (with_reducible refine brK_intro ?_ ?_ <;> intro hb <;> try rw [hb]) | (with_reducible refine draw_in (by unfold DrawOk; decide +kernel) ?_) | (with_reducible refine draw_F Ftr (by decide +kernel) ?_) | (with_reducible refine And.intro (by first | omega | (simp only [List.length_map, List.length_take]; omega)) ?_) | fail) <;> try simp only [↓PR, PO, PC, PX, tyI, tyF, tyX, tyL, tyK, tyB, tyE, tyM, tyP, tyQ, Nat.reduceBEq, Nat.reduceAdd, Nat.reduceMul, Nat.reduceSub, Nat.reduceLeDiff, Nat.reduceEqDiff, Nat.reduceLT, Nat.reducePow, Nat.reduceBneDiff, Nat.reduceBNe, Int.reduceBEq, Int.reduceEq, Int.reduceLT, Int.reduceLE, Int.reduceToNat, String.reduceBEq, hx, ho, hr, hs, hy, intRow_eq, ienc_eq, Txn.enc_eq, Op.enc_eq, hw, n1, n2, hkt, PG, Ftr]))
        refine q118 hyl ?_
        (refine of_gate ?_; repeat' ((first | (with_reducible refine gate_in ?_) | (with_reducible refine spK_intro ?_ ?_ <;> intro hp) | (with_reducible refine brK_intro ?_ ?_ <;> intro hb <;> try rw [hb]) | (with_reducible refine draw_in (by unfold DrawOk; decide +kernel) ?_) | (with_reducible refine And.intro (by first | omega | (simp only [List.length_map, List.length_take]; omega)) ?_) | fail) <;> try simp only [↓PR, PO, PC, PX, tyI, tyF, tyX, tyL, tyK, tyB, tyE, tyM, tyP, tyQ, Nat.reduceBEq, Nat.reduceAdd, Nat.reduceMul, Nat.reduceSub, Nat.reduceLeDiff, Nat.reduceEqDiff, Nat.reduceLT, Nat.reducePow, Nat.reduceBneDiff, Nat.reduceBNe, Int.reduceBEq, Int.reduceEq, Int.reduceLT, Int.reduceLE, Int.reduceToNat, String.reduceBEq, hx, ho, Txn.enc_eq, Op.enc_eq]))
        · refine c119 hC (by omega) ?_
          (refine of_gate ?_; repeat' ((first | (with_reducible refine gate_in ?_) | (with_reducible refine spK_intro ?_ ?_ <;> intro hp) | (with_reducible refine brK_intro ?_ ?_ <;> intro hb <;> try rw [hb]) | (with_reducible refine draw_in (by unfold DrawOk; decide +kernel) ?_) | (with_reducible refine And.intro (by first | omega | (simp only [List.length_map, List.length_take]; omega)) ?_) | fail) <;> try simp only [↓PR, PO, PC, PX, tyI, tyF, tyX, tyL, tyK, tyB, tyE, tyM, tyP, tyQ, Nat.reduceBEq, Nat.reduceAdd, Nat.reduceMul, Nat.reduceSub, Nat.reduceLeDiff, Nat.reduceEqDiff, Nat.reduceLT, Nat.reducePow, Nat.reduceBneDiff, Nat.reduceBNe, Int.reduceBEq, Int.reduceEq, Int.reduceLT, Int.reduceLE, Int.reduceToNat, String.reduceBEq]))
          simp [*]
        · simp [*]
theorem c97 {l : List Txn} {sr : List (List Int)} {C t i : Nat} {x : Txn} {o : Op} (hf : FitT l) (hl : l.length ≤ 30) (hS : SrcT l sr) (hC : C < 2 ^ 32) (hx : l[t]? = some x) (ho : x.ops[i]? = some o) {dst : Option Tmp} {σ : S} {K : S → Prop} (hK : σ.ret dst [.a (B (rdOk l sr C t i))] K) : callV Tryd.prog GL 97 [.a (trA l sr C), .a (I t), .a (I i)] dst σ K := call_dat (t97 l hf hl sr hS C t i hC x o hx ho) hK
/-- Can all that was read be explained? -/
def allR (l : List Txn) (sr : List (List Int)) (C : Nat) : Bool := (List.range l.length).all fun t => match l[t]? with
  | some x => (List.range x.ops.length).all fun i => rdOk l sr C t i
  | none => true
def allRFrom (l : List Txn) (sr : List (List Int)) (C k : Nat) : Bool := ((List.range l.length).drop k).all fun t => match l[t]? with
  | some x => (List.range x.ops.length).all fun i => rdOk l sr C t i
  | none => true
theorem t71 (l : List Txn) (hf : FitT l) (hl : l.length ≤ 30) (sr : List (List Int)) (hS : SrcT l sr) (C : Nat) (hC : C < 2 ^ 32) : Holds Tryd.prog GL 71 [trA l sr C] [.a (B (allRFrom l sr C 0))] := by
  refine fn_holds (vs := [.tmp 2]) (by kernel_rfl) Tryd.func71 rfl rfl (by kernel_rfl) (by kernel_rfl) rfl ?_
  (refine of_gate ?_; repeat' ((first | (with_reducible refine gate_in ?_) | (with_reducible refine spK_intro ?_ ?_ <;> intro hp) | (with_reducible refine brK_intro ?_ ?_ <;> intro hb <;> try rw [hb]) | (with_reducible refine draw_in (by unfold DrawOk; decide +kernel) ?_) | (with_reducible refine And.intro (by first | omega | (simp only [List.length_map, List.length_take]; omega)) ?_) | fail) <;> try simp only [↓PR, PO, PC, PX, tyI, tyF, tyX, tyL, tyK, tyB, tyE, tyM, tyP, tyQ, Nat.reduceBEq, Nat.reduceAdd, Nat.reduceMul, Nat.reduceSub, Nat.reduceLeDiff, Nat.reduceEqDiff, Nat.reduceLT, Nat.reducePow, Nat.reduceBneDiff, Nat.reduceBNe, Int.reduceBEq, Int.reduceEq, Int.reduceLT, Int.reduceLE, Int.reduceToNat, String.reduceBEq, List.length_map]))
  refine awp_loopA (fun t : Nat => [(1, .ref 1 0), (7, .a (I l.length)), (8, .a (I t))]) (fun _ => [(1, .box [.a (.d (.sl (l.map Txn.enc))), .a (.d (.sl (sr.map intRow))), .a (.d (.v (.int .u32 C)))])]) (fun t => t ≤ l.length ∧ allRFrom l sr C 0 = allRFrom l sr C t) (l.length - ·) 0 ?_ ?_ ⟨Nat.zero_le _, rfl⟩ ?_
  · simp only [↓PR, PO, PC, PX, tyI, tyF, tyX, tyL, tyK, tyB, tyE, tyM, tyP, tyQ, Nat.reduceBEq, Nat.reduceAdd, Nat.reduceMul, Nat.reduceSub, Nat.reduceLeDiff, Nat.reduceEqDiff, Nat.reduceLT, Nat.reducePow, Nat.reduceBneDiff, Nat.reduceBNe, Int.reduceBEq, Int.reduceEq, Int.reduceLT, Int.reduceLE, Int.reduceToNat, String.reduceBEq, List.length_map]
  · simp only [↓PR, PO, PC, PX, tyI, tyF, tyX, tyL, tyK, tyB, tyE, tyM, tyP, tyQ, Nat.reduceBEq, Nat.reduceAdd, Nat.reduceMul, Nat.reduceSub, Nat.reduceLeDiff, Nat.reduceEqDiff, Nat.reduceLT, Nat.reducePow, Nat.reduceBneDiff, Nat.reduceBNe, Int.reduceBEq, Int.reduceEq, Int.reduceLT, Int.reduceLE, Int.reduceToNat, String.reduceBEq]
  intro t j ⟨ht, hq⟩
  (refine of_gate ?_; repeat' ((first | (with_reducible refine gate_in ?_) | (with_reducible refine spK_intro ?_ ?_ <;> intro hp) | (with_reducible refine brK_intro ?_ ?_ <;> intro hb <;> try rw [hb]) | (with_reducible refine draw_in (by unfold DrawOk; decide +kernel) ?_) | (with_reducible refine And.intro (by first | omega | (simp only [List.length_map, List.length_take]; omega)) ?_) | fail) <;> try simp only [↓PR, PO, PC, PX, tyI, tyF, tyX, tyL, tyK, tyB, tyE, tyM, tyP, tyQ, Nat.reduceBEq, Nat.reduceAdd, Nat.reduceMul, Nat.reduceSub, Nat.reduceLeDiff, Nat.reduceEqDiff, Nat.reduceLT, Nat.reducePow, Nat.reduceBneDiff, Nat.reduceBNe, Int.reduceBEq, Int.reduceEq, Int.reduceLT, Int.reduceLE, Int.reduceToNat, String.reduceBEq]))
  · have htl : t < l.length := by omega
    have hw := wrap_succ (n := l.length) htl (by simp only [maxLen]; omega)
    have hx : l[t]? = some l[t] := List.getElem?_eq_getElem htl
    have hol := hf.at htl
    have hs : allRFrom l sr C t = ((List.range l[t].ops.length).all (fun i => rdOk l sr C t i) && allRFrom l sr C (t + 1)) := by
      simp only [allRFrom, range_dropO htl, List.all_cons, hx]
    rw [hs] at hq
    generalize l[t] = x at hx hol hq
    (refine of_gate ?_; repeat' ((first | (with_reducible refine gate_in ?_) | (with_reducible refine spK_intro ?_ ?_ <;> intro hp) | (with_reducible refine brK_intro ?_ ?_ <;> intro hb <;> try rw [hb]) | (with_reducible refine draw_in (by unfold DrawOk; decide +kernel) ?_) | (with_reducible refine And.intro (by first | omega | (simp only [List.length_map, List.length_take]; omega)) ?_) | fail) <;> try simp only [↓PR, PO, PC, PX, tyI, tyF, tyX, tyL, tyK, tyB, tyE, tyM, tyP, tyQ, Nat.reduceBEq, Nat.reduceAdd, Nat.reduceMul, Nat.reduceSub, Nat.reduceLeDiff, Nat.reduceEqDiff, Nat.reduceLT, Nat.reducePow, Nat.reduceBneDiff, Nat.reduceBNe, Int.reduceBEq, Int.reduceEq, Int.reduceLT, Int.reduceLE, Int.reduceToNat, String.reduceBEq, hx, Txn.enc_eq, List.length_map]))
    refine awp_loopA (fun i : Nat => [(1, .ref 1 0), (3, .a (I t)), (7, .a (I l.length)), (8, .a (I t)), (17, .a (I x.ops.length)), (18, .a (I i))]) (fun _ => [(1, .box [.a (.d (.sl (l.map Txn.enc))), .a (.d (.sl (sr.map intRow))), .a (.d (.v (.int .u32 C)))])]) (fun i => i ≤ x.ops.length ∧ allRFrom l sr C 0 = (((List.range x.ops.length).drop i).all (fun i => rdOk l sr C t i) && allRFrom l sr C (t + 1))) (x.ops.length - ·) 0 ?_ ?_ ⟨Nat.zero_le _, hq⟩ ?_
    · simp only [↓PR, PO, PC, PX, tyI, tyF, tyX, tyL, tyK, tyB, tyE, tyM, tyP, tyQ, Nat.reduceBEq, Nat.reduceAdd, Nat.reduceMul, Nat.reduceSub, Nat.reduceLeDiff, Nat.reduceEqDiff, Nat.reduceLT, Nat.reducePow, Nat.reduceBneDiff, Nat.reduceBNe, Int.reduceBEq, Int.reduceEq, Int.reduceLT, Int.reduceLE, Int.reduceToNat, String.reduceBEq, List.length_map]
    · simp only [↓PR, PO, PC, PX, tyI, tyF, tyX, tyL, tyK, tyB, tyE, tyM, tyP, tyQ, Nat.reduceBEq, Nat.reduceAdd, Nat.reduceMul, Nat.reduceSub, Nat.reduceLeDiff, Nat.reduceEqDiff, Nat.reduceLT, Nat.reducePow, Nat.reduceBneDiff, Nat.reduceBNe, Int.reduceBEq, Int.reduceEq, Int.reduceLT, Int.reduceLE, Int.reduceToNat, String.reduceBEq]
    intro i j2 ⟨hi, hv⟩
    (refine of_gate ?_; repeat' ((first | (with_reducible refine gate_in ?_) | (with_reducible refine spK_intro ?_ ?_ <;> intro hp) | (with_reducible refine brK_intro ?_ ?_ <;> intro hb <;> try rw [hb]) | (with_reducible refine draw_in (by unfold DrawOk; decide +kernel) ?_) | (with_reducible refine And.intro (by first | omega | (simp only [List.length_map, List.length_take]; omega)) ?_) | fail) <;> try simp only [↓PR, PO, PC, PX, tyI, tyF, tyX, tyL, tyK, tyB, tyE, tyM, tyP, tyQ, Nat.reduceBEq, Nat.reduceAdd, Nat.reduceMul, Nat.reduceSub, Nat.reduceLeDiff, Nat.reduceEqDiff, Nat.reduceLT, Nat.reducePow, Nat.reduceBneDiff, Nat.reduceBNe, Int.reduceBEq, Int.reduceEq, Int.reduceLT, Int.reduceLE, Int.reduceToNat, String.reduceBEq]))
    · have hil : i < x.ops.length := by omega
      have hwi := wrap_succ (n := x.ops.length) hil (by simp only [maxLen]; omega)
      have ho : x.ops[i]? = some x.ops[i] := List.getElem?_eq_getElem hil
      rw [range_dropO hil, List.all_cons] at hv
      refine c97 hf hl hS hC hx ho ?_
      cases hB : rdOk l sr C t i with
      | true =>
        rw [hB, Bool.true_and] at hv
        (refine of_gate ?_; repeat' ((first | (with_reducible refine gate_in ?_) | (with_reducible refine spK_intro ?_ ?_ <;> intro hp) | (with_reducible refine brK_intro ?_ ?_ <;> intro hb <;> try rw [hb]) | (with_reducible refine draw_in (by unfold DrawOk; decide +kernel) ?_) | (with_reducible refine And.intro (by first | omega | (simp only [List.length_map, List.length_take]; omega)) ?_) | fail) <;> try simp only [↓PR, PO, PC, PX, tyI, tyF, tyX, tyL, tyK, tyB, tyE, tyM, tyP, tyQ, Nat.reduceBEq, Nat.reduceAdd, Nat.reduceMul, Nat.reduceSub, Nat.reduceLeDiff, Nat.reduceEqDiff, Nat.reduceLT, Nat.reducePow, Nat.reduceBneDiff, Nat.reduceBNe, Int.reduceBEq, Int.reduceEq, Int.reduceLT, Int.reduceLE, Int.reduceToNat, String.reduceBEq, hwi]))
        (refine ⟨i + 1, ?_, ?_, ⟨hil, hv⟩, by dsimp only; omega⟩ <;> simp only [↓PR, PO, PC, PX, tyI, tyF, tyX, tyL, tyK, tyB, tyE, tyM, tyP, tyQ, Nat.reduceBEq, Nat.reduceAdd, Nat.reduceMul, Nat.reduceSub, Nat.reduceLeDiff, Nat.reduceEqDiff, Nat.reduceLT, Nat.reducePow, Nat.reduceBneDiff, Nat.reduceBNe, Int.reduceBEq, Int.reduceEq, Int.reduceLT, Int.reduceLE, Int.reduceToNat, String.reduceBEq, hwi])
      | false =>
        rw [hB, Bool.false_and, Bool.false_and] at hv
        (refine of_gate ?_; repeat' ((first | (with_reducible refine gate_in ?_) | (with_reducible refine spK_intro ?_ ?_ <;> intro hp) | (with_reducible refine brK_intro ?_ ?_ <;> intro hb <;> try rw [hb]) | (with_reducible refine draw_in (by unfold DrawOk; decide +kernel) ?_) | (with_reducible refine And.intro (by first | omega | (simp only [List.length_map, List.length_take]; omega)) ?_) | fail) <;> try simp only [↓PR, PO, PC, PX, tyI, tyF, tyX, tyL, tyK, tyB, tyE, tyM, tyP, tyQ, Nat.reduceBEq, Nat.reduceAdd, Nat.reduceMul, Nat.reduceSub, Nat.reduceLeDiff, Nat.reduceEqDiff, Nat.reduceLT, Nat.reducePow, Nat.reduceBneDiff, Nat.reduceBNe, Int.reduceBEq, Int.reduceEq, Int.reduceLT, Int.reduceLE, Int.reduceToNat, String.reduceBEq, hwi, hv]))
    · rw [List.drop_eq_nil_of_le (by simp; omega)] at hv
      (refine of_gate ?_; repeat' ((first | (with_reducible refine gate_in ?_) | (with_reducible refine spK_intro ?_ ?_ <;> intro hp) | (with_reducible refine brK_intro ?_ ?_ <;> intro hb <;> try rw [hb]) | (with_reducible refine draw_in (by unfold DrawOk; decide +kernel) ?_) | (with_reducible refine And.intro (by first | omega | (simp only [List.length_map, List.length_take]; omega)) ?_) | fail) <;> try simp only [↓PR, PO, PC, PX, tyI, tyF, tyX, tyL, tyK, tyB, tyE, tyM, tyP, tyQ, Nat.reduceBEq, Nat.reduceAdd, Nat.reduceMul, Nat.reduceSub, Nat.reduceLeDiff, Nat.reduceEqDiff, Nat.reduceLT, Nat.reducePow, Nat.reduceBneDiff, Nat.reduceBNe, Int.reduceBEq, Int.reduceEq, Int.reduceLT, Int.reduceLE, Int.reduceToNat, String.reduceBEq, hw]))
      (refine ⟨t + 1, ?_, ?_, ⟨htl, by simpa using hv⟩, by dsimp only; omega⟩ <;> simp only [↓PR, PO, PC, PX, tyI, tyF, tyX, tyL, tyK, tyB, tyE, tyM, tyP, tyQ, Nat.reduceBEq, Nat.reduceAdd, Nat.reduceMul, Nat.reduceSub, Nat.reduceLeDiff, Nat.reduceEqDiff, Nat.reduceLT, Nat.reducePow, Nat.reduceBneDiff, Nat.reduceBNe, Int.reduceBEq, Int.reduceEq, Int.reduceLT, Int.reduceLE, Int.reduceToNat, String.reduceBEq, hw])
  · rw [hq, allRFrom, List.drop_eq_nil_of_le (by simp; omega)]; rfl
theorem c71 {l : List Txn} {sr : List (List Int)} {C : Nat} (hf : FitT l) (hl : l.length ≤ 30) (hS : SrcT l sr) (hC : C < 2 ^ 32) {dst : Option Tmp} {σ : S} {K : S → Prop} (hK : σ.ret dst [.a (B (allRFrom l sr C 0))] K) : callV Tryd.prog GL 71 [.a (trA l sr C)] dst σ K := call_dat (t71 l hf hl sr hS C hC) hK
/-! ### graph.look -/
/-- What look answers. -/
def lookE (h : List Ev) (C : Nat) : Int := if sourcesE h = 0 then (if C / 2 ^ (sourcesR h).length = 0 then 0 else 1) else sourcesE h
def lookA (h : List Ev) (C : Nat) : A := if lookE h C = 0 then trA (txns h) (sourcesR h) C else trA [] [] 0
theorem sourcesE_check {h : List Ev} (h0 : sourcesE h = 0) : checkE h = 0 := by
  unfold sourcesE at h0
  split at h0
  · assumption
  · rename_i hn; exact absurd h0 hn
theorem tab_fit2 (h : List Ev) (hl : h.length ≤ 1000000) : FitT (txns h) := by
  unfold txns
  split
  · refine ⟨by rw [List.length_map]; have := @tab_len h h.length; unfold tabOf; omega, fun t ht => ?_⟩
    obtain ⟨kp, hk, rfl⟩ := List.mem_map.1 ht
    have := tab_ops (h := h) h.length kp hk
    show kp.ops.length ≤ _
    omega
  · exact ⟨by simp, fun t ht => by cases ht⟩
theorem srcT {h : List Ev} (h0 : sourcesE h = 0) : SrcT (txns h) (sourcesR h) := by
  obtain ⟨hE, kv, hw, hR⟩ := sources_ok h0
  have ht : txns h = (tabOf h).map Kp.txn := by unfold txns; rw [if_pos hE]
  rw [ht, hR]
  obtain ⟨_, hkv⟩ := wr_some hw
  generalize tabOf h = ks at *
  have at_ : ∀ (t : Nat) (r : List Int), (srcRows kv ks 0)[t]? = some r → ∃ k, ks[t]? = some k ∧ r = srcRow kv (t : Int) k.ops [] := by
    intro t r hr
    rw [show (srcRows kv ks 0)[t]? = _ from srcRows_get (kv := kv) ks 0 t] at hr
    obtain ⟨k, hk, rfl⟩ := Option.map_eq_some_iff.1 hr
    exact ⟨k, hk, by rw [Nat.zero_add]⟩
  refine ⟨by rw [srcRows_len, List.length_map], fun t x r hx hr => ?_, fun t r s hr hs => ?_⟩
  · obtain ⟨k, hk, rfl⟩ := at_ t r hr
    rw [List.getElem?_map, hk] at hx; cases hx
    exact srcRow_len _ _
  · obtain ⟨k, hk, rfl⟩ := at_ t r hr
    obtain ⟨i, hi⟩ := List.getElem?_of_mem hs
    rw [srcRow_get] at hi
    obtain ⟨o, ho, rfl⟩ := Option.map_eq_some_iff.1 hi
    have htl := (List.getElem?_eq_some_iff.1 hk).1
    split
    · exact .inr (.inr ⟨t, rfl, by rw [List.length_map]; exact htl⟩)
    · unfold srcOf
      split
      · exact .inl rfl
      · split
        · rename_i v hv
          split
          · exact .inr (.inl rfl)
          · obtain ⟨j, rfl, r0, o0, hj, _⟩ := (hkv _ _).1 hv
            exact .inr (.inr ⟨j, rfl, by rw [List.length_map]; exact (List.getElem?_eq_some_iff.1 hj).1⟩)
        · exact .inr (.inl rfl)
theorem t69 (h : List Ev) (C : Nat) (hC : C < 2 ^ 32) : Holds Tryd.prog GL 69 [evsA h, U C] [.a (lookA h C), .a (I (lookE h C))] := by
  refine fn_holds (vs := [.cell 4 97, .tmp 5]) (by kernel_rfl) Tryd.func69 rfl rfl (by kernel_rfl) (by kernel_rfl) rfl ?_
  by_cases hE : sourcesE h = 0
  · have hE2 := sourcesE_check hE
    have hln := (srcT hE).len
    have hl6 := txns_len6 h
    have h32 : (sourcesR h).length < 32 := by omega
    by_cases hz : C / 2 ^ (sourcesR h).length = 0
    · have e1 : lookE h C = 0 := by simp [lookE, hE, hz]
      have e2 : lookA h C = trA (txns h) (sourcesR h) C := by rw [lookA, if_pos e1]
      rw [e1, e2]
      (refine of_gate ?_; repeat' ((first | (with_reducible refine gate_in ?_) | (with_reducible refine spK_intro ?_ ?_ <;> intro hp) | (with_reducible refine brK_intro ?_ ?_ <;> intro hb <;> try rw [hb]) | (with_reducible refine draw_in (by unfold DrawOk; decide +kernel) ?_) | (with_reducible apply c28) | (with_reducible apply c56) | (with_reducible refine And.intro (by first | omega | (simp only [List.length_map, List.length_take]; omega)) ?_) | fail) <;> try simp only [↓PR, PO, PC, PX, tyI, tyF, tyX, tyL, tyK, tyB, tyE, tyM, tyP, tyQ, Nat.reduceBEq, Nat.reduceAdd, Nat.reduceMul, Nat.reduceSub, Nat.reduceLeDiff, Nat.reduceEqDiff, Nat.reduceLT, Nat.reducePow, Nat.reduceBneDiff, Nat.reduceBNe, Int.reduceBEq, Int.reduceEq, Int.reduceLT, Int.reduceLE, Int.reduceToNat, String.reduceBEq, hE, hE2, hz, u32_shr h32, List.length_map]))
      refine sem_build (ti := ⟨3, 56, true, [.slice none 0 0, .slice none 0 0, .int .u32 0]⟩) (offs := [(0, 1, false), (1, 1, false), (2, 1, false)]) (l := [(0, .tmp 30), (1, .tmp 31), (2, .tmp 32)]) (ps := [(0, [.a (txnsA (txns h))]), (1, [.a (.d (.sl ((sourcesR h).map intRow)))]), (2, [.a (U C)])]) (rs := [.a (txnsA (txns h)), .a (.d (.sl ((sourcesR h).map intRow))), .a (U C)]) (by kernel_rfl) (by kernel_rfl) rfl rfl (by simp only [partsR, ↓PR, PO, PC, PX, tyI, tyF, tyX, tyL, tyK, tyB, tyE, tyM, tyP, tyQ, Nat.reduceBEq, Nat.reduceAdd, Nat.reduceMul, Nat.reduceSub, Nat.reduceLeDiff, Nat.reduceEqDiff, Nat.reduceLT, Nat.reducePow, Nat.reduceBneDiff, Nat.reduceBNe, Int.reduceBEq, Int.reduceEq, Int.reduceLT, Int.reduceLE, Int.reduceToNat, String.reduceBEq]) rfl ?_
      (refine of_gate ?_; repeat' ((first | (with_reducible refine gate_in ?_) | (with_reducible refine spK_intro ?_ ?_ <;> intro hp) | (with_reducible refine brK_intro ?_ ?_ <;> intro hb <;> try rw [hb]) | (with_reducible refine draw_in (by unfold DrawOk; decide +kernel) ?_) | (with_reducible refine And.intro (by first | omega | (simp only [List.length_map, List.length_take]; omega)) ?_) | fail) <;> try simp only [↓PR, PO, PC, PX, tyI, tyF, tyX, tyL, tyK, tyB, tyE, tyM, tyP, tyQ, Nat.reduceBEq, Nat.reduceAdd, Nat.reduceMul, Nat.reduceSub, Nat.reduceLeDiff, Nat.reduceEqDiff, Nat.reduceLT, Nat.reducePow, Nat.reduceBneDiff, Nat.reduceBNe, Int.reduceBEq, Int.reduceEq, Int.reduceLT, Int.reduceLE, Int.reduceToNat, String.reduceBEq]))
      trace_state
      skip
    · have e1 : lookE h C = 1 := by simp [lookE, hE, hz]
      have e2 : lookA h C = trA [] [] 0 := by rw [lookA, e1, if_neg (by decide)]
      rw [e1, e2]
      have hzI : ¬ (((C / 2 ^ (sourcesR h).length : Nat)) : Int) = 0 := by omega
      (refine of_gate ?_; repeat' ((first | (with_reducible refine gate_in ?_) | (with_reducible refine spK_intro ?_ ?_ <;> intro hp) | (with_reducible refine brK_intro ?_ ?_ <;> intro hb <;> try rw [hb]) | (with_reducible refine draw_in (by unfold DrawOk; decide +kernel) ?_) | (with_reducible apply c28) | (with_reducible apply c56) | (with_reducible refine And.intro (by first | omega | (simp only [List.length_map, List.length_take]; omega)) ?_) | fail) <;> try simp only [↓PR, PO, PC, PX, tyI, tyF, tyX, tyL, tyK, tyB, tyE, tyM, tyP, tyQ, Nat.reduceBEq, Nat.reduceAdd, Nat.reduceMul, Nat.reduceSub, Nat.reduceLeDiff, Nat.reduceEqDiff, Nat.reduceLT, Nat.reducePow, Nat.reduceBneDiff, Nat.reduceBNe, Int.reduceBEq, Int.reduceEq, Int.reduceLT, Int.reduceLE, Int.reduceToNat, String.reduceBEq, hE, hE2, hzI, u32_shr h32, List.length_map]))
      refine sem_build (ti := ⟨3, 56, true, [.slice none 0 0, .slice none 0 0, .int .u32 0]⟩) (offs := [(0, 1, false), (1, 1, false), (2, 1, false)]) (l := []) (ps := []) (rs := [.cs [], .cs [], .a (U 0)]) (by kernel_rfl) (by kernel_rfl) rfl rfl (by simp only [partsR, ↓PR, PO, PC, PX, tyI, tyF, tyX, tyL, tyK, tyB, tyE, tyM, tyP, tyQ, Nat.reduceBEq, Nat.reduceAdd, Nat.reduceMul, Nat.reduceSub, Nat.reduceLeDiff, Nat.reduceEqDiff, Nat.reduceLT, Nat.reducePow, Nat.reduceBneDiff, Nat.reduceBNe, Int.reduceBEq, Int.reduceEq, Int.reduceLT, Int.reduceLE, Int.reduceToNat, String.reduceBEq]) rfl ?_
      (refine of_gate ?_; repeat' ((first | (with_reducible refine gate_in ?_) | (with_reducible refine spK_intro ?_ ?_ <;> intro hp) | (with_reducible refine brK_intro ?_ ?_ <;> intro hb <;> try rw [hb]) | (with_reducible refine draw_in (by unfold DrawOk; decide +kernel) ?_) | (with_reducible refine And.intro (by first | omega | (simp only [List.length_map, List.length_take]; omega)) ?_) | fail) <;> try simp only [↓PR, PO, PC, PX, tyI, tyF, tyX, tyL, tyK, tyB, tyE, tyM, tyP, tyQ, Nat.reduceBEq, Nat.reduceAdd, Nat.reduceMul, Nat.reduceSub, Nat.reduceLeDiff, Nat.reduceEqDiff, Nat.reduceLT, Nat.reducePow, Nat.reduceBneDiff, Nat.reduceBNe, Int.reduceBEq, Int.reduceEq, Int.reduceLT, Int.reduceLE, Int.reduceToNat, String.reduceBEq]))
      trace_state
      skip
  · have e1 : lookE h C = sourcesE h := by simp [lookE, hE]
    have e2 : lookA h C = trA [] [] 0 := by rw [lookA, e1, if_neg hE]
    rw [e1, e2]
    (refine of_gate ?_; repeat' ((first | (with_reducible refine gate_in ?_) | (with_reducible refine spK_intro ?_ ?_ <;> intro hp) | (with_reducible refine brK_intro ?_ ?_ <;> intro hb <;> try rw [hb]) | (with_reducible refine draw_in (by unfold DrawOk; decide +kernel) ?_) | (with_reducible apply c28) | (with_reducible apply c56) | (with_reducible refine And.intro (by first | omega | (simp only [List.length_map, List.length_take]; omega)) ?_) | fail) <;> try simp only [↓PR, PO, PC, PX, tyI, tyF, tyX, tyL, tyK, tyB, tyE, tyM, tyP, tyQ, Nat.reduceBEq, Nat.reduceAdd, Nat.reduceMul, Nat.reduceSub, Nat.reduceLeDiff, Nat.reduceEqDiff, Nat.reduceLT, Nat.reducePow, Nat.reduceBneDiff, Nat.reduceBNe, Int.reduceBEq, Int.reduceEq, Int.reduceLT, Int.reduceLE, Int.reduceToNat, String.reduceBEq, hE]))
    refine sem_build (ti := ⟨3, 56, true, [.slice none 0 0, .slice none 0 0, .int .u32 0]⟩) (offs := [(0, 1, false), (1, 1, false), (2, 1, false)]) (l := []) (ps := []) (rs := [.cs [], .cs [], .a (U 0)]) (by kernel_rfl) (by kernel_rfl) rfl rfl (by simp only [partsR, ↓PR, PO, PC, PX, tyI, tyF, tyX, tyL, tyK, tyB, tyE, tyM, tyP, tyQ, Nat.reduceBEq, Nat.reduceAdd, Nat.reduceMul, Nat.reduceSub, Nat.reduceLeDiff, Nat.reduceEqDiff, Nat.reduceLT, Nat.reducePow, Nat.reduceBneDiff, Nat.reduceBNe, Int.reduceBEq, Int.reduceEq, Int.reduceLT, Int.reduceLE, Int.reduceToNat, String.reduceBEq]) rfl ?_
    (refine of_gate ?_; repeat' ((first | (with_reducible refine gate_in ?_) | (with_reducible refine spK_intro ?_ ?_ <;> intro hp) | (with_reducible refine brK_intro ?_ ?_ <;> intro hb <;> try rw [hb]) | (with_reducible refine draw_in (by unfold DrawOk; decide +kernel) ?_) | (with_reducible refine And.intro (by first | omega | (simp only [List.length_map, List.length_take]; omega)) ?_) | fail) <;> try simp only [↓PR, PO, PC, PX, tyI, tyF, tyX, tyL, tyK, tyB, tyE, tyM, tyP, tyQ, Nat.reduceBEq, Nat.reduceAdd, Nat.reduceMul, Nat.reduceSub, Nat.reduceLeDiff, Nat.reduceEqDiff, Nat.reduceLT, Nat.reducePow, Nat.reduceBneDiff, Nat.reduceBNe, Int.reduceBEq, Int.reduceEq, Int.reduceLT, Int.reduceLE, Int.reduceToNat, String.reduceBEq]))
    trace_state
    skip
end Go.VC
namespace Go.VC
open Go.RowKit Go.Proofs Go.IntWalk
/-- What a call keeps of its caller's registers and objects below B, but for the object n. -/
structure KeepsB (B : Nat) (vs : List Value) (n : Nat) (σ0 σ : S) : Prop where
  fr : σ.mem 999999 = some (.frame vs (upF σ0.regs))
  ob : ∀ o x, (o == n) = false → decide (o < B) = true → σ0.mem o = some x → σ.mem (upId o) = some x.up
structure LeftB (B : Nat) (n : Nat) (σ σ' : S) : Prop where
  r : ∀ {t : Nat} {r : R}, σ.regs t = r → r.up.down = r → σ'.regs t = r
  m : ∀ {o : Nat} {x : Ob}, (o == n) = false → decide (o < B) = true → σ.mem o = some x → x.up.down = x → σ'.mem o = some x
theorem loB {o B : Nat} (hB : B ≤ 900000000) (h : decide (o < B) = true) : decide (o < 999000000) = true := by have := of_decide_eq_true h; exact decide_eq_true (by omega)
theorem end_b {B : Nat} {vs : List Value} {ts : List Tmp} {σ τ : S} {n : Nat} {y : Option Ob} {K : S → List R → Prop} {rs : List R} (hB : B ≤ 900000000) (hn : decide (n < B) = true) (hkp : KeepsB B vs n σ τ) (hy : (τ.mem (upId n)).map Ob.down = y) (hrs : (ts.map fun t => (τ.regs t).down) = rs)
    (hk : ∀ σ' : S, LeftB B n σ σ' → σ'.mem n = y → K σ' rs) {e : Ex} (he : e = .ret ∨ e = .normal) : postG vs ts K e τ := by
  have : postG vs ts K .ret τ := by
    refine ⟨τ, Ghost.refl _, by rw [hkp.fr]; rfl, ?_⟩
    rw [hrs]
    refine hk τ.leave ⟨fun {t r} ht hr => ?_, fun {o x} h1 h2 h3 h4 => ?_⟩ ?_
    · rw [lv_r, hkp.fr, lv_f, ht]; exact hr
    · rw [lv_m (loB hB h2), hkp.ob o x h1 h2 h3]; exact congrArg some h4
    · rw [lv_m (loB hB hn)]; exact hy
  rcases he with rfl | rfl
  · exact this
  · exact this
theorem clo73 {σ : S} {o q i k b : Nat} {rows : List Nat} {K : S → List R → Prop} (ho : decide (o < 900000000) = true) (hq : decide (q < 900000000) = true) (hoq : (o == q) = false) (mo : σ.mem o = some (.box [.own q])) (mq : σ.mem q = some (.log 28 1 (rows.map uenc))) (hi : rows[i]? = some b) (hb : b < 2 ^ 32) (hk : k < 32)
    (hK : ∀ σ' : S, LeftB 900000000 q σ σ' → σ'.mem q = some (.log 28 1 ((rows.set i (b ||| 2 ^ k)).map uenc)) → K σ' []) : Inl Tryd.prog GL 73 [.a (I i), .a (I k), .ref o 0] σ K := by
  have hO := lo9c ho
  have hQ := lo9c hq
  have hO1 : decide (upId o < 1000000000) = true := up_lt hO
  have hQ1 : decide (upId q < 1000000000) = true := up_lt hQ
  have hqo : (q == o) = false := Bool.beq_comm.trans hoq
  have hil := (List.getElem?_eq_some_iff.1 hi).1
  have h2 : 2 ^ k < 2 ^ 32 := Nat.pow_lt_pow_right (by omega) hk
  refine inl_bodyG (by kernel_rfl) Tryd.func73 rfl rfl (by kernel_rfl) (by kernel_rfl) rfl fun vs => ?_
  (refine of_gate ?_; repeat' ((first | (with_reducible refine gate_in ?_) | (with_reducible refine spK_intro ?_ ?_ <;> intro hp) | (with_reducible refine brK_intro ?_ ?_ <;> intro hb <;> try rw [hb]) | (with_reducible refine draw_in (by unfold DrawOk; decide +kernel) ?_) | (with_reducible refine And.intro (by first | omega | (simp only [List.length_map, List.length_take]; omega)) ?_) | fail) <;> try simp only [↓PR, PO, PC, PX, tyI, tyF, tyX, tyL, tyK, tyB, tyE, tyM, tyP, tyQ, Nat.reduceBEq, Nat.reduceAdd, Nat.reduceMul, Nat.reduceSub, Nat.reduceLeDiff, Nat.reduceEqDiff, Nat.reduceLT, Nat.reducePow, Nat.reduceBneDiff, Nat.reduceBNe, Int.reduceBEq, Int.reduceEq, Int.reduceLT, Int.reduceLE, Int.reduceToNat, String.reduceBEq, PI, hO, hQ, hO1, hQ1, hoq, hqo, mo, mq, hi, uenc_eq, u32_shl hk, u32_or hb h2, List.length_map]))
  have hy : (rows.map uenc)[i]? = some (uenc b) := by rw [List.getElem?_map, hi]; rfl
  rw [st_eref_one (sz := 1) (j := 0) (ti := ⟨1, 4, false, [.int .u32 0]⟩) (e := 28) (xs := rows.map uenc) (by kernel_rfl) (by simp only [↓PR, PO, PC, PX, tyI, tyF, tyX, tyL, tyK, tyB, tyE, tyM, tyP, tyQ, Nat.reduceBEq, Nat.reduceAdd, Nat.reduceMul, Nat.reduceSub, Nat.reduceLeDiff, Nat.reduceEqDiff, Nat.reduceLT, Nat.reducePow, Nat.reduceBneDiff, Nat.reduceBNe, Int.reduceBEq, Int.reduceEq, Int.reduceLT, Int.reduceLE, Int.reduceToNat, String.reduceBEq, PI, hO, hQ, hO1, hQ1, hoq, hqo, mo, mq]) hy rfl (by omega) rfl]
  (refine of_gate ?_; repeat' ((first | (with_reducible refine gate_in ?_) | (with_reducible refine spK_intro ?_ ?_ <;> intro hp) | (with_reducible refine brK_intro ?_ ?_ <;> intro hb <;> try rw [hb]) | (with_reducible refine draw_in (by unfold DrawOk; decide +kernel) ?_) | (with_reducible refine And.intro (by first | omega | (simp only [List.length_map, List.length_take]; omega)) ?_) | fail) <;> try simp only [↓PR, PO, PC, PX, tyI, tyF, tyX, tyL, tyK, tyB, tyE, tyM, tyP, tyQ, Nat.reduceBEq, Nat.reduceAdd, Nat.reduceMul, Nat.reduceSub, Nat.reduceLeDiff, Nat.reduceEqDiff, Nat.reduceLT, Nat.reducePow, Nat.reduceBneDiff, Nat.reduceBNe, Int.reduceBEq, Int.reduceEq, Int.reduceLT, Int.reduceLE, Int.reduceToNat, String.reduceBEq, PI, hO, hQ, hO1, hQ1, hoq, hqo, mo, mq]))
  refine end_b (B := 900000000) (n := q) (y := some (.log 28 1 ((rows.set i (b ||| 2 ^ k)).map uenc))) (Nat.le_refl _) hq ⟨by simp only [↓PR, PO, PC, PX, tyI, tyF, tyX, tyL, tyK, tyB, tyE, tyM, tyP, tyQ, Nat.reduceBEq, Nat.reduceAdd, Nat.reduceMul, Nat.reduceSub, Nat.reduceLeDiff, Nat.reduceEqDiff, Nat.reduceLT, Nat.reducePow, Nat.reduceBneDiff, Nat.reduceBNe, Int.reduceBEq, Int.reduceEq, Int.reduceLT, Int.reduceLE, Int.reduceToNat, String.reduceBEq, PI, hQ], fun o' x h1 h2 h3 => by have h2 := lo9c h2; have h4 : (q == o') = false := Bool.beq_comm.trans h1; simp only [↓PR, PO, PC, PX, tyI, tyF, tyX, tyL, tyK, tyB, tyE, tyM, tyP, tyQ, Nat.reduceBEq, Nat.reduceAdd, Nat.reduceMul, Nat.reduceSub, Nat.reduceLeDiff, Nat.reduceEqDiff, Nat.reduceLT, Nat.reducePow, Nat.reduceBneDiff, Nat.reduceBNe, Int.reduceBEq, Int.reduceEq, Int.reduceLT, Int.reduceLE, Int.reduceToNat, String.reduceBEq, PI, h1, h2, h3, h4, hQ]⟩ ?_ rfl (fun σ' h hm => hK σ' h hm) (.inr rfl)
  simp only [↓PR, PO, PC, PX, tyI, tyF, tyX, tyL, tyK, tyB, tyE, tyM, tyP, tyQ, Nat.reduceBEq, Nat.reduceAdd, Nat.reduceMul, Nat.reduceSub, Nat.reduceLeDiff, Nat.reduceEqDiff, Nat.reduceLT, Nat.reducePow, Nat.reduceBneDiff, Nat.reduceBNe, Int.reduceBEq, Int.reduceEq, Int.reduceLT, Int.reduceLE, Int.reduceToNat, String.reduceBEq, PI, hQ, List.map_set]; rfl
end Go.VC
namespace Go.VC
open Go.RowKit Go.Proofs Go.IntWalk
def addE (rows : List Nat) (i k : Nat) : List Nat := match rows[i]? with
  | some b => rows.set i (b ||| 2 ^ k)
  | none => rows
def stepC (l : List Txn) (C : Nat) (place : List Int) (t : Nat) (w v : Int) (rows : List Nat) (c : Nat) : List Nat :=
  if c = t ∨ (c : Int) = w ∨ wrC l C c v = false then rows
  else if w < 0 ∨ place.getD w.toNat 0 < place.getD c 0 then addE rows t c else addE rows c w.toNat
def stepI (l : List Txn) (sr : List (List Int)) (C : Nat) (place : List Int) (t : Nat) (rows : List Nat) (i : Nat) : List Nat := match l[t]?.bind (·.ops[i]?), sr[t]?.bind (·[i]?) with
  | some o, some w => if o.w = true ∨ w = t then rows else (List.range l.length).foldl (stepC l C place t w o.var) (if 0 ≤ w then addE rows w.toNat t else rows)
  | _, _ => rows
def stepT (l : List Txn) (sr : List (List Int)) (C : Nat) (place : List Int) (rows : List Nat) (t : Nat) : List Nat := match l[t]? with
  | some x => (List.range x.ops.length).foldl (stepI l sr C place t) rows
  | none => rows
/-- What edges sets. -/
def edgesF (l : List Txn) (sr : List (List Int)) (C : Nat) (place : List Int) (rows : List Nat) : List Nat := (List.range l.length).foldl (stepT l sr C place) rows
theorem fold_s {α : Type} (f : α → Nat → α) (a : α) (k : Nat) : (List.range (k + 1)).foldl f a = f ((List.range k).foldl f a) k := by
  rw [List.range_succ, List.foldl_append]; rfl
structure RowsOk (n : Nat) (rows : List Nat) : Prop where
  len : rows.length = n
  lt : ∀ b ∈ rows, b < 2 ^ 32
theorem addE_ok {n : Nat} {rows : List Nat} {i k : Nat} (h : RowsOk n rows) (hk : k < 32) : RowsOk n (addE rows i k) := by
  unfold addE
  split
  · rename_i b hb
    refine ⟨by rw [List.length_set]; exact h.len, fun x hx => ?_⟩
    rcases List.mem_or_eq_of_mem_set hx with h1 | rfl
    · exact h.lt x h1
    · exact Nat.or_lt_two_pow (h.lt b (List.mem_of_getElem? hb)) (Nat.pow_lt_pow_right (by omega) hk)
  · exact h
/-- What the body of edges knows at its loops. -/
structure EdI (vs : List Value) (σ0 : S) (l : List Txn) (sr : List (List Int)) (C : Nat) (place : List Int) (rows : List Nat) (τ : S) : Prop where
  r1 : τ.regs 1 = .own (upId 26)
  r2 : τ.regs 2 = .clo 73 [(upId 12, 0)]
  r3 : τ.regs 3 = .ref 3 0
  m3 : τ.mem 3 = some (.box [.a (.d (.sl (l.map Txn.enc))), .a (.d (.sl (sr.map intRow))), .a (.d (.v (.int .u32 C)))])
  mp : τ.mem (upId 26) = some (.log 3 1 (place.map ienc))
  mb : τ.mem (upId 12) = some (.box [.own (upId 2008)])
  mq : τ.mem (upId 2008) = some (.log 28 1 (rows.map uenc))
  kp : KeepsB 800000000 vs 2008 σ0 τ
  ok : RowsOk l.length rows
section
variable {vs : List Value} {σ0 τ : S} {l : List Txn} {sr : List (List Int)} {C : Nat} {place : List Int} {rows : List Nat}
theorem EdI.put {d : Nat} {r : R} (hd : ((d == 1) || (d == 2) || (d == 3)) = false) (h : EdI vs σ0 l sr C place rows τ) : EdI vs σ0 l sr C place rows (τ.put (some d) r) := by
  simp only [Bool.or_eq_false_iff] at hd
  obtain ⟨⟨h1, h2⟩, h3⟩ := hd
  exact ⟨by simp only [↓PR, PO, PC, PX, tyI, tyF, tyX, tyL, tyK, tyB, tyE, tyM, tyP, tyQ, Nat.reduceBEq, Nat.reduceAdd, Nat.reduceMul, Nat.reduceSub, Nat.reduceLeDiff, Nat.reduceEqDiff, Nat.reduceLT, Nat.reducePow, Nat.reduceBneDiff, Nat.reduceBNe, Int.reduceBEq, Int.reduceEq, Int.reduceLT, Int.reduceLE, Int.reduceToNat, String.reduceBEq, PI, h1, h.r1], by simp only [↓PR, PO, PC, PX, tyI, tyF, tyX, tyL, tyK, tyB, tyE, tyM, tyP, tyQ, Nat.reduceBEq, Nat.reduceAdd, Nat.reduceMul, Nat.reduceSub, Nat.reduceLeDiff, Nat.reduceEqDiff, Nat.reduceLT, Nat.reducePow, Nat.reduceBneDiff, Nat.reduceBNe, Int.reduceBEq, Int.reduceEq, Int.reduceLT, Int.reduceLE, Int.reduceToNat, String.reduceBEq, PI, h2, h.r2], by simp only [↓PR, PO, PC, PX, tyI, tyF, tyX, tyL, tyK, tyB, tyE, tyM, tyP, tyQ, Nat.reduceBEq, Nat.reduceAdd, Nat.reduceMul, Nat.reduceSub, Nat.reduceLeDiff, Nat.reduceEqDiff, Nat.reduceLT, Nat.reducePow, Nat.reduceBneDiff, Nat.reduceBNe, Int.reduceBEq, Int.reduceEq, Int.reduceLT, Int.reduceLE, Int.reduceToNat, String.reduceBEq, PI, h3, h.r3], h.m3, h.mp, h.mb, h.mq, ⟨h.kp.fr, h.kp.ob⟩, h.ok⟩
theorem EdI.put_n {r : R} (h : EdI vs σ0 l sr C place rows τ) : EdI vs σ0 l sr C place rows (τ.put none r) := h
theorem kill_clo1 {d o f : Nat} {g : FuncId} (h : d < 1000000) : R.kill d (.clo g [(upId o, f)]) = .clo g [(upId o, f)] := by
  rw [← up_clo]; exact kill_up_lo h
theorem EdI.new {d : Nat} {x : Ob} (hd : decide (d < 999999) = true) (hd1 : decide (d < 1000000) = true) (hd3 : (d == 3) = false) (h : EdI vs σ0 l sr C place rows τ) : EdI vs σ0 l sr C place rows (τ.newOb d x) := by
  have h3 : (3 == d) = false := Bool.beq_comm.trans hd3
  have h9 : (d == 999999) = false := by have := of_decide_eq_true hd; simp; omega
  obtain ⟨r1, r2, r3, m3, mp, mb, mq, ⟨fr, ob⟩, ok⟩ := h
  refine ⟨by simp only [↓PR, PO, PC, PX, tyI, tyF, tyX, tyL, tyK, tyB, tyE, tyM, tyP, tyQ, Nat.reduceBEq, Nat.reduceAdd, Nat.reduceMul, Nat.reduceSub, Nat.reduceLeDiff, Nat.reduceEqDiff, Nat.reduceLT, Nat.reducePow, Nat.reduceBneDiff, Nat.reduceBNe, Int.reduceBEq, Int.reduceEq, Int.reduceLT, Int.reduceLE, Int.reduceToNat, String.reduceBEq, PI, hd1, r1], by simp only [↓PR, PO, PC, PX, tyI, tyF, tyX, tyL, tyK, tyB, tyE, tyM, tyP, tyQ, Nat.reduceBEq, Nat.reduceAdd, Nat.reduceMul, Nat.reduceSub, Nat.reduceLeDiff, Nat.reduceEqDiff, Nat.reduceLT, Nat.reducePow, Nat.reduceBneDiff, Nat.reduceBNe, Int.reduceBEq, Int.reduceEq, Int.reduceLT, Int.reduceLE, Int.reduceToNat, String.reduceBEq, PI, hd1, r2, kill_clo1 (of_decide_eq_true hd1)], by simp only [↓PR, PO, PC, PX, tyI, tyF, tyX, tyL, tyK, tyB, tyE, tyM, tyP, tyQ, Nat.reduceBEq, Nat.reduceAdd, Nat.reduceMul, Nat.reduceSub, Nat.reduceLeDiff, Nat.reduceEqDiff, Nat.reduceLT, Nat.reducePow, Nat.reduceBneDiff, Nat.reduceBNe, Int.reduceBEq, Int.reduceEq, Int.reduceLT, Int.reduceLE, Int.reduceToNat, String.reduceBEq, PI, hd1, r3, h3], by simp only [↓PR, PO, PC, PX, tyI, tyF, tyX, tyL, tyK, tyB, tyE, tyM, tyP, tyQ, Nat.reduceBEq, Nat.reduceAdd, Nat.reduceMul, Nat.reduceSub, Nat.reduceLeDiff, Nat.reduceEqDiff, Nat.reduceLT, Nat.reducePow, Nat.reduceBneDiff, Nat.reduceBNe, Int.reduceBEq, Int.reduceEq, Int.reduceLT, Int.reduceLE, Int.reduceToNat, String.reduceBEq, PI, hd1, m3, hd3], by simp only [↓PR, PO, PC, PX, tyI, tyF, tyX, tyL, tyK, tyB, tyE, tyM, tyP, tyQ, Nat.reduceBEq, Nat.reduceAdd, Nat.reduceMul, Nat.reduceSub, Nat.reduceLeDiff, Nat.reduceEqDiff, Nat.reduceLT, Nat.reducePow, Nat.reduceBneDiff, Nat.reduceBNe, Int.reduceBEq, Int.reduceEq, Int.reduceLT, Int.reduceLE, Int.reduceToNat, String.reduceBEq, PI, hd1, mp], by simp only [↓PR, PO, PC, PX, tyI, tyF, tyX, tyL, tyK, tyB, tyE, tyM, tyP, tyQ, Nat.reduceBEq, Nat.reduceAdd, Nat.reduceMul, Nat.reduceSub, Nat.reduceLeDiff, Nat.reduceEqDiff, Nat.reduceLT, Nat.reducePow, Nat.reduceBneDiff, Nat.reduceBNe, Int.reduceBEq, Int.reduceEq, Int.reduceLT, Int.reduceLE, Int.reduceToNat, String.reduceBEq, PI, hd1, mb], by simp only [↓PR, PO, PC, PX, tyI, tyF, tyX, tyL, tyK, tyB, tyE, tyM, tyP, tyQ, Nat.reduceBEq, Nat.reduceAdd, Nat.reduceMul, Nat.reduceSub, Nat.reduceLeDiff, Nat.reduceEqDiff, Nat.reduceLT, Nat.reducePow, Nat.reduceBneDiff, Nat.reduceBNe, Int.reduceBEq, Int.reduceEq, Int.reduceLT, Int.reduceLE, Int.reduceToNat, String.reduceBEq, PI, hd1, mq], ⟨by simp only [↓PR, PO, PC, PX, tyI, tyF, tyX, tyL, tyK, tyB, tyE, tyM, tyP, tyQ, Nat.reduceBEq, Nat.reduceAdd, Nat.reduceMul, Nat.reduceSub, Nat.reduceLeDiff, Nat.reduceEqDiff, Nat.reduceLT, Nat.reducePow, Nat.reduceBneDiff, Nat.reduceBNe, Int.reduceBEq, Int.reduceEq, Int.reduceLT, Int.reduceLE, Int.reduceToNat, String.reduceBEq, PI, hd1, fr, h9], fun o x h1 h2 h3 => ?_⟩, ok⟩
  have h5 := ob o x h1 h2 h3
  have h6 := of_decide_eq_true hd1
  simp only [↓PR, PO, PC, PX, tyI, tyF, tyX, tyL, tyK, tyB, tyE, tyM, tyP, tyQ, Nat.reduceBEq, Nat.reduceAdd, Nat.reduceMul, Nat.reduceSub, Nat.reduceLeDiff, Nat.reduceEqDiff, Nat.reduceLT, Nat.reducePow, Nat.reduceBneDiff, Nat.reduceBNe, Int.reduceBEq, Int.reduceEq, Int.reduceLT, Int.reduceLE, Int.reduceToNat, String.reduceBEq, PI, hd1, h5, okill_lo h6]
theorem EdI.set {d : Nat} {x : Ob} (hd : decide (d < 999999) = true) (hd1 : decide (d < 1000000) = true) (hd3 : (d == 3) = false) (h : EdI vs σ0 l sr C place rows τ) : EdI vs σ0 l sr C place rows (τ.setOb d x) := by
  have h9 : (d == 999999) = false := by have := of_decide_eq_true hd; simp; omega
  obtain ⟨r1, r2, r3, m3, mp, mb, mq, ⟨fr, ob⟩, ok⟩ := h
  refine ⟨by simp only [↓PR, PO, PC, PX, tyI, tyF, tyX, tyL, tyK, tyB, tyE, tyM, tyP, tyQ, Nat.reduceBEq, Nat.reduceAdd, Nat.reduceMul, Nat.reduceSub, Nat.reduceLeDiff, Nat.reduceEqDiff, Nat.reduceLT, Nat.reducePow, Nat.reduceBneDiff, Nat.reduceBNe, Int.reduceBEq, Int.reduceEq, Int.reduceLT, Int.reduceLE, Int.reduceToNat, String.reduceBEq, PI, r1], by simp only [↓PR, PO, PC, PX, tyI, tyF, tyX, tyL, tyK, tyB, tyE, tyM, tyP, tyQ, Nat.reduceBEq, Nat.reduceAdd, Nat.reduceMul, Nat.reduceSub, Nat.reduceLeDiff, Nat.reduceEqDiff, Nat.reduceLT, Nat.reducePow, Nat.reduceBneDiff, Nat.reduceBNe, Int.reduceBEq, Int.reduceEq, Int.reduceLT, Int.reduceLE, Int.reduceToNat, String.reduceBEq, PI, r2], by simp only [↓PR, PO, PC, PX, tyI, tyF, tyX, tyL, tyK, tyB, tyE, tyM, tyP, tyQ, Nat.reduceBEq, Nat.reduceAdd, Nat.reduceMul, Nat.reduceSub, Nat.reduceLeDiff, Nat.reduceEqDiff, Nat.reduceLT, Nat.reducePow, Nat.reduceBneDiff, Nat.reduceBNe, Int.reduceBEq, Int.reduceEq, Int.reduceLT, Int.reduceLE, Int.reduceToNat, String.reduceBEq, PI, r3], by simp only [↓PR, PO, PC, PX, tyI, tyF, tyX, tyL, tyK, tyB, tyE, tyM, tyP, tyQ, Nat.reduceBEq, Nat.reduceAdd, Nat.reduceMul, Nat.reduceSub, Nat.reduceLeDiff, Nat.reduceEqDiff, Nat.reduceLT, Nat.reducePow, Nat.reduceBneDiff, Nat.reduceBNe, Int.reduceBEq, Int.reduceEq, Int.reduceLT, Int.reduceLE, Int.reduceToNat, String.reduceBEq, PI, hd1, m3, hd3], by simp only [↓PR, PO, PC, PX, tyI, tyF, tyX, tyL, tyK, tyB, tyE, tyM, tyP, tyQ, Nat.reduceBEq, Nat.reduceAdd, Nat.reduceMul, Nat.reduceSub, Nat.reduceLeDiff, Nat.reduceEqDiff, Nat.reduceLT, Nat.reducePow, Nat.reduceBneDiff, Nat.reduceBNe, Int.reduceBEq, Int.reduceEq, Int.reduceLT, Int.reduceLE, Int.reduceToNat, String.reduceBEq, PI, hd1, mp], by simp only [↓PR, PO, PC, PX, tyI, tyF, tyX, tyL, tyK, tyB, tyE, tyM, tyP, tyQ, Nat.reduceBEq, Nat.reduceAdd, Nat.reduceMul, Nat.reduceSub, Nat.reduceLeDiff, Nat.reduceEqDiff, Nat.reduceLT, Nat.reducePow, Nat.reduceBneDiff, Nat.reduceBNe, Int.reduceBEq, Int.reduceEq, Int.reduceLT, Int.reduceLE, Int.reduceToNat, String.reduceBEq, PI, hd1, mb], by simp only [↓PR, PO, PC, PX, tyI, tyF, tyX, tyL, tyK, tyB, tyE, tyM, tyP, tyQ, Nat.reduceBEq, Nat.reduceAdd, Nat.reduceMul, Nat.reduceSub, Nat.reduceLeDiff, Nat.reduceEqDiff, Nat.reduceLT, Nat.reducePow, Nat.reduceBneDiff, Nat.reduceBNe, Int.reduceBEq, Int.reduceEq, Int.reduceLT, Int.reduceLE, Int.reduceToNat, String.reduceBEq, PI, hd1, mq], ⟨by simp only [↓PR, PO, PC, PX, tyI, tyF, tyX, tyL, tyK, tyB, tyE, tyM, tyP, tyQ, Nat.reduceBEq, Nat.reduceAdd, Nat.reduceMul, Nat.reduceSub, Nat.reduceLeDiff, Nat.reduceEqDiff, Nat.reduceLT, Nat.reducePow, Nat.reduceBneDiff, Nat.reduceBNe, Int.reduceBEq, Int.reduceEq, Int.reduceLT, Int.reduceLE, Int.reduceToNat, String.reduceBEq, PI, hd1, fr, h9], fun o x h1 h2 h3 => ?_⟩, ok⟩
  have h5 := ob o x h1 h2 h3
  simp only [↓PR, PO, PC, PX, tyI, tyF, tyX, tyL, tyK, tyB, tyE, tyM, tyP, tyQ, Nat.reduceBEq, Nat.reduceAdd, Nat.reduceMul, Nat.reduceSub, Nat.reduceLeDiff, Nat.reduceEqDiff, Nat.reduceLT, Nat.reducePow, Nat.reduceBneDiff, Nat.reduceBNe, Int.reduceBEq, Int.reduceEq, Int.reduceLT, Int.reduceLE, Int.reduceToNat, String.reduceBEq, PI, hd1, h5]
theorem up_own1 {o : Nat} : R.down (R.up (.own o)) = .own o := by simp [R.up, R.down, upId_sub, upId_le]
theorem up_log1 {e : TypeId} {z : Nat} {xs : List (List D)} : Ob.down (Ob.up (.log e z xs)) = .log e z xs := rfl
theorem up_boxO {o : Nat} : Ob.down (Ob.up (.box [.own o])) = .box [.own o] := by simp [Ob.up, Ob.down, R.up, R.down, upId_sub, upId_le]
theorem up_frame {rg : Nat → R} : Ob.down (Ob.up (.frame vs (upF rg))) = .frame vs (upF rg) := by
  show Ob.frame vs (fun t => ((upF rg t).up).down) = _
  congr 1
  funext t
  exact up_up_down (rg t)
theorem up_obj (x : Ob) : Ob.down (Ob.up x.up) = x.up := (fineO_up (q := 0) (by omega) x).1
theorem EdI.left {σ' : S} {rows' : List Nat} (h : EdI vs σ0 l sr C place rows τ) (hL : LeftB 900000000 (upId 2008) τ σ') (hm : σ'.mem (upId 2008) = some (.log 28 1 (rows'.map uenc))) (hok : RowsOk l.length rows') : EdI vs σ0 l sr C place rows' σ' := by
  obtain ⟨r1, r2, r3, m3, mp, mb, mq, ⟨fr, ob⟩, ok⟩ := h
  have u : ∀ {o : Nat}, decide (o < 800000000) = true → decide (upId o < 900000000) = true := fun {o} h => by
    have h := of_decide_eq_true h; have := upId_eq o; exact decide_eq_true (by omega)
  have ne : ∀ {d : Nat}, d < 1000000 → (d == upId 2008) = false := fun {d} h => by
    have := upId_le 2008; simp; omega
  refine ⟨hL.r r1 up_own1, hL.r r2 up_clo1, hL.r r3 up_ref1, hL.m (ne (by omega)) rfl m3 rfl, hL.m (by simp only [↓PR, PO, PC, PX, tyI, tyF, tyX, tyL, tyK, tyB, tyE, tyM, tyP, tyQ, Nat.reduceBEq, Nat.reduceAdd, Nat.reduceMul, Nat.reduceSub, Nat.reduceLeDiff, Nat.reduceEqDiff, Nat.reduceLT, Nat.reducePow, Nat.reduceBneDiff, Nat.reduceBNe, Int.reduceBEq, Int.reduceEq, Int.reduceLT, Int.reduceLE, Int.reduceToNat, String.reduceBEq, PI]) (u rfl) mp up_log1, hL.m (by simp only [↓PR, PO, PC, PX, tyI, tyF, tyX, tyL, tyK, tyB, tyE, tyM, tyP, tyQ, Nat.reduceBEq, Nat.reduceAdd, Nat.reduceMul, Nat.reduceSub, Nat.reduceLeDiff, Nat.reduceEqDiff, Nat.reduceLT, Nat.reducePow, Nat.reduceBneDiff, Nat.reduceBNe, Int.reduceBEq, Int.reduceEq, Int.reduceLT, Int.reduceLE, Int.reduceToNat, String.reduceBEq, PI]) (u rfl) mb up_boxO, hm, ⟨hL.m (ne (by omega)) rfl fr up_frame, fun o x h1 h2 h3 => ?_⟩, hok⟩
  exact hL.m (by simp only [↓PR, PO, PC, PX, tyI, tyF, tyX, tyL, tyK, tyB, tyE, tyM, tyP, tyQ, Nat.reduceBEq, Nat.reduceAdd, Nat.reduceMul, Nat.reduceSub, Nat.reduceLeDiff, Nat.reduceEqDiff, Nat.reduceLT, Nat.reducePow, Nat.reduceBneDiff, Nat.reduceBNe, Int.reduceBEq, Int.reduceEq, Int.reduceLT, Int.reduceLE, Int.reduceToNat, String.reduceBEq, PI, h1]) (u h2) (ob o x h1 h2 h3) (up_obj x)
end
end Go.VC
