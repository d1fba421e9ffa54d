/- order.Before, order.Keeps; the references of layer 7: their contracts. -/
import Derived.Test.YtjmbgnncokeliaaDoorVOa
set_option maxRecDepth 100000
set_option linter.unusedSimpArgs false
set_option linter.unusedVariables false
namespace Go.VC
open Go.RowKit Go.Proofs Go.IntWalk
theorem u32_and {a b : Nat} (ha : a < 2 ^ 32) (hb : b < 2 ^ 32) : IntKind.u32.wrap (BitVec.ofInt IntKind.u32.bits (a : Int) &&& BitVec.ofInt IntKind.u32.bits (b : Int)).toNat = ((a &&& b : Nat) : Int) := by
  have hab : a &&& b < 2 ^ 32 := Nat.lt_of_le_of_lt Nat.and_le_left ha
  have e : (BitVec.ofInt IntKind.u32.bits (a : Int) &&& BitVec.ofInt IntKind.u32.bits (b : Int)).toNat = a &&& b := by
    have h1 : ∀ c : Nat, c < 2 ^ 32 → (BitVec.ofInt IntKind.u32.bits (c : Int)).toNat = c := fun c hc => by
      have : (BitVec.ofInt 32 (c : Int)).toNat = c := by
        rw [BitVec.toNat_ofInt]; omega
      exact this
    rw [BitVec.toNat_and, h1 a ha, h1 b hb]
  rw [e]
  exact u32_in _ (by omega)
theorem u32_shr {b k : Nat} (hk : k < 32) : ((b : Int)).fdiv (2 ^ (min k IntKind.u32.bits)) = ((b / 2 ^ k : Nat) : Int) := by
  have h1 : min k IntKind.u32.bits = k := by simp only [IntKind.bits]; omega
  rw [h1, Int.fdiv_eq_ediv_of_nonneg _ (Int.le_of_lt (Int.pow_pos (by decide)))]
  rw [Int.natCast_ediv, Int.natCast_pow]; rfl
theorem u32_bit {b k : Nat} (hb : b < 2 ^ 32) : IntKind.u32.wrap (BitVec.ofInt IntKind.u32.bits ((b / 2 ^ k : Nat) : Int) &&& BitVec.ofInt IntKind.u32.bits 1).toNat = if b.testBit k then 1 else 0 := by
  have h1 : b / 2 ^ k < 2 ^ 32 := Nat.lt_of_le_of_lt (Nat.div_le_self _ _) hb
  have := u32_and h1 (show 1 < 2 ^ 32 by decide)
  rw [show ((1 : Nat) : Int) = 1 from rfl] at this
  rw [this, Nat.and_one_is_mod, Nat.testBit_eq_decide_div_mod_eq]
  by_cases h : b / 2 ^ k % 2 = 1
  · simp [h]
  · have : b / 2 ^ k % 2 = 0 := by omega
    simp [this]
def inT (n : Nat) (i : Int) : Bool := decide (0 ≤ i) && decide (i < n)
theorem inT_iff {n : Nat} {i : Int} : inT n i = true ↔ ∃ k : Nat, i = k ∧ k < n := by
  simp only [inT, Bool.and_eq_true, decide_eq_true_eq]
  constructor
  · intro ⟨a, b⟩; exact ⟨i.toNat, by omega, by omega⟩
  · rintro ⟨k, rfl, h⟩; omega
theorem inT_nat {n k : Nat} : inT n (k : Int) = decide (k < n) := by
  simp [inT]
/-- What Before answers. -/
def befE (h : List Ev) (i k : Int) : Int := if checkE h = 0 then (if inT (txns h).length i && inT (txns h).length k then 0 else 7) else checkE h
def befV (h : List Ev) (i k : Int) : Bool := decide (checkE h = 0) && (inT (txns h).length i && inT (txns h).length k && beforeB (txns h) i.toNat k.toNat)
theorem afterR_len (l : List Txn) : (afterR l).length = l.length := by simp [afterR]
theorem afterR_at {l : List Txn} {i : Nat} (hi : i < l.length) : (afterR l)[i]? = some (bitsN (beforeB l i) l.length) := by
  rw [afterR, List.getElem?_map, List.getElem?_range hi]; rfl
theorem bits32 (p : Nat → Bool) {n : Nat} (hn : n ≤ 30) : bitsN p n < 2 ^ 32 := Nat.lt_of_lt_of_le (bitsN_lt _ _) (Nat.pow_le_pow_right (by omega) (by omega))
theorem t17 (h : List Ev) (i k : Int) : Holds Tryd.prog GL 17 [evsA h, I i, I k] [.a (B (befV h i k)), .a (I (befE h i k))] := by
  refine fn_holds (vs := [.tmp 6, .tmp 7]) (by kernel_rfl) Tryd.func17 rfl rfl (by kernel_rfl) (by kernel_rfl) rfl ?_
  by_cases hE : checkE h = 0
  · have hV : aftersV h = afterR (txns h) := by simp [aftersV, hE]
    have hl6 := txns_len6 h
    have e1 : befE h i k = if inT (txns h).length i && inT (txns h).length k then 0 else 7 := by simp [befE, hE]
    have e2 : befV h i k = (inT (txns h).length i && inT (txns h).length k && beforeB (txns h) i.toNat k.toNat) := by simp [befV, hE]
    rw [e1, e2]
    generalize txns h = l at *
    by_cases hi : inT l.length i = true
    · by_cases hk : inT l.length k = true
      · obtain ⟨i, rfl, hi2⟩ := inT_iff.1 hi
        obtain ⟨k, rfl, hk2⟩ := inT_iff.1 hk
        clear hi hk
        have hi := hi2
        have hk := hk2
        have hx := afterR_at hi
        have hlen := afterR_len l
        have hb := bits32 (beforeB l i) (n := l.length) (by omega)
        have hbit := u32_bit (k := k) hb
        have hk32 : k < 32 := by omega
        rw [bitsN_test, decide_eq_true hk, Bool.true_and] at hbit
        simp only [inT_nat, hi, hk, decide_true, Bool.true_and, if_true, Int.toNat_natCast]
        cases hB : beforeB l i k with
        | true =>
          simp only [hB, if_true] at hbit
          (refine of_gate ?_; repeat' ((first | (with_reducible refine gate_in ?_) | (with_reducible refine spK_intro ?_ ?_ <;> intro hp) | (with_reducible refine brK_intro ?_ ?_ <;> intro hb <;> try rw [hb]) | (with_reducible refine draw_in (by unfold DrawOk; decide +kernel) ?_) | (with_reducible apply c15) | (with_reducible refine And.intro (by first | omega | (simp only [List.length_map, List.length_take]; omega)) ?_) | fail) <;> try simp only [↓PR, PO, PC, PX, tyI, tyF, tyX, tyL, tyK, tyB, tyE, tyM, tyP, tyQ, Nat.reduceBEq, Nat.reduceAdd, Nat.reduceMul, Nat.reduceSub, Nat.reduceLeDiff, Nat.reduceEqDiff, Nat.reduceLT, Nat.reducePow, Nat.reduceBneDiff, Nat.reduceBNe, Int.reduceBEq, Int.reduceEq, Int.reduceLT, Int.reduceLE, Int.reduceToNat, String.reduceBEq, hE, hV, hx, hlen, List.length_map, uenc_eq, u32_shr hk32, hbit]))
          all_goals first | omega | rfl
        | false =>
          simp only [hB, Bool.false_eq_true, if_false] at hbit
          (refine of_gate ?_; repeat' ((first | (with_reducible refine gate_in ?_) | (with_reducible refine spK_intro ?_ ?_ <;> intro hp) | (with_reducible refine brK_intro ?_ ?_ <;> intro hb <;> try rw [hb]) | (with_reducible refine draw_in (by unfold DrawOk; decide +kernel) ?_) | (with_reducible apply c15) | (with_reducible refine And.intro (by first | omega | (simp only [List.length_map, List.length_take]; omega)) ?_) | fail) <;> try simp only [↓PR, PO, PC, PX, tyI, tyF, tyX, tyL, tyK, tyB, tyE, tyM, tyP, tyQ, Nat.reduceBEq, Nat.reduceAdd, Nat.reduceMul, Nat.reduceSub, Nat.reduceLeDiff, Nat.reduceEqDiff, Nat.reduceLT, Nat.reducePow, Nat.reduceBneDiff, Nat.reduceBNe, Int.reduceBEq, Int.reduceEq, Int.reduceLT, Int.reduceLE, Int.reduceToNat, String.reduceBEq, hE, hV, hx, hlen, List.length_map, uenc_eq, u32_shr hk32, hbit]))
          all_goals first | omega | rfl
      · have hk' : inT l.length k = false := by simpa using hk
        have hlen := afterR_len l
        simp only [inT, Bool.and_eq_true, decide_eq_true_eq] at hi hk
        rw [hk']
        simp only [Bool.and_false, Bool.false_and, Bool.false_eq_true, if_false]
        (refine of_gate ?_; repeat' ((first | (with_reducible refine gate_in ?_) | (with_reducible refine spK_intro ?_ ?_ <;> intro hp) | (with_reducible refine brK_intro ?_ ?_ <;> intro hb <;> try rw [hb]) | (with_reducible refine draw_in (by unfold DrawOk; decide +kernel) ?_) | (with_reducible apply c15) | (with_reducible refine And.intro (by first | omega | (simp only [List.length_map, List.length_take]; omega)) ?_) | fail) <;> try simp only [↓PR, PO, PC, PX, tyI, tyF, tyX, tyL, tyK, tyB, tyE, tyM, tyP, tyQ, Nat.reduceBEq, Nat.reduceAdd, Nat.reduceMul, Nat.reduceSub, Nat.reduceLeDiff, Nat.reduceEqDiff, Nat.reduceLT, Nat.reducePow, Nat.reduceBneDiff, Nat.reduceBNe, Int.reduceBEq, Int.reduceEq, Int.reduceLT, Int.reduceLE, Int.reduceToNat, String.reduceBEq, hE, hV, hlen, List.length_map]))
        all_goals first | omega | rfl
    · have hi' : inT l.length i = false := by simpa using hi
      have hlen := afterR_len l
      simp only [inT, Bool.and_eq_true, decide_eq_true_eq] at hi
      rw [hi']
      simp only [Bool.and_false, Bool.false_and, Bool.false_eq_true, if_false]
      (refine of_gate ?_; repeat' ((first | (with_reducible refine gate_in ?_) | (with_reducible refine spK_intro ?_ ?_ <;> intro hp) | (with_reducible refine brK_intro ?_ ?_ <;> intro hb <;> try rw [hb]) | (with_reducible refine draw_in (by unfold DrawOk; decide +kernel) ?_) | (with_reducible apply c15) | (with_reducible refine And.intro (by first | omega | (simp only [List.length_map, List.length_take]; omega)) ?_) | fail) <;> try simp only [↓PR, PO, PC, PX, tyI, tyF, tyX, tyL, tyK, tyB, tyE, tyM, tyP, tyQ, Nat.reduceBEq, Nat.reduceAdd, Nat.reduceMul, Nat.reduceSub, Nat.reduceLeDiff, Nat.reduceEqDiff, Nat.reduceLT, Nat.reducePow, Nat.reduceBneDiff, Nat.reduceBNe, Int.reduceBEq, Int.reduceEq, Int.reduceLT, Int.reduceLE, Int.reduceToNat, String.reduceBEq, hE, hV, hlen, List.length_map]))
      all_goals first | omega | rfl
  · have hV : aftersV h = [] := by simp [aftersV, hE]
    (refine of_gate ?_; repeat' ((first | (with_reducible refine gate_in ?_) | (with_reducible refine spK_intro ?_ ?_ <;> intro hp) | (with_reducible refine brK_intro ?_ ?_ <;> intro hb <;> try rw [hb]) | (with_reducible refine draw_in (by unfold DrawOk; decide +kernel) ?_) | (with_reducible apply c15) | (with_reducible refine And.intro (by first | omega | (simp only [List.length_map, List.length_take]; omega)) ?_) | fail) <;> try simp only [↓PR, PO, PC, PX, tyI, tyF, tyX, tyL, tyK, tyB, tyE, tyM, tyP, tyQ, Nat.reduceBEq, Nat.reduceAdd, Nat.reduceMul, Nat.reduceSub, Nat.reduceLeDiff, Nat.reduceEqDiff, Nat.reduceLT, Nat.reducePow, Nat.reduceBneDiff, Nat.reduceBNe, Int.reduceBEq, Int.reduceEq, Int.reduceLT, Int.reduceLE, Int.reduceToNat, String.reduceBEq, hE, hV, List.length_map]))
    all_goals simp [befE, befV, hE]
theorem c17 {h : List Ev} {i k : Int} {dst : Option Tmp} {σ : S} {K : S → Prop} (hK : S.ret σ dst [.a (B (befV h i k)), .a (I (befE h i k))] K) : callV Tryd.prog GL 17 [.a (evsA h), .a (I i), .a (I k)] dst σ K :=
  call_dat (t17 h i k) hK
theorem q17 {h : List Ev} {i k : Int} {σ : S} {KR : R → Prop} (hK : KR (retR [(B (befV h i k)), (I (befE h i k))])) : callVQ Tryd.prog GL 17 [.a (evsA h), .a (I i), .a (I k)] σ KR :=
  callQ_dat (res := [(B (befV h i k)), (I (befE h i k))]) (t17 h i k) hK
/-! ### slices.ContainsFunc over ints -/
theorem t92 (r : List Int) (f : FuncId) (c : D) (p : Int → Bool) (hf : ∀ e ∈ r, Holds Tryd.prog GL f [I e, .d c] [.a (B (p e))]) : Holds Tryd.prog GL 92 [intsA r, .d (.fn f [c])] [.a (I (idxOf p r))] := by
  refine fn_holds_is (vs := [.tmp 4]) (by kernel_rfl) Tryd.func92 rfl rfl (by kernel_rfl) (by kernel_rfl) rfl fun his => ?_
  have hlen := his.1.len
  rw [List.length_map] at hlen
  simp only [↓PR, PO, PC, PX, tyI, tyF, tyX, tyL, tyK, tyB, tyE, tyM, tyP, tyQ, Nat.reduceBEq, Nat.reduceAdd, Nat.reduceMul, Nat.reduceSub, Nat.reduceLeDiff, Nat.reduceEqDiff, Nat.reduceLT, Nat.reducePow, Nat.reduceBneDiff, Nat.reduceBNe, Int.reduceBEq, Int.reduceEq, Int.reduceLT, Int.reduceLE, Int.reduceToNat, String.reduceBEq, List.length_map]
  refine awp_loopA (fun k : Nat => [(0, .a (intsA r)), (1, .a (.d (.fn f [c]))), (7, .a (I r.length)), (8, .a (I k))]) (fun _ => []) (fun k => k ≤ r.length ∧ noneTo p r k) (r.length - ·) 0 ?_ ?_ ⟨Nat.zero_le _, noneTo_0⟩ ?_
  · simp only [↓PR, PO, PC, PX, tyI, tyF, tyX, tyL, tyK, tyB, tyE, tyM, tyP, tyQ, Nat.reduceBEq, Nat.reduceAdd, Nat.reduceMul, Nat.reduceSub, Nat.reduceLeDiff, Nat.reduceEqDiff, Nat.reduceLT, Nat.reducePow, Nat.reduceBneDiff, Nat.reduceBNe, Int.reduceBEq, Int.reduceEq, Int.reduceLT, Int.reduceLE, Int.reduceToNat, String.reduceBEq]
  · simp only [↓PR, PO, PC, PX, tyI, tyF, tyX, tyL, tyK, tyB, tyE, tyM, tyP, tyQ, Nat.reduceBEq, Nat.reduceAdd, Nat.reduceMul, Nat.reduceSub, Nat.reduceLeDiff, Nat.reduceEqDiff, Nat.reduceLT, Nat.reducePow, Nat.reduceBneDiff, Nat.reduceBNe, Int.reduceBEq, Int.reduceEq, Int.reduceLT, Int.reduceLE, Int.reduceToNat, String.reduceBEq]
  intro k j ⟨hk, hl⟩
  (refine of_gate ?_; repeat' ((first | (with_reducible refine gate_in ?_) | (with_reducible refine spK_intro ?_ ?_ <;> intro hp) | (with_reducible refine brK_intro ?_ ?_ <;> intro hb <;> try rw [hb]) | (with_reducible refine draw_in (by unfold DrawOk; decide +kernel) ?_) | (with_reducible refine And.intro (by first | omega | (simp only [List.length_map, List.length_take]; omega)) ?_) | fail) <;> try simp only [↓PR, PO, PC, PX, tyI, tyF, tyX, tyL, tyK, tyB, tyE, tyM, tyP, tyQ, Nat.reduceBEq, Nat.reduceAdd, Nat.reduceMul, Nat.reduceSub, Nat.reduceLeDiff, Nat.reduceEqDiff, Nat.reduceLT, Nat.reducePow, Nat.reduceBneDiff, Nat.reduceBNe, Int.reduceBEq, Int.reduceEq, Int.reduceLT, Int.reduceLE, Int.reduceToNat, String.reduceBEq]))
  · have hkl : k < r.length := by omega
    have hx : r[k]? = some r[k] := List.getElem?_eq_getElem hkl
    have hw := wrap_succ hkl hlen
    (refine of_gate ?_; repeat' ((first | (with_reducible refine gate_in ?_) | (with_reducible refine spK_intro ?_ ?_ <;> intro hp) | (with_reducible refine brK_intro ?_ ?_ <;> intro hb <;> try rw [hb]) | (with_reducible refine draw_in (by unfold DrawOk; decide +kernel) ?_) | (with_reducible refine And.intro (by first | omega | (simp only [List.length_map, List.length_take]; omega)) ?_) | fail) <;> try simp only [↓PR, PO, PC, PX, tyI, tyF, tyX, tyL, tyK, tyB, tyE, tyM, tyP, tyQ, Nat.reduceBEq, Nat.reduceAdd, Nat.reduceMul, Nat.reduceSub, Nat.reduceLeDiff, Nat.reduceEqDiff, Nat.reduceLT, Nat.reducePow, Nat.reduceBneDiff, Nat.reduceBNe, Int.reduceBEq, Int.reduceEq, Int.reduceLT, Int.reduceLE, Int.reduceToNat, String.reduceBEq, hx, ienc_eq, hw]))
    refine call_dat (hf r[k] (List.getElem_mem hkl)) ?_
    (refine of_gate ?_; repeat' ((first | (with_reducible refine gate_in ?_) | (with_reducible refine spK_intro ?_ ?_ <;> intro hp) | (with_reducible refine brK_intro ?_ ?_ <;> intro hb <;> try rw [hb]) | (with_reducible refine draw_in (by unfold DrawOk; decide +kernel) ?_) | (with_reducible refine And.intro (by first | omega | (simp only [List.length_map, List.length_take]; omega)) ?_) | fail) <;> try simp only [↓PR, PO, PC, PX, tyI, tyF, tyX, tyL, tyK, tyB, tyE, tyM, tyP, tyQ, Nat.reduceBEq, Nat.reduceAdd, Nat.reduceMul, Nat.reduceSub, Nat.reduceLeDiff, Nat.reduceEqDiff, Nat.reduceLT, Nat.reducePow, Nat.reduceBneDiff, Nat.reduceBNe, Int.reduceBEq, Int.reduceEq, Int.reduceLT, Int.reduceLE, Int.reduceToNat, String.reduceBEq, hx, ienc_eq, hw]))
    · exact (idx_hit hkl hl hb).symm
    · (refine ⟨k + 1, ?_, ?_, ⟨hkl, noneTo_s hkl hl hb⟩, by dsimp only; omega⟩ <;> simp only [↓PR, PO, PC, PX, tyI, tyF, tyX, tyL, tyK, tyB, tyE, tyM, tyP, tyQ, Nat.reduceBEq, Nat.reduceAdd, Nat.reduceMul, Nat.reduceSub, Nat.reduceLeDiff, Nat.reduceEqDiff, Nat.reduceLT, Nat.reducePow, Nat.reduceBneDiff, Nat.reduceBNe, Int.reduceBEq, Int.reduceEq, Int.reduceLT, Int.reduceLE, Int.reduceToNat, String.reduceBEq])
  · exact (idx_none (by omega) hl).symm
theorem t58 (r : List Int) (f : FuncId) (c : D) (p : Int → Bool) (hf : ∀ e ∈ r, Holds Tryd.prog GL f [I e, .d c] [.a (B (p e))]) : Holds Tryd.prog GL 58 [intsA r, .d (.fn f [c])] [.a (B (r.any p))] := by
  refine fn_holds (vs := [.tmp 4]) (by kernel_rfl) Tryd.func58 rfl rfl (by kernel_rfl) (by kernel_rfl) rfl ?_
  rw [← idx_ge]
  (refine of_gate ?_; repeat' ((first | (with_reducible refine gate_in ?_) | (with_reducible refine spK_intro ?_ ?_ <;> intro hp) | (with_reducible refine brK_intro ?_ ?_ <;> intro hb <;> try rw [hb]) | (with_reducible refine draw_in (by unfold DrawOk; decide +kernel) ?_) | (with_reducible refine And.intro (by first | omega | (simp only [List.length_map, List.length_take]; omega)) ?_) | fail) <;> try simp only [↓PR, PO, PC, PX, tyI, tyF, tyX, tyL, tyK, tyB, tyE, tyM, tyP, tyQ, Nat.reduceBEq, Nat.reduceAdd, Nat.reduceMul, Nat.reduceSub, Nat.reduceLeDiff, Nat.reduceEqDiff, Nat.reduceLT, Nat.reducePow, Nat.reduceBneDiff, Nat.reduceBNe, Int.reduceBEq, Int.reduceEq, Int.reduceLT, Int.reduceLE, Int.reduceToNat, String.reduceBEq]))
  refine call_dat (t92 r f c p hf) ?_
  (refine of_gate ?_; repeat' ((first | (with_reducible refine gate_in ?_) | (with_reducible refine spK_intro ?_ ?_ <;> intro hp) | (with_reducible refine brK_intro ?_ ?_ <;> intro hb <;> try rw [hb]) | (with_reducible refine draw_in (by unfold DrawOk; decide +kernel) ?_) | (with_reducible refine And.intro (by first | omega | (simp only [List.length_map, List.length_take]; omega)) ?_) | fail) <;> try simp only [↓PR, PO, PC, PX, tyI, tyF, tyX, tyL, tyK, tyB, tyE, tyM, tyP, tyQ, Nat.reduceBEq, Nat.reduceAdd, Nat.reduceMul, Nat.reduceSub, Nat.reduceLeDiff, Nat.reduceEqDiff, Nat.reduceLT, Nat.reducePow, Nat.reduceBneDiff, Nat.reduceBNe, Int.reduceBEq, Int.reduceEq, Int.reduceLT, Int.reduceLE, Int.reduceToNat, String.reduceBEq]))
  all_goals simp_all
theorem t59 (i : Int) (L : List Nat) : Holds Tryd.prog GL 59 [I i, .d (.pt [.sl (L.map uenc)])] [.a (B (!inT L.length i))] := by
  refine fn_holds (vs := [.tmp 3]) (by kernel_rfl) Tryd.func59 rfl rfl (by kernel_rfl) (by kernel_rfl) rfl ?_
  (refine of_gate ?_; repeat' ((first | (with_reducible refine gate_in ?_) | (with_reducible refine spK_intro ?_ ?_ <;> intro hp) | (with_reducible refine brK_intro ?_ ?_ <;> intro hb <;> try rw [hb]) | (with_reducible refine draw_in (by unfold DrawOk; decide +kernel) ?_) | (with_reducible refine And.intro (by first | omega | (simp only [List.length_map, List.length_take]; omega)) ?_) | fail) <;> try simp only [↓PR, PO, PC, PX, tyI, tyF, tyX, tyL, tyK, tyB, tyE, tyM, tyP, tyQ, Nat.reduceBEq, Nat.reduceAdd, Nat.reduceMul, Nat.reduceSub, Nat.reduceLeDiff, Nat.reduceEqDiff, Nat.reduceLT, Nat.reducePow, Nat.reduceBneDiff, Nat.reduceBNe, Int.reduceBEq, Int.reduceEq, Int.reduceLT, Int.reduceLE, Int.reduceToNat, String.reduceBEq, List.length_map]))
  all_goals (simp [inT]; omega)
/-! ### Does a row keep the order? -/
def okAt (l : List Txn) (r : List Int) (i : Nat) : Bool := match r[i]? with
  | some x => (r.take i).all fun y => !(x == y || beforeB l x.toNat y.toNat)
  | none => true
def keepsFrom (l : List Txn) (r : List Int) (k : Nat) : Bool := ((List.range r.length).drop k).all (okAt l r)
theorem range_dropO {n k : Nat} (h : k < n) : (List.range n).drop k = k :: (List.range n).drop (k + 1) := by
  rw [List.drop_eq_getElem_cons (by simpa using h)]; simp
theorem keeps_s {l : List Txn} {r : List Int} {k : Nat} (hk : k < r.length) : keepsFrom l r k = (okAt l r k && keepsFrom l r (k + 1)) := by
  simp only [keepsFrom, range_dropO hk, List.all_cons]
theorem keeps_n {l : List Txn} {r : List Int} {k : Nat} (hk : r.length ≤ k) : keepsFrom l r k = true := by
  rw [keepsFrom, List.drop_eq_nil_of_le (by simpa using hk)]; rfl
def kepE (h : List Ev) (r : List Int) : Int := if checkE h = 0 then (if r.all (inT (txns h).length) then 0 else 7) else checkE h
def kepV (h : List Ev) (r : List Int) : Bool := decide (checkE h = 0) && (r.all (inT (txns h).length) && keepsFrom (txns h) r 0)
def seenP (r : List Int) (k : Nat) (y : Nat) : Bool := (r.take k).any fun x => x == (y : Int)
theorem seenP_s {r : List Int} {k x : Nat} (hk : r[k]? = some (x : Int)) (y : Nat) : seenP r (k + 1) y = (seenP r k y || decide (x = y)) := by
  have hkl := (List.getElem?_eq_some_iff.1 hk).1
  have hx : r[k] = (x : Int) := (List.getElem?_eq_some_iff.1 hk).2
  rw [seenP, List.take_succ_eq_append_getElem hkl, List.any_append, hx]
  simp only [List.any_cons, List.any_nil, Bool.or_false, seenP]
  congr 1
  by_cases h : x = y
  · simp [h]
  · have : ¬ (x : Int) = (y : Int) := by omega
    simp [h, this]
theorem seen_or {r : List Int} {k x n : Nat} (hk : r[k]? = some (x : Int)) (hx : x < n) : bitsN (seenP r k) n ||| 2 ^ x = bitsN (seenP r (k + 1)) n := by
  refine Nat.eq_of_testBit_eq fun y => ?_
  rw [Nat.testBit_or, bitsN_test, bitsN_test, Nat.testBit_two_pow, seenP_s hk]
  by_cases h : x = y
  · subst h; simp [hx]
  · simp [h]
theorem clash_iff {l : List Txn} {r : List Int} (hr : r.all (inT l.length) = true) {k x : Nat} (hk : r[k]? = some (x : Int)) : ((bitsN (beforeB l x) l.length ||| 2 ^ x) &&& bitsN (seenP r k) l.length = 0) ↔ okAt l r k = true := by
  have hin : ∀ y ∈ r, inT l.length y = true := List.all_eq_true.1 hr
  have hxl : x < l.length := by
    have := hin _ (List.mem_of_getElem? hk)
    rw [inT_nat] at this; simpa using this
  simp only [okAt, hk, List.all_eq_true, Bool.not_eq_true', Bool.or_eq_false_iff]
  constructor
  · intro h y hy
    obtain ⟨y, rfl, hyl⟩ := inT_iff.1 (hin y (List.mem_of_mem_take hy))
    have hs : seenP r k y = true := by simp only [seenP, List.any_eq_true]; exact ⟨_, hy, by simp⟩
    have := congrArg (·.testBit y) h
    simp only [Nat.testBit_and, Nat.testBit_or, bitsN_test, Nat.testBit_two_pow, hyl, decide_true, Bool.true_and, hs, Bool.and_true, Nat.zero_testBit, Bool.or_eq_false_iff, decide_eq_false_iff_not] at this
    refine ⟨by simpa using fun e => this.2 (by omega), by simpa using this.1⟩
  · intro h
    refine Nat.eq_of_testBit_eq fun y => ?_
    rw [Nat.testBit_and, Nat.testBit_or, bitsN_test, bitsN_test, Nat.testBit_two_pow, Nat.zero_testBit]
    by_cases hs : seenP r k y = true
    · simp only [seenP, List.any_eq_true, beq_iff_eq] at hs
      obtain ⟨z, hz, rfl⟩ := hs
      obtain ⟨h1, h2⟩ := h _ hz
      have h3 : ¬ x = y := fun e => by subst e; simp at h1
      simp only [Int.toNat_natCast] at h2
      simp [h2, h3]
    · have hs : seenP r k y = false := by simpa using hs
      simp [hs]
theorem t18 (h : List Ev) (r : List Int) : Holds Tryd.prog GL 18 [evsA h, intsA r] [.a (B (kepV h r)), .a (I (kepE h r))] := by
  refine fn_holds_is (vs := [.tmp 4, .tmp 5]) (by kernel_rfl) Tryd.func18 rfl rfl (by kernel_rfl) (by kernel_rfl) rfl fun his => ?_
  have hlen := his.2.1.len
  rw [List.length_map] at hlen
  by_cases hE : checkE h = 0
  · have hV : aftersV h = afterR (txns h) := by simp [aftersV, hE]
    have hl6 := txns_len6 h
    have e1 : kepE h r = if r.all (inT (txns h).length) then 0 else 7 := by simp [kepE, hE]
    have e2 : kepV h r = (r.all (inT (txns h).length) && keepsFrom (txns h) r 0) := by simp [kepV, hE]
    rw [e1, e2]
    generalize txns h = l at *
    have hL := afterR_len l
    have hany : (r.any fun i => !inT (afterR l).length i) = !r.all (inT l.length) := by rw [hL]; simp [List.any_eq_not_all_not]
    (refine of_gate ?_; repeat' ((first | (with_reducible refine gate_in ?_) | (with_reducible refine spK_intro ?_ ?_ <;> intro hp) | (with_reducible refine brK_intro ?_ ?_ <;> intro hb <;> try rw [hb]) | (with_reducible refine draw_in (by unfold DrawOk; decide +kernel) ?_) | (with_reducible apply c15) | (with_reducible refine And.intro (by first | omega | (simp only [List.length_map, List.length_take]; omega)) ?_) | fail) <;> try simp only [↓PR, PO, PC, PX, tyI, tyF, tyX, tyL, tyK, tyB, tyE, tyM, tyP, tyQ, Nat.reduceBEq, Nat.reduceAdd, Nat.reduceMul, Nat.reduceSub, Nat.reduceLeDiff, Nat.reduceEqDiff, Nat.reduceLT, Nat.reducePow, Nat.reduceBneDiff, Nat.reduceBNe, Int.reduceBEq, Int.reduceEq, Int.reduceLT, Int.reduceLE, Int.reduceToNat, String.reduceBEq, hE, hV]))
    refine call_dat (t58 r 59 (.pt [.sl ((afterR l).map uenc)]) (fun i => !inT (afterR l).length i) fun i _ => t59 i (afterR l)) ?_
    rw [hany]
    (refine of_gate ?_; repeat' ((first | (with_reducible refine gate_in ?_) | (with_reducible refine spK_intro ?_ ?_ <;> intro hp) | (with_reducible refine brK_intro ?_ ?_ <;> intro hb <;> try rw [hb]) | (with_reducible refine draw_in (by unfold DrawOk; decide +kernel) ?_) | (with_reducible refine And.intro (by first | omega | (simp only [List.length_map, List.length_take]; omega)) ?_) | fail) <;> try simp only [↓PR, PO, PC, PX, tyI, tyF, tyX, tyL, tyK, tyB, tyE, tyM, tyP, tyQ, Nat.reduceBEq, Nat.reduceAdd, Nat.reduceMul, Nat.reduceSub, Nat.reduceLeDiff, Nat.reduceEqDiff, Nat.reduceLT, Nat.reducePow, Nat.reduceBneDiff, Nat.reduceBNe, Int.reduceBEq, Int.reduceEq, Int.reduceLT, Int.reduceLE, Int.reduceToNat, String.reduceBEq]))
    · have hr : r.all (inT l.length) = false := by simpa using hb
      rw [hr]; exact ⟨rfl, rfl⟩
    · have hr : r.all (inT l.length) = true := by simpa using hb
      simp only [hr, Bool.true_and, if_true]
      (refine of_gate ?_; repeat' ((first | (with_reducible refine gate_in ?_) | (with_reducible refine spK_intro ?_ ?_ <;> intro hp) | (with_reducible refine brK_intro ?_ ?_ <;> intro hb <;> try rw [hb]) | (with_reducible refine draw_in (by unfold DrawOk; decide +kernel) ?_) | (with_reducible refine And.intro (by first | omega | (simp only [List.length_map, List.length_take]; omega)) ?_) | fail) <;> try simp only [↓PR, PO, PC, PX, tyI, tyF, tyX, tyL, tyK, tyB, tyE, tyM, tyP, tyQ, Nat.reduceBEq, Nat.reduceAdd, Nat.reduceMul, Nat.reduceSub, Nat.reduceLeDiff, Nat.reduceEqDiff, Nat.reduceLT, Nat.reducePow, Nat.reduceBneDiff, Nat.reduceBNe, Int.reduceBEq, Int.reduceEq, Int.reduceLT, Int.reduceLE, Int.reduceToNat, String.reduceBEq, List.length_map]))
      refine awp_loopA (fun k : Nat => [(1, .a (intsA r)), (6, .a (.d (.pt [.sl ((afterR l).map uenc)]))), (8, .a (U (bitsN (seenP r k) l.length))), (22, .a (intsA r)), (23, .a (I r.length)), (24, .a (I k))]) (fun _ => []) (fun k => k ≤ r.length ∧ keepsFrom l r 0 = keepsFrom l r k) (r.length - ·) 0 ?_ ?_ ⟨Nat.zero_le _, rfl⟩ ?_
      · have : bitsN (seenP r 0) l.length = 0 := by
          refine Nat.eq_of_testBit_eq fun y => ?_
          rw [bitsN_test]; simp [seenP]
        simp only [↓PR, PO, PC, PX, tyI, tyF, tyX, tyL, tyK, tyB, tyE, tyM, tyP, tyQ, Nat.reduceBEq, Nat.reduceAdd, Nat.reduceMul, Nat.reduceSub, Nat.reduceLeDiff, Nat.reduceEqDiff, Nat.reduceLT, Nat.reducePow, Nat.reduceBneDiff, Nat.reduceBNe, Int.reduceBEq, Int.reduceEq, Int.reduceLT, Int.reduceLE, Int.reduceToNat, String.reduceBEq, List.length_map, this]; try rfl
      · simp only [↓PR, PO, PC, PX, tyI, tyF, tyX, tyL, tyK, tyB, tyE, tyM, tyP, tyQ, Nat.reduceBEq, Nat.reduceAdd, Nat.reduceMul, Nat.reduceSub, Nat.reduceLeDiff, Nat.reduceEqDiff, Nat.reduceLT, Nat.reducePow, Nat.reduceBneDiff, Nat.reduceBNe, Int.reduceBEq, Int.reduceEq, Int.reduceLT, Int.reduceLE, Int.reduceToNat, String.reduceBEq]
      intro k j ⟨hk, hq⟩
      (refine of_gate ?_; repeat' ((first | (with_reducible refine gate_in ?_) | (with_reducible refine spK_intro ?_ ?_ <;> intro hp) | (with_reducible refine brK_intro ?_ ?_ <;> intro hb <;> try rw [hb]) | (with_reducible refine draw_in (by unfold DrawOk; decide +kernel) ?_) | (with_reducible refine And.intro (by first | omega | (simp only [List.length_map, List.length_take]; omega)) ?_) | fail) <;> try simp only [↓PR, PO, PC, PX, tyI, tyF, tyX, tyL, tyK, tyB, tyE, tyM, tyP, tyQ, Nat.reduceBEq, Nat.reduceAdd, Nat.reduceMul, Nat.reduceSub, Nat.reduceLeDiff, Nat.reduceEqDiff, Nat.reduceLT, Nat.reducePow, Nat.reduceBneDiff, Nat.reduceBNe, Int.reduceBEq, Int.reduceEq, Int.reduceLT, Int.reduceLE, Int.reduceToNat, String.reduceBEq]))
      · have hkl : k < r.length := by omega
        have hw := wrap_succ hkl hlen
        obtain ⟨x, hx, hxl⟩ := inT_iff.1 (List.all_eq_true.1 hr r[k] (List.getElem_mem hkl))
        have hy : r[k]? = some (x : Int) := by rw [List.getElem?_eq_getElem hkl, hx]
        have hA := afterR_at hxl
        have hb1 := bits32 (beforeB l x) (n := l.length) (by omega)
        have hb2 := bits32 (seenP r k) (n := l.length) (by omega)
        have hb3 : 2 ^ x < 2 ^ 32 := Nat.pow_lt_pow_right (by omega) (by omega)
        have hb4 : bitsN (beforeB l x) l.length ||| 2 ^ x < 2 ^ 32 := Nat.or_lt_two_pow hb1 hb3
        have ho := seen_or hy hxl
        have hc := clash_iff hr hy
        have hx32 : x < 32 := by omega
        rw [keeps_s hkl] at hq
        (refine of_gate ?_; repeat' ((first | (with_reducible refine gate_in ?_) | (with_reducible refine spK_intro ?_ ?_ <;> intro hp) | (with_reducible refine brK_intro ?_ ?_ <;> intro hb <;> try rw [hb]) | (with_reducible refine draw_in (by unfold DrawOk; decide +kernel) ?_) | (with_reducible refine And.intro (by first | omega | (simp only [List.length_map, List.length_take]; omega)) ?_) | fail) <;> try simp only [↓PR, PO, PC, PX, tyI, tyF, tyX, tyL, tyK, tyB, tyE, tyM, tyP, tyQ, Nat.reduceBEq, Nat.reduceAdd, Nat.reduceMul, Nat.reduceSub, Nat.reduceLeDiff, Nat.reduceEqDiff, Nat.reduceLT, Nat.reducePow, Nat.reduceBneDiff, Nat.reduceBNe, Int.reduceBEq, Int.reduceEq, Int.reduceLT, Int.reduceLE, Int.reduceToNat, String.reduceBEq, hy, hA, hL, ienc_eq, uenc_eq, u32_shl hx32, u32_or hb1 hb3, u32_and hb4 hb2, u32_or hb2 hb3, ho, hw, List.length_map]))
        · have hok := hc.1 (by omega)
          rw [hok, Bool.true_and] at hq
          (refine ⟨k + 1, ?_, ?_, ⟨hkl, hq⟩, by dsimp only; omega⟩ <;> simp only [↓PR, PO, PC, PX, tyI, tyF, tyX, tyL, tyK, tyB, tyE, tyM, tyP, tyQ, Nat.reduceBEq, Nat.reduceAdd, Nat.reduceMul, Nat.reduceSub, Nat.reduceLeDiff, Nat.reduceEqDiff, Nat.reduceLT, Nat.reducePow, Nat.reduceBneDiff, Nat.reduceBNe, Int.reduceBEq, Int.reduceEq, Int.reduceLT, Int.reduceLE, Int.reduceToNat, String.reduceBEq, hw])
        · have hok : okAt l r k = false := by
            cases h : okAt l r k with
            | true => have := hc.2 h; omega
            | false => rfl
          rw [hq, hok]; rfl
      · rw [hq, keeps_n (by omega)]
  · have hV : aftersV h = [] := by simp [aftersV, hE]
    (refine of_gate ?_; repeat' ((first | (with_reducible refine gate_in ?_) | (with_reducible refine spK_intro ?_ ?_ <;> intro hp) | (with_reducible refine brK_intro ?_ ?_ <;> intro hb <;> try rw [hb]) | (with_reducible refine draw_in (by unfold DrawOk; decide +kernel) ?_) | (with_reducible apply c15) | (with_reducible refine And.intro (by first | omega | (simp only [List.length_map, List.length_take]; omega)) ?_) | fail) <;> try simp only [↓PR, PO, PC, PX, tyI, tyF, tyX, tyL, tyK, tyB, tyE, tyM, tyP, tyQ, Nat.reduceBEq, Nat.reduceAdd, Nat.reduceMul, Nat.reduceSub, Nat.reduceLeDiff, Nat.reduceEqDiff, Nat.reduceLT, Nat.reducePow, Nat.reduceBneDiff, Nat.reduceBNe, Int.reduceBEq, Int.reduceEq, Int.reduceLT, Int.reduceLE, Int.reduceToNat, String.reduceBEq, hE, hV, List.length_map]))
    all_goals simp [kepE, kepV, hE]
theorem c18 {h : List Ev} {r : List Int} {dst : Option Tmp} {σ : S} {K : S → Prop} (hK : S.ret σ dst [.a (B (kepV h r)), .a (I (kepE h r))] K) : callV Tryd.prog GL 18 [.a (evsA h), .a (intsA r)] dst σ K :=
  call_dat (t18 h r) hK
theorem q18 {h : List Ev} {r : List Int} {σ : S} {KR : R → Prop} (hK : KR (retR [(B (kepV h r)), (I (kepE h r))])) : callVQ Tryd.prog GL 18 [.a (evsA h), .a (intsA r)] σ KR :=
  callQ_dat (res := [(B (kepV h r)), (I (kepE h r))]) (t18 h r) hK
end Go.VC
