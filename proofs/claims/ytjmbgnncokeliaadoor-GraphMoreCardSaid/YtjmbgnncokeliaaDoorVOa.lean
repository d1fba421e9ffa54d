/- order: what is before what. -/
import Derived.Test.YtjmbgnncokeliaaDoorVUd
import Derived.Test.YtjmbgnncokeliaaDoorVFr
set_option maxRecDepth 100000
set_option linter.unusedSimpArgs false
set_option linter.unusedVariables false
set_option linter.defProp false
namespace Go.VC
open Go.RowKit Go.Proofs Go.IntWalk
/-- Rules for iterators' bodies. -/
def PY :=
  And.intro @lv_put <| And.intro @again_leave <| And.intro @ag_r <| And.intro @ag_f <| And.intro @pu_a <| And.intro @pu_cs <| And.intro @pu_y <| And.intro @up_y <| And.intro @k_y <| And.intro @f_y <| And.intro @cf_y <| @enter_leave
section
variable {P : Program} {gl : Nat → Option (List D)} {σ : S} {K : S → Prop} {dst : Option Tmp} {ty : TypeId} {pos : String} {after : Array Edge} {g : Option (Nat × Bool)}
theorem y_assign_nf : opA P gl ⟨dst, .assign (.const .nilFunc), ty, pos, after, g⟩ σ K = K (σ.put dst (.a (.d (.v .nilFunc)))) := rfl
end
theorem t91 (n : Int) : Holds Tryd.prog GL 91 [I n] [.a (.d (.fn 117 [.pt [dI n]]))] := by
  refine fn_holds (vs := [.tmp 2]) (by kernel_rfl) Tryd.func91 rfl rfl (by kernel_rfl) (by kernel_rfl) rfl ?_
  (refine of_gate ?_; repeat' ((first | (with_reducible refine gate_in ?_) | (with_reducible refine spK_intro ?_ ?_ <;> intro hp) | (with_reducible refine brK_intro ?_ ?_ <;> intro hb <;> try rw [hb]) | (with_reducible refine draw_in (by unfold DrawOk; decide +kernel) ?_) | (with_reducible refine And.intro (by first | omega | (simp only [List.length_map, List.length_take]; omega)) ?_) | fail) <;> try simp only [↓PR, PO, PC, PX, tyI, tyF, tyX, tyL, tyK, tyB, tyE, tyM, tyP, tyQ, Nat.reduceBEq, Nat.reduceAdd, Nat.reduceMul, Nat.reduceSub, Nat.reduceLeDiff, Nat.reduceEqDiff, Nat.reduceLT, Nat.reducePow, Nat.reduceBneDiff, Nat.reduceBNe, Int.reduceBEq, Int.reduceEq, Int.reduceLT, Int.reduceLE, Int.reduceToNat, String.reduceBEq, y_assign_nf]))
theorem c91 {n : Int} {dst : Option Tmp} {σ : S} {K : S → Prop} (hK : S.ret σ dst [.a (.d (.fn 117 [.pt [dI n]]))] K) : callV Tryd.prog GL 91 [.a (I n)] dst σ K :=
  call_dat (t91 n) hK
theorem q91 {n : Int} {σ : S} {KR : R → Prop} (hK : KR (retR [(.d (.fn 117 [.pt [dI n]]))])) : callVQ Tryd.prog GL 91 [.a (I n)] σ KR :=
  callQ_dat (res := [(.d (.fn 117 [.pt [dI n]]))]) (t91 n) hK
def pairsX (n : Nat) : List (List A) := (List.range (n * n)).map fun j => [I (j / n : Nat), I (j % n : Nat)]
theorem pairsX_at {n i k : Nat} (hi : i < n) (hk : k < n) : (pairsX n)[i * n + k]? = some [I (i : Nat), I (k : Nat)] := by
  have h1 : i * n + k < n * n := by
    have : (i + 1) * n ≤ n * n := Nat.mul_le_mul_right n hi
    rw [Nat.add_mul, Nat.one_mul] at this; omega
  have h2 : (i * n + k) / n = i := by rw [Nat.mul_comm, Nat.mul_add_div (by omega), Nat.div_eq_of_lt hk, Nat.add_zero]
  have h3 : (i * n + k) % n = k := by rw [Nat.mul_comm, Nat.mul_add_mod, Nat.mod_eq_of_lt hk]
  rw [pairsX, List.getElem?_map, List.getElem?_range h1, Option.map_some, h2, h3]
structure PairI (L : Nat) (T : Array Value) (n : Nat) (Inv : Nat → S → Prop) (i : Nat) (τ : S) : Prop where
  le : i ≤ n
  r0 : τ.regs 0 = yR L
  r1 : τ.regs 1 = .a (.d (.pt [dI n]))
  r5 : τ.regs 5 = .a (I n)
  r6 : τ.regs 6 = .a (I i)
  fv : fvOf (τ.mem 999999) = some T.toList
  inv : Inv (i * n) τ.leave
structure PairJ (L : Nat) (T : Array Value) (n : Nat) (Inv : Nat → S → Prop) (i k : Nat) (τ : S) : Prop where
  le : k ≤ n
  r0 : τ.regs 0 = yR L
  r1 : τ.regs 1 = .a (.d (.pt [dI n]))
  r3 : τ.regs 3 = .a (I i)
  r5 : τ.regs 5 = .a (I n)
  r6 : τ.regs 6 = .a (I i)
  r9 : τ.regs 9 = .a (I n)
  r10 : τ.regs 10 = .a (I k)
  fv : fvOf (τ.mem 999999) = some T.toList
  inv : Inv (i * n + k) τ.leave
theorem iter117 (n : Nat) (hn : n ≤ 1000) : IterV Tryd.prog GL 117 [.pt [dI n]] (pairsX n) := by
  refine iter_body (by kernel_rfl) Tryd.func117 rfl rfl (by kernel_rfl) (by kernel_rfl) (by kernel_rfl) fun L T σ Inv Done hI hD hY h0 => ?_
  (refine of_gate ?_; repeat' ((first | (with_reducible refine gate_in ?_) | (with_reducible refine spK_intro ?_ ?_ <;> intro hp) | (with_reducible refine brK_intro ?_ ?_ <;> intro hb <;> try rw [hb]) | (with_reducible refine draw_in (by unfold DrawOk; decide +kernel) ?_) | (with_reducible refine And.intro (by first | omega | (simp only [List.length_map, List.length_take]; omega)) ?_) | fail) <;> try simp only [↓PR, PO, PC, PX, tyI, tyF, tyX, tyL, tyK, tyB, tyE, tyM, tyP, tyQ, Nat.reduceBEq, Nat.reduceAdd, Nat.reduceMul, Nat.reduceSub, Nat.reduceLeDiff, Nat.reduceEqDiff, Nat.reduceLT, Nat.reducePow, Nat.reduceBneDiff, Nat.reduceBNe, Int.reduceBEq, Int.reduceEq, Int.reduceLT, Int.reduceLE, Int.reduceToNat, String.reduceBEq, PI, PY, List.map_cons, List.map_nil]))
  refine awp_loopG (PairI L T n Inv) (n - ·) 0 ⟨_, Ghost.refl _, Nat.zero_le _, ?_, ?_, ?_, ?_, ?_, ?_⟩ ?_
  iterate 5 (· simp only [↓PR, PO, PC, PX, tyI, tyF, tyX, tyL, tyK, tyB, tyE, tyM, tyP, tyQ, Nat.reduceBEq, Nat.reduceAdd, Nat.reduceMul, Nat.reduceSub, Nat.reduceLeDiff, Nat.reduceEqDiff, Nat.reduceLT, Nat.reducePow, Nat.reduceBneDiff, Nat.reduceBNe, Int.reduceBEq, Int.reduceEq, Int.reduceLT, Int.reduceLE, Int.reduceToNat, String.reduceBEq, PI, PY, List.map_cons, List.map_nil]; try rfl)
  · simp only [↓PR, PO, PC, PX, tyI, tyF, tyX, tyL, tyK, tyB, tyE, tyM, tyP, tyQ, Nat.reduceBEq, Nat.reduceAdd, Nat.reduceMul, Nat.reduceSub, Nat.reduceLeDiff, Nat.reduceEqDiff, Nat.reduceLT, Nat.reducePow, Nat.reduceBneDiff, Nat.reduceBNe, Int.reduceBEq, Int.reduceEq, Int.reduceLT, Int.reduceLE, Int.reduceToNat, String.reduceBEq, PI, PY, Nat.zero_mul]; exact h0
  intro i τ hJ
  obtain ⟨hi, r0, r1, r5, r6, fv, inv⟩ := hJ
  (refine of_gate ?_; repeat' ((first | (with_reducible refine gate_in ?_) | (with_reducible refine spK_intro ?_ ?_ <;> intro hp) | (with_reducible refine brK_intro ?_ ?_ <;> intro hb <;> try rw [hb]) | (with_reducible refine draw_in (by unfold DrawOk; decide +kernel) ?_) | (with_reducible refine And.intro (by first | omega | (simp only [List.length_map, List.length_take]; omega)) ?_) | fail) <;> try simp only [↓PR, PO, PC, PX, tyI, tyF, tyX, tyL, tyK, tyB, tyE, tyM, tyP, tyQ, Nat.reduceBEq, Nat.reduceAdd, Nat.reduceMul, Nat.reduceSub, Nat.reduceLeDiff, Nat.reduceEqDiff, Nat.reduceLT, Nat.reducePow, Nat.reduceBneDiff, Nat.reduceBNe, Int.reduceBEq, Int.reduceEq, Int.reduceLT, Int.reduceLE, Int.reduceToNat, String.reduceBEq, PI, PY, r0, r1, r5, r6]))
  · have hil : i < n := by omega
    have hw := wrap_succ (n := n) hil (by simp only [maxLen]; omega)
    refine awp_loopG (PairJ L T n Inv i) (n - ·) 0 ⟨_, Ghost.refl _, Nat.zero_le _, ?_, ?_, ?_, ?_, ?_, ?_, ?_, ?_, ?_⟩ ?_
    iterate 9 (· simp only [↓PR, PO, PC, PX, tyI, tyF, tyX, tyL, tyK, tyB, tyE, tyM, tyP, tyQ, Nat.reduceBEq, Nat.reduceAdd, Nat.reduceMul, Nat.reduceSub, Nat.reduceLeDiff, Nat.reduceEqDiff, Nat.reduceLT, Nat.reducePow, Nat.reduceBneDiff, Nat.reduceBNe, Int.reduceBEq, Int.reduceEq, Int.reduceLT, Int.reduceLE, Int.reduceToNat, String.reduceBEq, PI, PY, r0, r1, r5, r6, fv, Nat.add_zero]; try exact inv)
    intro k τ2 hJ2
    obtain ⟨hk, r0, r1, r3, r5, r6, r9, r10, fv, inv⟩ := hJ2
    (refine of_gate ?_; repeat' ((first | (with_reducible refine gate_in ?_) | (with_reducible refine spK_intro ?_ ?_ <;> intro hp) | (with_reducible refine brK_intro ?_ ?_ <;> intro hb <;> try rw [hb]) | (with_reducible refine draw_in (by unfold DrawOk; decide +kernel) ?_) | (with_reducible refine And.intro (by first | omega | (simp only [List.length_map, List.length_take]; omega)) ?_) | fail) <;> try simp only [↓PR, PO, PC, PX, tyI, tyF, tyX, tyL, tyK, tyB, tyE, tyM, tyP, tyQ, Nat.reduceBEq, Nat.reduceAdd, Nat.reduceMul, Nat.reduceSub, Nat.reduceLeDiff, Nat.reduceEqDiff, Nat.reduceLT, Nat.reducePow, Nat.reduceBneDiff, Nat.reduceBNe, Int.reduceBEq, Int.reduceEq, Int.reduceLT, Int.reduceLE, Int.reduceToNat, String.reduceBEq, PI, PY, r0, r1, r3, r5, r6, r9, r10]))
    · have hkl : k < n := by omega
      have hwk := wrap_succ (n := n) hkl (by simp only [maxLen]; omega)
      refine yield_sem (L := L) (T := T) (x := [I i, I k]) (A' := Inv (i * n + k + 1)) (B' := Done) (by simp only [↓PR, PO, PC, PX, tyI, tyF, tyX, tyL, tyK, tyB, tyE, tyM, tyP, tyQ, Nat.reduceBEq, Nat.reduceAdd, Nat.reduceMul, Nat.reduceSub, Nat.reduceLeDiff, Nat.reduceEqDiff, Nat.reduceLT, Nat.reducePow, Nat.reduceBneDiff, Nat.reduceBNe, Int.reduceBEq, Int.reduceEq, Int.reduceLT, Int.reduceLE, Int.reduceToNat, String.reduceBEq, PI, PY, r0]) (by simp only [↓PR, PO, PC, PX, tyI, tyF, tyX, tyL, tyK, tyB, tyE, tyM, tyP, tyQ, Nat.reduceBEq, Nat.reduceAdd, Nat.reduceMul, Nat.reduceSub, Nat.reduceLeDiff, Nat.reduceEqDiff, Nat.reduceLT, Nat.reducePow, Nat.reduceBneDiff, Nat.reduceBNe, Int.reduceBEq, Int.reduceEq, Int.reduceLT, Int.reduceLE, Int.reduceToNat, String.reduceBEq, PI, PY, r0, r3, r10]; rfl) (by simp only [↓PR, PO, PC, PX, tyI, tyF, tyX, tyL, tyK, tyB, tyE, tyM, tyP, tyQ, Nat.reduceBEq, Nat.reduceAdd, Nat.reduceMul, Nat.reduceSub, Nat.reduceLeDiff, Nat.reduceEqDiff, Nat.reduceLT, Nat.reducePow, Nat.reduceBneDiff, Nat.reduceBNe, Int.reduceBEq, Int.reduceEq, Int.reduceLT, Int.reduceLE, Int.reduceToNat, String.reduceBEq, PI, PY, fv]) (by simp only [PY]; exact hY _ _ _ (pairsX_at hil hkl) inv) (fun σ' hA => ?_) (fun σ' hB => ?_)
      · (refine of_gate ?_; repeat' ((first | (with_reducible refine gate_in ?_) | (with_reducible refine spK_intro ?_ ?_ <;> intro hp) | (with_reducible refine brK_intro ?_ ?_ <;> intro hb <;> try rw [hb]) | (with_reducible refine draw_in (by unfold DrawOk; decide +kernel) ?_) | (with_reducible refine And.intro (by first | omega | (simp only [List.length_map, List.length_take]; omega)) ?_) | fail) <;> try simp only [↓PR, PO, PC, PX, tyI, tyF, tyX, tyL, tyK, tyB, tyE, tyM, tyP, tyQ, Nat.reduceBEq, Nat.reduceAdd, Nat.reduceMul, Nat.reduceSub, Nat.reduceLeDiff, Nat.reduceEqDiff, Nat.reduceLT, Nat.reducePow, Nat.reduceBneDiff, Nat.reduceBNe, Int.reduceBEq, Int.reduceEq, Int.reduceLT, Int.reduceLE, Int.reduceToNat, String.reduceBEq, PI, PY, r0, r1, r3, r5, r6, r9, r10]))
        refine ⟨_, k + 1, Ghost.refl _, ⟨hkl, ?_, ?_, ?_, ?_, ?_, ?_, ?_, ?_, ?_⟩, by omega⟩
        iterate 8 (· simp only [↓PR, PO, PC, PX, tyI, tyF, tyX, tyL, tyK, tyB, tyE, tyM, tyP, tyQ, Nat.reduceBEq, Nat.reduceAdd, Nat.reduceMul, Nat.reduceSub, Nat.reduceLeDiff, Nat.reduceEqDiff, Nat.reduceLT, Nat.reducePow, Nat.reduceBneDiff, Nat.reduceBNe, Int.reduceBEq, Int.reduceEq, Int.reduceLT, Int.reduceLE, Int.reduceToNat, String.reduceBEq, PI, PY, r0, r1, r3, r5, r6, r9, r10, hwk])
        · simp only [↓PR, PO, PC, PX, tyI, tyF, tyX, tyL, tyK, tyB, tyE, tyM, tyP, tyQ, Nat.reduceBEq, Nat.reduceAdd, Nat.reduceMul, Nat.reduceSub, Nat.reduceLeDiff, Nat.reduceEqDiff, Nat.reduceLT, Nat.reducePow, Nat.reduceBneDiff, Nat.reduceBNe, Int.reduceBEq, Int.reduceEq, Int.reduceLT, Int.reduceLE, Int.reduceToNat, String.reduceBEq, PI, PY]; exact hI _ _ hA
      · (refine of_gate ?_; repeat' ((first | (with_reducible refine gate_in ?_) | (with_reducible refine spK_intro ?_ ?_ <;> intro hp) | (with_reducible refine brK_intro ?_ ?_ <;> intro hb <;> try rw [hb]) | (with_reducible refine draw_in (by unfold DrawOk; decide +kernel) ?_) | (with_reducible refine And.intro (by first | omega | (simp only [List.length_map, List.length_take]; omega)) ?_) | fail) <;> try simp only [↓PR, PO, PC, PX, tyI, tyF, tyX, tyL, tyK, tyB, tyE, tyM, tyP, tyQ, Nat.reduceBEq, Nat.reduceAdd, Nat.reduceMul, Nat.reduceSub, Nat.reduceLeDiff, Nat.reduceEqDiff, Nat.reduceLT, Nat.reducePow, Nat.reduceBneDiff, Nat.reduceBNe, Int.reduceBEq, Int.reduceEq, Int.reduceLT, Int.reduceLE, Int.reduceToNat, String.reduceBEq, PI, PY, r0, r1, r3, r5, r6, r9, r10]))
        refine iter_end (.inr rfl) (by simp only [↓PR, PO, PC, PX, tyI, tyF, tyX, tyL, tyK, tyB, tyE, tyM, tyP, tyQ, Nat.reduceBEq, Nat.reduceAdd, Nat.reduceMul, Nat.reduceSub, Nat.reduceLeDiff, Nat.reduceEqDiff, Nat.reduceLT, Nat.reducePow, Nat.reduceBneDiff, Nat.reduceBNe, Int.reduceBEq, Int.reduceEq, Int.reduceLT, Int.reduceLE, Int.reduceToNat, String.reduceBEq, PI, PY]) (.inr ?_)
        simp only [PY]; exact hD _ hB
    · (refine of_gate ?_; repeat' ((first | (with_reducible refine gate_in ?_) | (with_reducible refine spK_intro ?_ ?_ <;> intro hp) | (with_reducible refine brK_intro ?_ ?_ <;> intro hb <;> try rw [hb]) | (with_reducible refine draw_in (by unfold DrawOk; decide +kernel) ?_) | (with_reducible refine And.intro (by first | omega | (simp only [List.length_map, List.length_take]; omega)) ?_) | fail) <;> try simp only [↓PR, PO, PC, PX, tyI, tyF, tyX, tyL, tyK, tyB, tyE, tyM, tyP, tyQ, Nat.reduceBEq, Nat.reduceAdd, Nat.reduceMul, Nat.reduceSub, Nat.reduceLeDiff, Nat.reduceEqDiff, Nat.reduceLT, Nat.reducePow, Nat.reduceBneDiff, Nat.reduceBNe, Int.reduceBEq, Int.reduceEq, Int.reduceLT, Int.reduceLE, Int.reduceToNat, String.reduceBEq, PI, PY, r0, r1, r3, r5, r6]))
      refine ⟨_, i + 1, Ghost.refl _, ⟨hil, ?_, ?_, ?_, ?_, ?_, ?_⟩, by omega⟩
      iterate 5 (· simp only [↓PR, PO, PC, PX, tyI, tyF, tyX, tyL, tyK, tyB, tyE, tyM, tyP, tyQ, Nat.reduceBEq, Nat.reduceAdd, Nat.reduceMul, Nat.reduceSub, Nat.reduceLeDiff, Nat.reduceEqDiff, Nat.reduceLT, Nat.reducePow, Nat.reduceBneDiff, Nat.reduceBNe, Int.reduceBEq, Int.reduceEq, Int.reduceLT, Int.reduceLE, Int.reduceToNat, String.reduceBEq, PI, PY, r0, r1, r3, r5, r6, hw, fv])
      · simp only [↓PR, PO, PC, PX, tyI, tyF, tyX, tyL, tyK, tyB, tyE, tyM, tyP, tyQ, Nat.reduceBEq, Nat.reduceAdd, Nat.reduceMul, Nat.reduceSub, Nat.reduceLeDiff, Nat.reduceEqDiff, Nat.reduceLT, Nat.reducePow, Nat.reduceBneDiff, Nat.reduceBNe, Int.reduceBEq, Int.reduceEq, Int.reduceLT, Int.reduceLE, Int.reduceToNat, String.reduceBEq, PI, PY]
        rw [show (i + 1) * n = i * n + k by rw [Nat.add_mul, Nat.one_mul]; omega]; exact inv
  · refine iter_end (.inl rfl) (by simp only [↓PR, PO, PC, PX, tyI, tyF, tyX, tyL, tyK, tyB, tyE, tyM, tyP, tyQ, Nat.reduceBEq, Nat.reduceAdd, Nat.reduceMul, Nat.reduceSub, Nat.reduceLeDiff, Nat.reduceEqDiff, Nat.reduceLT, Nat.reducePow, Nat.reduceBneDiff, Nat.reduceBNe, Int.reduceBEq, Int.reduceEq, Int.reduceLT, Int.reduceLE, Int.reduceToNat, String.reduceBEq, PI, PY, fv]) (.inl ?_)
    simp only [PY]
    have : (pairsX n).length = i * n := by rw [show i = n by omega]; simp [pairsX]
    rw [this]; exact inv
/-! ### Bits -/
def uenc (n : Nat) : List D := [.v (.int .u32 n)]
theorem uenc_eq (n : Nat) : uenc n = [.v (.int .u32 n)] := rfl
theorem uns_lenT {l : List Nat} : (∀ c ∈ l.map uenc, c.length = 1) = True := eq_true fun c hc => by
  obtain ⟨e, _, rfl⟩ := List.mem_map.1 hc; rfl
abbrev unsA (l : List Nat) : A := .d (.sl (l.map uenc))
abbrev U (n : Nat) : A := .d (.v (.int .u32 n))
/-- Bits of the places of which p holds. -/
def bitsN (p : Nat → Bool) : Nat → Nat
  | 0 => 0
  | m + 1 => bitsN p m + if p m then 2 ^ m else 0
theorem bitsN_lt (p : Nat → Bool) : ∀ m, bitsN p m < 2 ^ m
  | 0 => by simp [bitsN]
  | m + 1 => by
    have := bitsN_lt p m
    simp only [bitsN, Nat.pow_succ]
    split <;> omega
theorem bitsN_or (p : Nat → Bool) (m : Nat) : bitsN p m ||| 2 ^ m = bitsN p m + 2 ^ m := by
  have := Nat.two_pow_add_eq_or_of_lt (bitsN_lt p m) 1
  rw [Nat.mul_one] at this
  rw [Nat.or_comm, ← this, Nat.add_comm]
theorem bitsN_test (p : Nat → Bool) (k : Nat) : ∀ m, (bitsN p m).testBit k = (decide (k < m) && p k)
  | 0 => by simp [bitsN]
  | m + 1 => by
    have h := bitsN_lt p m
    have ih := bitsN_test p k m
    simp only [bitsN]
    cases hp : p m with
    | false =>
      simp only [Bool.false_eq_true, if_false, Nat.add_zero, ih]
      by_cases hk : k = m
      · subst hk; simp [hp]
      · have : (k < m + 1) = (k < m) := by apply propext; omega
        simp [this]
    | true =>
      simp only [if_true]
      rw [← bitsN_or, Nat.testBit_or, ih, Nat.testBit_two_pow]
      by_cases hk : k = m
      · subst hk; simp [hp]
      · have h1 : (k < m + 1) = (k < m) := by apply propext; omega
        have h2 : ¬ m = k := fun e => hk e.symm
        simp [h1, h2]
theorem u32_or {a b : Nat} (ha : a < 2 ^ 32) (hb : b < 2 ^ 32) : IntKind.u32.wrap (BitVec.ofInt IntKind.u32.bits (a : Int) ||| BitVec.ofInt IntKind.u32.bits (b : Int)).toNat = ((a ||| b : Nat) : Int) := by
  have hab : a ||| b < 2 ^ 32 := Nat.or_lt_two_pow ha hb
  have e : (BitVec.ofInt IntKind.u32.bits (a : Int) ||| BitVec.ofInt IntKind.u32.bits (b : Int)).toNat = a ||| b := by
    have h1 : ∀ c : Nat, c < 2 ^ 32 → (BitVec.ofInt IntKind.u32.bits (c : Int)).toNat = c := fun c hc => by
      have : (BitVec.ofInt 32 (c : Int)).toNat = c := by
        rw [BitVec.toNat_ofInt]; omega
      exact this
    rw [BitVec.toNat_or, h1 a ha, h1 b hb]
  rw [e]
  exact u32_in _ (by omega)
theorem u32_shl {k : Nat} (hk : k < 32) : IntKind.u32.wrap ((1 : Int) * 2 ^ (min k IntKind.u32.bits)) = ((2 ^ k : Nat) : Int) := by
  have h1 : min k IntKind.u32.bits = k := by simp only [IntKind.bits]; omega
  have h2 : (2 : Nat) ^ k ≤ 2 ^ 31 := Nat.pow_le_pow_right (by omega) (by omega)
  have h3 : (1 : Int) * 2 ^ k = ((2 ^ k : Nat) : Int) := by rw [Int.one_mul, Int.natCast_pow]; rfl
  rw [h1, h3]
  generalize 2 ^ k = q at h2 ⊢
  exact u32_in _ (by omega)
/-! ### The order of a table -/
def beforeB (l : List Txn) (i k : Nat) : Bool := match l[i]?, l[k]? with
  | some a, some b => decide (2 ≤ a.st) && decide (a.last < b.first)
  | _, _ => false
def afterR (l : List Txn) : List Nat := (List.range l.length).map fun i => bitsN (beforeB l i) l.length
/-- Behind j of the pairs. -/
def rowsAt (l : List Txn) (j : Nat) : List Nat := (List.range l.length).map fun r => bitsN (beforeB l r) (min l.length (j - r * l.length))
theorem rowsAt_0 (l : List Txn) : rowsAt l 0 = List.replicate l.length 0 := by
  refine List.ext_getElem? fun i => ?_
  simp only [rowsAt, List.getElem?_map, List.getElem?_replicate, Nat.zero_sub, Nat.min_zero]
  by_cases hi : i < l.length
  · rw [List.getElem?_range hi, if_pos hi]; rfl
  · rw [List.getElem?_eq_none (by simpa using hi), if_neg hi]; rfl
theorem rowsAt_n (l : List Txn) : rowsAt l (l.length * l.length) = afterR l := by
  unfold rowsAt afterR
  refine List.map_congr_left fun r hr => ?_
  have hr := List.mem_range.1 hr
  have : l.length ≤ l.length * l.length - r * l.length := by
    have h1 : (r + 1) * l.length ≤ l.length * l.length := Nat.mul_le_mul_right _ hr
    rw [Nat.add_mul, Nat.one_mul] at h1; omega
  rw [Nat.min_eq_left this]
theorem rowsAt_len (l : List Txn) (j : Nat) : (rowsAt l j).length = l.length := by simp [rowsAt]
theorem rowsAt_at {l : List Txn} {i k : Nat} (hi : i < l.length) (hk : k < l.length) : (rowsAt l (i * l.length + k))[i]? = some (bitsN (beforeB l i) k) := by
  rw [rowsAt, List.getElem?_map, List.getElem?_range hi, Option.map_some]
  congr 2; omega
theorem rowsAt_s {l : List Txn} {i k : Nat} (hi : i < l.length) (hk : k < l.length) : rowsAt l (i * l.length + k + 1) = (rowsAt l (i * l.length + k)).set i (bitsN (beforeB l i) (k + 1)) := by
  refine List.ext_getElem? fun r => ?_
  rw [List.getElem?_set, rowsAt_len]
  by_cases hr : r < l.length
  · simp only [rowsAt, List.getElem?_map, List.getElem?_range hr, Option.map_some]
    by_cases e : i = r
    · subst e; rw [if_pos rfl, if_pos hi]; congr 2; omega
    · rw [if_neg e]
      congr 2
      rcases Nat.lt_or_gt_of_ne e with h | h
      · have : (i + 1) * l.length ≤ r * l.length := Nat.mul_le_mul_right _ h
        rw [Nat.add_mul, Nat.one_mul] at this; omega
      · have : (r + 1) * l.length ≤ i * l.length := Nat.mul_le_mul_right _ h
        rw [Nat.add_mul, Nat.one_mul] at this; omega
  · rw [List.getElem?_eq_none (by rw [rowsAt_len]; omega)]
    split
    · omega
    · rw [List.getElem?_eq_none (by rw [rowsAt_len]; omega)]
structure AftI (l : List Txn) (j : Nat) (σ : S) : Prop where
  r1 : σ.regs 1 = .ref 1 0
  r3 : σ.regs 3 = .ref 3 0
  m1 : σ.mem 1 = some (.box [.a (txnsA l)])
  m3 : σ.mem 3 = some (.box [.own 8])
  m8 : σ.mem 8 = some (.log 28 1 ((rowsAt l j).map uenc))
theorem pairsX_inv {n j : Nat} {x : List A} (h : (pairsX n)[j]? = some x) : ∃ i k, i < n ∧ k < n ∧ j = i * n + k ∧ x = [I (i : Nat), I (k : Nat)] := by
  unfold pairsX at h
  rw [List.getElem?_map] at h
  obtain ⟨j', hj, rfl⟩ := Option.map_eq_some_iff.1 h
  have hlt := (List.getElem?_eq_some_iff.1 hj).1
  rw [List.getElem?_range (by simpa using hlt)] at hj
  cases hj
  simp only [List.length_range] at hlt
  have hn : 0 < n := by rcases Nat.eq_zero_or_pos n with h | h; · subst h; simp at hlt
                        · exact h
  refine ⟨j / n, j % n, Nat.div_lt_of_lt_mul hlt, Nat.mod_lt _ hn, ?_, rfl⟩
  have := Nat.div_add_mod j n
  rw [Nat.mul_comm]; omega
theorem t57 (l : List Txn) (hl : l.length ≤ 30) : Holds Tryd.prog GL 57 [txnsA l] [.a (unsA (afterR l))] := by
  refine fn_holds (vs := [.tmp 2]) (by kernel_rfl) Tryd.func57 rfl rfl (by kernel_rfl) (by kernel_rfl) rfl ?_
  (refine of_gate ?_; repeat' ((first | (with_reducible refine gate_in ?_) | (with_reducible refine spK_intro ?_ ?_ <;> intro hp) | (with_reducible refine brK_intro ?_ ?_ <;> intro hb <;> try rw [hb]) | (with_reducible refine draw_in (by unfold DrawOk; decide +kernel) ?_) | (with_reducible refine And.intro (by first | omega | (simp only [List.length_map, List.length_take]; omega)) ?_) | fail) <;> try simp only [↓PR, PO, PC, PX, tyI, tyF, tyX, tyL, tyK, tyB, tyE, tyM, tyP, tyQ, Nat.reduceBEq, Nat.reduceAdd, Nat.reduceMul, Nat.reduceSub, Nat.reduceLeDiff, Nat.reduceEqDiff, Nat.reduceLT, Nat.reducePow, Nat.reduceBneDiff, Nat.reduceBNe, Int.reduceBEq, Int.reduceEq, Int.reduceLT, Int.reduceLE, Int.reduceToNat, String.reduceBEq, List.length_map]))
  refine sem_make (e := 28) (ti := ⟨1, 4, false, [.int .u32 0]⟩) (z0 := .int .u32 0) (n := l.length) (by kernel_rfl) (by kernel_rfl) rfl rfl rfl (by simp only [↓PR, PO, PC, PX, tyI, tyF, tyX, tyL, tyK, tyB, tyE, tyM, tyP, tyQ, Nat.reduceBEq, Nat.reduceAdd, Nat.reduceMul, Nat.reduceSub, Nat.reduceLeDiff, Nat.reduceEqDiff, Nat.reduceLT, Nat.reducePow, Nat.reduceBneDiff, Nat.reduceBNe, Int.reduceBEq, Int.reduceEq, Int.reduceLT, Int.reduceLE, Int.reduceToNat, String.reduceBEq]) (by simp only [↓PR, PO, PC, PX, tyI, tyF, tyX, tyL, tyK, tyB, tyE, tyM, tyP, tyQ, Nat.reduceBEq, Nat.reduceAdd, Nat.reduceMul, Nat.reduceSub, Nat.reduceLeDiff, Nat.reduceEqDiff, Nat.reduceLT, Nat.reducePow, Nat.reduceBneDiff, Nat.reduceBNe, Int.reduceBEq, Int.reduceEq, Int.reduceLT, Int.reduceLE, Int.reduceToNat, String.reduceBEq]) (by omega) (by decide) ?_
  (refine of_gate ?_; repeat' ((first | (with_reducible refine gate_in ?_) | (with_reducible refine spK_intro ?_ ?_ <;> intro hp) | (with_reducible refine brK_intro ?_ ?_ <;> intro hb <;> try rw [hb]) | (with_reducible refine draw_in (by unfold DrawOk; decide +kernel) ?_) | (with_reducible apply c91) | (with_reducible refine And.intro (by first | omega | (simp only [List.length_map, List.length_take]; omega)) ?_) | fail) <;> try simp only [↓PR, PO, PC, PX, tyI, tyF, tyX, tyL, tyK, tyB, tyE, tyM, tyP, tyQ, Nat.reduceBEq, Nat.reduceAdd, Nat.reduceMul, Nat.reduceSub, Nat.reduceLeDiff, Nat.reduceEqDiff, Nat.reduceLT, Nat.reducePow, Nat.reduceBneDiff, Nat.reduceBNe, Int.reduceBEq, Int.reduceEq, Int.reduceLT, Int.reduceLE, Int.reduceToNat, String.reduceBEq, List.length_map]))
  refine range_sem (AftI l) (fun _ _ => False) (by simp only [↓PR, PO, PC, PX, tyI, tyF, tyX, tyL, tyK, tyB, tyE, tyM, tyP, tyQ, Nat.reduceBEq, Nat.reduceAdd, Nat.reduceMul, Nat.reduceSub, Nat.reduceLeDiff, Nat.reduceEqDiff, Nat.reduceLT, Nat.reducePow, Nat.reduceBneDiff, Nat.reduceBNe, Int.reduceBEq, Int.reduceEq, Int.reduceLT, Int.reduceLE, Int.reduceToNat, String.reduceBEq]) (iter117 l.length (by omega)) (fun x hx => ?_) (by kernel_rfl) (by kernel_rfl) (fun j τ h => ?_) (fun _ _ h => h) (fun L r => ?_) (fun L T r j x τ hr hx hI hrec => ?_) (fun τ hI => ?_) (fun _ _ h => h.elim)
  · obtain ⟨j, hj⟩ := List.getElem?_of_mem hx
    obtain ⟨i, k, _, _, _, rfl⟩ := pairsX_inv hj; rfl
  · obtain ⟨r1, r3, m1, m3, m8⟩ := h
    exact ⟨by simp only [↓PR, PO, PC, PX, tyI, tyF, tyX, tyL, tyK, tyB, tyE, tyM, tyP, tyQ, Nat.reduceBEq, Nat.reduceAdd, Nat.reduceMul, Nat.reduceSub, Nat.reduceLeDiff, Nat.reduceEqDiff, Nat.reduceLT, Nat.reducePow, Nat.reduceBneDiff, Nat.reduceBNe, Int.reduceBEq, Int.reduceEq, Int.reduceLT, Int.reduceLE, Int.reduceToNat, String.reduceBEq, PI, ud_r, r1], by simp only [↓PR, PO, PC, PX, tyI, tyF, tyX, tyL, tyK, tyB, tyE, tyM, tyP, tyQ, Nat.reduceBEq, Nat.reduceAdd, Nat.reduceMul, Nat.reduceSub, Nat.reduceLeDiff, Nat.reduceEqDiff, Nat.reduceLT, Nat.reducePow, Nat.reduceBneDiff, Nat.reduceBNe, Int.reduceBEq, Int.reduceEq, Int.reduceLT, Int.reduceLE, Int.reduceToNat, String.reduceBEq, PI, ud_r, r3], by rw [ud_m rfl, m1]; simp only [↓PR, PO, PC, PX, tyI, tyF, tyX, tyL, tyK, tyB, tyE, tyM, tyP, tyQ, Nat.reduceBEq, Nat.reduceAdd, Nat.reduceMul, Nat.reduceSub, Nat.reduceLeDiff, Nat.reduceEqDiff, Nat.reduceLT, Nat.reducePow, Nat.reduceBneDiff, Nat.reduceBNe, Int.reduceBEq, Int.reduceEq, Int.reduceLT, Int.reduceLE, Int.reduceToNat, String.reduceBEq, PI], by rw [ud_m rfl, m3]; simp only [↓PR, PO, PC, PX, tyI, tyF, tyX, tyL, tyK, tyB, tyE, tyM, tyP, tyQ, Nat.reduceBEq, Nat.reduceAdd, Nat.reduceMul, Nat.reduceSub, Nat.reduceLeDiff, Nat.reduceEqDiff, Nat.reduceLT, Nat.reducePow, Nat.reduceBneDiff, Nat.reduceBNe, Int.reduceBEq, Int.reduceEq, Int.reduceLT, Int.reduceLE, Int.reduceToNat, String.reduceBEq, PI], by rw [ud_m rfl, m8]; simp only [↓PR, PO, PC, PX, tyI, tyF, tyX, tyL, tyK, tyB, tyE, tyM, tyP, tyQ, Nat.reduceBEq, Nat.reduceAdd, Nat.reduceMul, Nat.reduceSub, Nat.reduceLeDiff, Nat.reduceEqDiff, Nat.reduceLT, Nat.reducePow, Nat.reduceBneDiff, Nat.reduceBNe, Int.reduceBEq, Int.reduceEq, Int.reduceLT, Int.reduceLE, Int.reduceToNat, String.reduceBEq, PI]⟩
  · refine ⟨by simp only [↓PR, PO, PC, PX, tyI, tyF, tyX, tyL, tyK, tyB, tyE, tyM, tyP, tyQ, Nat.reduceBEq, Nat.reduceAdd, Nat.reduceMul, Nat.reduceSub, Nat.reduceLeDiff, Nat.reduceEqDiff, Nat.reduceLT, Nat.reducePow, Nat.reduceBneDiff, Nat.reduceBNe, Int.reduceBEq, Int.reduceEq, Int.reduceLT, Int.reduceLE, Int.reduceToNat, String.reduceBEq], by simp only [↓PR, PO, PC, PX, tyI, tyF, tyX, tyL, tyK, tyB, tyE, tyM, tyP, tyQ, Nat.reduceBEq, Nat.reduceAdd, Nat.reduceMul, Nat.reduceSub, Nat.reduceLeDiff, Nat.reduceEqDiff, Nat.reduceLT, Nat.reducePow, Nat.reduceBneDiff, Nat.reduceBNe, Int.reduceBEq, Int.reduceEq, Int.reduceLT, Int.reduceLE, Int.reduceToNat, String.reduceBEq], by simp only [↓PR, PO, PC, PX, tyI, tyF, tyX, tyL, tyK, tyB, tyE, tyM, tyP, tyQ, Nat.reduceBEq, Nat.reduceAdd, Nat.reduceMul, Nat.reduceSub, Nat.reduceLeDiff, Nat.reduceEqDiff, Nat.reduceLT, Nat.reducePow, Nat.reduceBneDiff, Nat.reduceBNe, Int.reduceBEq, Int.reduceEq, Int.reduceLT, Int.reduceLE, Int.reduceToNat, String.reduceBEq], by simp only [↓PR, PO, PC, PX, tyI, tyF, tyX, tyL, tyK, tyB, tyE, tyM, tyP, tyQ, Nat.reduceBEq, Nat.reduceAdd, Nat.reduceMul, Nat.reduceSub, Nat.reduceLeDiff, Nat.reduceEqDiff, Nat.reduceLT, Nat.reducePow, Nat.reduceBneDiff, Nat.reduceBNe, Int.reduceBEq, Int.reduceEq, Int.reduceLT, Int.reduceLE, Int.reduceToNat, String.reduceBEq], ?_⟩
    simp only [↓PR, PO, PC, PX, tyI, tyF, tyX, tyL, tyK, tyB, tyE, tyM, tyP, tyQ, Nat.reduceBEq, Nat.reduceAdd, Nat.reduceMul, Nat.reduceSub, Nat.reduceLeDiff, Nat.reduceEqDiff, Nat.reduceLT, Nat.reducePow, Nat.reduceBneDiff, Nat.reduceBNe, Int.reduceBEq, Int.reduceEq, Int.reduceLT, Int.reduceLE, Int.reduceToNat, String.reduceBEq, rowsAt_0]
    simp [uenc]
  · obtain ⟨i, k, hi, hk, rfl, rfl⟩ := pairsX_inv hx
    obtain ⟨r1, r3, m1, m3, m8⟩ := hI
    have ha : l[i]? = some l[i] := List.getElem?_eq_getElem hi
    have hb : l[k]? = some l[k] := List.getElem?_eq_getElem hk
    have hbe : beforeB l i k = (decide (2 ≤ l[i].st) && decide (l[i].last < l[k].first)) := by simp only [beforeB, ha, hb]
    have hra := rowsAt_at hi hk
    have hrs := rowsAt_s hi hk
    have hrl := rowsAt_len l (i * l.length + k)
    have hsame : beforeB l i k = false → rowsAt l (i * l.length + k + 1) = rowsAt l (i * l.length + k) := fun h => by
      rw [hrs, bitsN, h]
      refine List.ext_getElem? fun q => ?_
      rw [List.getElem?_set]
      split
      · rename_i e; subst e; rw [if_pos (by omega), hra]; simp
      · rfl
    generalize l[i] = a at ha hbe
    generalize l[k] = b at hb hbe
    have hlt1 := bitsN_lt (beforeB l i) k
    have hk32 : k < 32 := by omega
    have hlt2 : bitsN (beforeB l i) k < 2 ^ 32 := Nat.lt_of_lt_of_le hlt1 (Nat.pow_le_pow_right (by omega) (by omega))
    have hlt3 : 2 ^ k < 2 ^ 32 := Nat.pow_lt_pow_right (by omega) hk32
    (refine of_gate ?_; repeat' ((first | (with_reducible refine gate_in ?_) | (with_reducible refine spK_intro ?_ ?_ <;> intro hp) | (with_reducible refine brK_intro ?_ ?_ <;> intro hb <;> try rw [hb]) | (with_reducible refine draw_in (by unfold DrawOk; decide +kernel) ?_) | (with_reducible refine And.intro (by first | omega | (simp only [List.length_map, List.length_take]; omega)) ?_) | fail) <;> try simp only [↓PR, PO, PC, PX, tyI, tyF, tyX, tyL, tyK, tyB, tyE, tyM, tyP, tyQ, Nat.reduceBEq, Nat.reduceAdd, Nat.reduceMul, Nat.reduceSub, Nat.reduceLeDiff, Nat.reduceEqDiff, Nat.reduceLT, Nat.reducePow, Nat.reduceBneDiff, Nat.reduceBNe, Int.reduceBEq, Int.reduceEq, Int.reduceLT, Int.reduceLE, Int.reduceToNat, String.reduceBEq, PF, r1, r3, m1, m3, m8, hrec, ha, hb, Txn.enc_eq]))
    · have hbt : beforeB l i k = true := by rw [hbe, decide_eq_true (show 2 ≤ a.st by omega), decide_eq_true ‹a.last < b.first›]; rfl
      have hor : bitsN (beforeB l i) k ||| 2 ^ k = bitsN (beforeB l i) (k + 1) := by rw [bitsN_or, bitsN, hbt]; rfl
      (refine of_gate ?_; repeat' ((first | (with_reducible refine gate_in ?_) | (with_reducible refine spK_intro ?_ ?_ <;> intro hp) | (with_reducible refine brK_intro ?_ ?_ <;> intro hb <;> try rw [hb]) | (with_reducible refine draw_in (by unfold DrawOk; decide +kernel) ?_) | (with_reducible refine And.intro (by first | omega | (simp only [List.length_map, List.length_take]; omega)) ?_) | fail) <;> try simp only [↓PR, PO, PC, PX, tyI, tyF, tyX, tyL, tyK, tyB, tyE, tyM, tyP, tyQ, Nat.reduceBEq, Nat.reduceAdd, Nat.reduceMul, Nat.reduceSub, Nat.reduceLeDiff, Nat.reduceEqDiff, Nat.reduceLT, Nat.reducePow, Nat.reduceBneDiff, Nat.reduceBNe, Int.reduceBEq, Int.reduceEq, Int.reduceLT, Int.reduceLE, Int.reduceToNat, String.reduceBEq, PF, r1, r3, m1, m3, m8, hrec, hra, uenc_eq, u32_shl hk32, u32_or hlt2 hlt3, hor]))
      have hy : ((rowsAt l (i * l.length + k)).map uenc)[i]? = some (uenc (bitsN (beforeB l i) k)) := by rw [List.getElem?_map, hra]; rfl
      rw [st_eref_one (sz := 1) (j := 0) (ti := ⟨1, 4, false, [.int .u32 0]⟩) (e := 28) (xs := (rowsAt l (i * l.length + k)).map uenc) (by kernel_rfl) (by simp only [↓PR, PO, PC, PX, tyI, tyF, tyX, tyL, tyK, tyB, tyE, tyM, tyP, tyQ, Nat.reduceBEq, Nat.reduceAdd, Nat.reduceMul, Nat.reduceSub, Nat.reduceLeDiff, Nat.reduceEqDiff, Nat.reduceLT, Nat.reducePow, Nat.reduceBneDiff, Nat.reduceBNe, Int.reduceBEq, Int.reduceEq, Int.reduceLT, Int.reduceLE, Int.reduceToNat, String.reduceBEq, PF, m8]) hy rfl (by omega) rfl]
      (refine of_gate ?_; repeat' ((first | (with_reducible refine gate_in ?_) | (with_reducible refine spK_intro ?_ ?_ <;> intro hp) | (with_reducible refine brK_intro ?_ ?_ <;> intro hb <;> try rw [hb]) | (with_reducible refine draw_in (by unfold DrawOk; decide +kernel) ?_) | (with_reducible refine And.intro (by first | omega | (simp only [List.length_map, List.length_take]; omega)) ?_) | fail) <;> try simp only [↓PR, PO, PC, PX, tyI, tyF, tyX, tyL, tyK, tyB, tyE, tyM, tyP, tyQ, Nat.reduceBEq, Nat.reduceAdd, Nat.reduceMul, Nat.reduceSub, Nat.reduceLeDiff, Nat.reduceEqDiff, Nat.reduceLT, Nat.reducePow, Nat.reduceBneDiff, Nat.reduceBNe, Int.reduceBEq, Int.reduceEq, Int.reduceLT, Int.reduceLE, Int.reduceToNat, String.reduceBEq, PF, r1, r3, m1, m3, m8, hrec]))
      refine ⟨by simp only [↓PR, PO, PC, PX, tyI, tyF, tyX, tyL, tyK, tyB, tyE, tyM, tyP, tyQ, Nat.reduceBEq, Nat.reduceAdd, Nat.reduceMul, Nat.reduceSub, Nat.reduceLeDiff, Nat.reduceEqDiff, Nat.reduceLT, Nat.reducePow, Nat.reduceBneDiff, Nat.reduceBNe, Int.reduceBEq, Int.reduceEq, Int.reduceLT, Int.reduceLE, Int.reduceToNat, String.reduceBEq, PF, r1], by simp only [↓PR, PO, PC, PX, tyI, tyF, tyX, tyL, tyK, tyB, tyE, tyM, tyP, tyQ, Nat.reduceBEq, Nat.reduceAdd, Nat.reduceMul, Nat.reduceSub, Nat.reduceLeDiff, Nat.reduceEqDiff, Nat.reduceLT, Nat.reducePow, Nat.reduceBneDiff, Nat.reduceBNe, Int.reduceBEq, Int.reduceEq, Int.reduceLT, Int.reduceLE, Int.reduceToNat, String.reduceBEq, PF, r3], by simp only [↓PR, PO, PC, PX, tyI, tyF, tyX, tyL, tyK, tyB, tyE, tyM, tyP, tyQ, Nat.reduceBEq, Nat.reduceAdd, Nat.reduceMul, Nat.reduceSub, Nat.reduceLeDiff, Nat.reduceEqDiff, Nat.reduceLT, Nat.reducePow, Nat.reduceBneDiff, Nat.reduceBNe, Int.reduceBEq, Int.reduceEq, Int.reduceLT, Int.reduceLE, Int.reduceToNat, String.reduceBEq, PF, m1], by simp only [↓PR, PO, PC, PX, tyI, tyF, tyX, tyL, tyK, tyB, tyE, tyM, tyP, tyQ, Nat.reduceBEq, Nat.reduceAdd, Nat.reduceMul, Nat.reduceSub, Nat.reduceLeDiff, Nat.reduceEqDiff, Nat.reduceLT, Nat.reducePow, Nat.reduceBneDiff, Nat.reduceBNe, Int.reduceBEq, Int.reduceEq, Int.reduceLT, Int.reduceLE, Int.reduceToNat, String.reduceBEq, PF, m3], ?_⟩
      simp only [↓PR, PO, PC, PX, tyI, tyF, tyX, tyL, tyK, tyB, tyE, tyM, tyP, tyQ, Nat.reduceBEq, Nat.reduceAdd, Nat.reduceMul, Nat.reduceSub, Nat.reduceLeDiff, Nat.reduceEqDiff, Nat.reduceLT, Nat.reducePow, Nat.reduceBneDiff, Nat.reduceBNe, Int.reduceBEq, Int.reduceEq, Int.reduceLT, Int.reduceLE, Int.reduceToNat, String.reduceBEq, PF, hrs, List.map_set]; rfl
    · have hbf := hsame (by rw [hbe, decide_eq_false ‹¬ a.last < b.first›, Bool.and_false])
      exact ⟨by simp only [↓PR, PO, PC, PX, tyI, tyF, tyX, tyL, tyK, tyB, tyE, tyM, tyP, tyQ, Nat.reduceBEq, Nat.reduceAdd, Nat.reduceMul, Nat.reduceSub, Nat.reduceLeDiff, Nat.reduceEqDiff, Nat.reduceLT, Nat.reducePow, Nat.reduceBneDiff, Nat.reduceBNe, Int.reduceBEq, Int.reduceEq, Int.reduceLT, Int.reduceLE, Int.reduceToNat, String.reduceBEq, PF, r1], by simp only [↓PR, PO, PC, PX, tyI, tyF, tyX, tyL, tyK, tyB, tyE, tyM, tyP, tyQ, Nat.reduceBEq, Nat.reduceAdd, Nat.reduceMul, Nat.reduceSub, Nat.reduceLeDiff, Nat.reduceEqDiff, Nat.reduceLT, Nat.reducePow, Nat.reduceBneDiff, Nat.reduceBNe, Int.reduceBEq, Int.reduceEq, Int.reduceLT, Int.reduceLE, Int.reduceToNat, String.reduceBEq, PF, r3], by simp only [↓PR, PO, PC, PX, tyI, tyF, tyX, tyL, tyK, tyB, tyE, tyM, tyP, tyQ, Nat.reduceBEq, Nat.reduceAdd, Nat.reduceMul, Nat.reduceSub, Nat.reduceLeDiff, Nat.reduceEqDiff, Nat.reduceLT, Nat.reducePow, Nat.reduceBneDiff, Nat.reduceBNe, Int.reduceBEq, Int.reduceEq, Int.reduceLT, Int.reduceLE, Int.reduceToNat, String.reduceBEq, PF, m1], by simp only [↓PR, PO, PC, PX, tyI, tyF, tyX, tyL, tyK, tyB, tyE, tyM, tyP, tyQ, Nat.reduceBEq, Nat.reduceAdd, Nat.reduceMul, Nat.reduceSub, Nat.reduceLeDiff, Nat.reduceEqDiff, Nat.reduceLT, Nat.reducePow, Nat.reduceBneDiff, Nat.reduceBNe, Int.reduceBEq, Int.reduceEq, Int.reduceLT, Int.reduceLE, Int.reduceToNat, String.reduceBEq, PF, m3], by simp only [↓PR, PO, PC, PX, tyI, tyF, tyX, tyL, tyK, tyB, tyE, tyM, tyP, tyQ, Nat.reduceBEq, Nat.reduceAdd, Nat.reduceMul, Nat.reduceSub, Nat.reduceLeDiff, Nat.reduceEqDiff, Nat.reduceLT, Nat.reducePow, Nat.reduceBneDiff, Nat.reduceBNe, Int.reduceBEq, Int.reduceEq, Int.reduceLT, Int.reduceLE, Int.reduceToNat, String.reduceBEq, PF, m8, hbf]⟩
    · have hbf := hsame (by rw [hbe, decide_eq_false (show ¬ 2 ≤ a.st by omega), Bool.false_and])
      exact ⟨by simp only [↓PR, PO, PC, PX, tyI, tyF, tyX, tyL, tyK, tyB, tyE, tyM, tyP, tyQ, Nat.reduceBEq, Nat.reduceAdd, Nat.reduceMul, Nat.reduceSub, Nat.reduceLeDiff, Nat.reduceEqDiff, Nat.reduceLT, Nat.reducePow, Nat.reduceBneDiff, Nat.reduceBNe, Int.reduceBEq, Int.reduceEq, Int.reduceLT, Int.reduceLE, Int.reduceToNat, String.reduceBEq, PF, r1], by simp only [↓PR, PO, PC, PX, tyI, tyF, tyX, tyL, tyK, tyB, tyE, tyM, tyP, tyQ, Nat.reduceBEq, Nat.reduceAdd, Nat.reduceMul, Nat.reduceSub, Nat.reduceLeDiff, Nat.reduceEqDiff, Nat.reduceLT, Nat.reducePow, Nat.reduceBneDiff, Nat.reduceBNe, Int.reduceBEq, Int.reduceEq, Int.reduceLT, Int.reduceLE, Int.reduceToNat, String.reduceBEq, PF, r3], by simp only [↓PR, PO, PC, PX, tyI, tyF, tyX, tyL, tyK, tyB, tyE, tyM, tyP, tyQ, Nat.reduceBEq, Nat.reduceAdd, Nat.reduceMul, Nat.reduceSub, Nat.reduceLeDiff, Nat.reduceEqDiff, Nat.reduceLT, Nat.reducePow, Nat.reduceBneDiff, Nat.reduceBNe, Int.reduceBEq, Int.reduceEq, Int.reduceLT, Int.reduceLE, Int.reduceToNat, String.reduceBEq, PF, m1], by simp only [↓PR, PO, PC, PX, tyI, tyF, tyX, tyL, tyK, tyB, tyE, tyM, tyP, tyQ, Nat.reduceBEq, Nat.reduceAdd, Nat.reduceMul, Nat.reduceSub, Nat.reduceLeDiff, Nat.reduceEqDiff, Nat.reduceLT, Nat.reducePow, Nat.reduceBneDiff, Nat.reduceBNe, Int.reduceBEq, Int.reduceEq, Int.reduceLT, Int.reduceLE, Int.reduceToNat, String.reduceBEq, PF, m3], by simp only [↓PR, PO, PC, PX, tyI, tyF, tyX, tyL, tyK, tyB, tyE, tyM, tyP, tyQ, Nat.reduceBEq, Nat.reduceAdd, Nat.reduceMul, Nat.reduceSub, Nat.reduceLeDiff, Nat.reduceEqDiff, Nat.reduceLT, Nat.reducePow, Nat.reduceBneDiff, Nat.reduceBNe, Int.reduceBEq, Int.reduceEq, Int.reduceLT, Int.reduceLE, Int.reduceToNat, String.reduceBEq, PF, m8, hbf]⟩
  · obtain ⟨r1, r3, m1, m3, m8⟩ := hI
    have hpl : (pairsX l.length).length = l.length * l.length := by simp [pairsX]
    rw [hpl, rowsAt_n] at m8
    (refine of_gate ?_; repeat' ((first | (with_reducible refine gate_in ?_) | (with_reducible refine spK_intro ?_ ?_ <;> intro hp) | (with_reducible refine brK_intro ?_ ?_ <;> intro hb <;> try rw [hb]) | (with_reducible refine draw_in (by unfold DrawOk; decide +kernel) ?_) | (with_reducible refine And.intro (by first | omega | (simp only [List.length_map, List.length_take]; omega)) ?_) | fail) <;> try simp only [↓PR, PO, PC, PX, tyI, tyF, tyX, tyL, tyK, tyB, tyE, tyM, tyP, tyQ, Nat.reduceBEq, Nat.reduceAdd, Nat.reduceMul, Nat.reduceSub, Nat.reduceLeDiff, Nat.reduceEqDiff, Nat.reduceLT, Nat.reducePow, Nat.reduceBneDiff, Nat.reduceBNe, Int.reduceBEq, Int.reduceEq, Int.reduceLT, Int.reduceLE, Int.reduceToNat, String.reduceBEq, PF, r1, r3, m1, m3, m8]))
theorem tabD_txns (h : List Ev) : (.d (.sl (tabD h)) : A) = txnsA (txns h) := by
  unfold tabD txns
  split
  · rw [txnsA, List.map_map]; rfl
  · rfl
theorem c56 {h : List Ev} {dst : Option Tmp} {σ : S} {K : S → Prop} (hK : S.ret σ dst [.a (txnsA (txns h)), .a (I (checkE h))] K) : callV Tryd.prog GL 56 [.a (evsA h)] dst σ K := call_dat (t56 h) (by rw [tabD_txns]; exact hK)
/-- What After answers. -/
def aftersV (h : List Ev) : List Nat := if checkE h = 0 then afterR (txns h) else []
theorem txns_len6 (h : List Ev) : (txns h).length ≤ 6 := by
  unfold txns
  split
  · rename_i h0
    have T := tabT (check_wfl h0) h.length (Nat.le_refl _)
    have hn := T.names
    rw [List.take_length] at hn
    have : ((tabAt h h.length).map Kp.name).length = (namesE h).length := by rw [hn]
    rw [List.length_map] at this
    have hr : rightH h = true := by
      cases hr : rightH h with
      | true => rfl
      | false => rw [check_arg.2 hr] at h0; cases h0
    simp only [rightH, Bool.and_eq_true, decide_eq_true_eq] at hr
    rw [List.length_map]
    show (tabAt h h.length).length ≤ 6
    omega
  · simp
theorem t15 (h : List Ev) : Holds Tryd.prog GL 15 [evsA h] [.a (unsA (aftersV h)), .a (I (checkE h))] := by
  refine fn_holds (vs := [.tmp 2, .tmp 3]) (by kernel_rfl) Tryd.func15 rfl rfl (by kernel_rfl) (by kernel_rfl) rfl ?_
  (refine of_gate ?_; repeat' ((first | (with_reducible refine gate_in ?_) | (with_reducible refine spK_intro ?_ ?_ <;> intro hp) | (with_reducible refine brK_intro ?_ ?_ <;> intro hb <;> try rw [hb]) | (with_reducible refine draw_in (by unfold DrawOk; decide +kernel) ?_) | (with_reducible apply c56) | (with_reducible refine And.intro (by first | omega | (simp only [List.length_map, List.length_take]; omega)) ?_) | fail) <;> try simp only [↓PR, PO, PC, PX, tyI, tyF, tyX, tyL, tyK, tyB, tyE, tyM, tyP, tyQ, Nat.reduceBEq, Nat.reduceAdd, Nat.reduceMul, Nat.reduceSub, Nat.reduceLeDiff, Nat.reduceEqDiff, Nat.reduceLT, Nat.reducePow, Nat.reduceBneDiff, Nat.reduceBNe, Int.reduceBEq, Int.reduceEq, Int.reduceLT, Int.reduceLE, Int.reduceToNat, String.reduceBEq]))
  · have h0 : checkE h = 0 := ‹_›
    refine call_dat (t57 (txns h) (by have := txns_len6 h; omega)) ?_
    (refine of_gate ?_; repeat' ((first | (with_reducible refine gate_in ?_) | (with_reducible refine spK_intro ?_ ?_ <;> intro hp) | (with_reducible refine brK_intro ?_ ?_ <;> intro hb <;> try rw [hb]) | (with_reducible refine draw_in (by unfold DrawOk; decide +kernel) ?_) | (with_reducible refine And.intro (by first | omega | (simp only [List.length_map, List.length_take]; omega)) ?_) | fail) <;> try simp only [↓PR, PO, PC, PX, tyI, tyF, tyX, tyL, tyK, tyB, tyE, tyM, tyP, tyQ, Nat.reduceBEq, Nat.reduceAdd, Nat.reduceMul, Nat.reduceSub, Nat.reduceLeDiff, Nat.reduceEqDiff, Nat.reduceLT, Nat.reducePow, Nat.reduceBneDiff, Nat.reduceBNe, Int.reduceBEq, Int.reduceEq, Int.reduceLT, Int.reduceLE, Int.reduceToNat, String.reduceBEq]))
    simp [aftersV, h0]
  · have h0 : ¬ checkE h = 0 := ‹_›
    simp [aftersV, h0]
theorem c15 {h : List Ev} {dst : Option Tmp} {σ : S} {K : S → Prop} (hK : S.ret σ dst [.a (unsA (aftersV h)), .a (I (checkE h))] K) : callV Tryd.prog GL 15 [.a (evsA h)] dst σ K :=
  call_dat (t15 h) hK
theorem q15 {h : List Ev} {σ : S} {KR : R → Prop} (hK : KR (retR [(unsA (aftersV h)), (I (checkE h))])) : callVQ Tryd.prog GL 15 [.a (evsA h)] σ KR :=
  callQ_dat (res := [(unsA (aftersV h)), (I (checkE h))]) (t15 h) hK
/-- Two transactions. -/
def aliveO : List Ev := [⟨0, 1, 0, 0⟩, ⟨9, 1, 0, 0⟩, ⟨0, 2, 0, 0⟩]
theorem aliveO_e : checkE aliveO = 0 := by decide +kernel
theorem aliveO_v : aftersV aliveO = [2, 0] := by decide +kernel
theorem t16 : Holds Tryd.prog GL 16 [] [.a (B true)] := by
  refine fn_holds (vs := [.tmp 0]) (by kernel_rfl) Tryd.func16 rfl rfl (by kernel_rfl) (by kernel_rfl) rfl ?_
  (refine of_gate ?_; repeat' ((first | (with_reducible refine gate_in ?_) | (with_reducible refine spK_intro ?_ ?_ <;> intro hp) | (with_reducible refine brK_intro ?_ ?_ <;> intro hb <;> try rw [hb]) | (with_reducible refine draw_in (by unfold DrawOk; decide +kernel) ?_) | (with_reducible refine And.intro (by first | omega | (simp only [List.length_map, List.length_take]; omega)) ?_) | fail) <;> try simp only [↓PR, PO, PC, PX, tyI, tyF, tyX, tyL, tyK, tyB, tyE, tyM, tyP, tyQ, Nat.reduceBEq, Nat.reduceAdd, Nat.reduceMul, Nat.reduceSub, Nat.reduceLeDiff, Nat.reduceEqDiff, Nat.reduceLT, Nat.reducePow, Nat.reduceBneDiff, Nat.reduceBNe, Int.reduceBEq, Int.reduceEq, Int.reduceLT, Int.reduceLE, Int.reduceToNat, String.reduceBEq]))
  refine call_rest _ (t15 aliveO) ?_
  rw [aliveO_e, aliveO_v]
  simp only [↓PR, PO, PC, PX, tyI, tyF, tyX, tyL, tyK, tyB, tyE, tyM, tyP, tyQ, Nat.reduceBEq, Nat.reduceAdd, Nat.reduceMul, Nat.reduceSub, Nat.reduceLeDiff, Nat.reduceEqDiff, Nat.reduceLT, Nat.reducePow, Nat.reduceBneDiff, Nat.reduceBNe, Int.reduceBEq, Int.reduceEq, Int.reduceLT, Int.reduceLE, Int.reduceToNat, String.reduceBEq, aliveO, Ev.enc_eq]
  refine ⟨rfl, ?_⟩
  (refine of_gate ?_; repeat' ((first | (with_reducible refine gate_in ?_) | (with_reducible refine spK_intro ?_ ?_ <;> intro hp) | (with_reducible refine brK_intro ?_ ?_ <;> intro hb <;> try rw [hb]) | (with_reducible refine draw_in (by unfold DrawOk; decide +kernel) ?_) | (with_reducible refine And.intro (by first | omega | (simp only [List.length_map, List.length_take]; omega)) ?_) | fail) <;> try simp only [↓PR, PO, PC, PX, tyI, tyF, tyX, tyL, tyK, tyB, tyE, tyM, tyP, tyQ, Nat.reduceBEq, Nat.reduceAdd, Nat.reduceMul, Nat.reduceSub, Nat.reduceLeDiff, Nat.reduceEqDiff, Nat.reduceLT, Nat.reducePow, Nat.reduceBneDiff, Nat.reduceBNe, Int.reduceBEq, Int.reduceEq, Int.reduceLT, Int.reduceLE, Int.reduceToNat, String.reduceBEq, uenc_eq, List.map_cons, List.map_nil]))
  all_goals simp_all
theorem c16 {dst : Option Tmp} {σ : S} {K : S → Prop} (hK : S.ret σ dst [.a (B true)] K) : callV Tryd.prog GL 16 [] dst σ K := call_dat t16 hK
end Go.VC
