/- Closures over variables of their makers: law 7's third. -/
import Derived.Test.YtjmbgnncokeliaaDoorVOc
set_option maxRecDepth 100000
set_option linter.unusedSimpArgs false
set_option linter.unusedVariables false
namespace Go.VC
open Go.RowKit Go.Proofs Go.IntWalk
section
variable {P : Program} {gl : Nat → Option (List D)} {σ : S} {K : S → Prop} {dst : Option Tmp} {ty : TypeId} {pos : String} {after : Array Edge} {g : Option (Nat × Bool)}
/-- A closure over variables is made. -/
theorem sem_clo {f : FuncId} {l : List Operand} {caps : List (Nat × Nat)} (he : l.map (σ.eval gl) = caps.map fun c => .ref c.1 c.2) (hk : K (σ.put dst (.clo f caps))) : SemOp P gl ⟨dst, .makeFunc (.func f) #[] l.toArray, ty, pos, after, g⟩ σ K := by
  intro c β a w hP hgl hs hd
  subst hP; subst hgl
  refine Run.val (v := .func (.func f) #[] (l.map a.eval).toArray) (w' := w) (fun _ e => by cases e) ?_ ⟨_, β, hk, hs.put hd (.clo ⟨?_, fun i v cp hv hc => ?_⟩)⟩
  · simp [execOp, Instr.makeFunc]
  · have := congrArg List.length he
    simpa using this
  · rw [List.getElem?_map] at hv
    obtain ⟨x, hx, rfl⟩ := Option.map_eq_some_iff.1 hv
    have h1 := congrArg (·[i]?) he
    simp only [List.getElem?_map, hx, hc, Option.map_some, Option.some.injEq] at h1
    have h2 := hs.eval x
    rw [h1] at h2
    obtain ⟨b, hb, e⟩ := h2.inv_ref
    exact ⟨b, hb, e⟩
end
/-- What a closure's call keeps of its caller, but for the variable n. -/
structure KeepsC (vs : List Value) (n : Nat) (σ0 σ : S) : Prop where
  fr : σ.mem 999999 = some (.frame vs (upF σ0.regs))
  ob : ∀ o x, (o == n) = false → decide (o < 900000000) = true → σ0.mem o = some x → σ.mem (upId o) = some x.up
structure LeftC (n : Nat) (σ σ' : S) : Prop where
  r : ∀ {t : Nat} {r : R}, σ.regs t = r → r.up.down = r → σ'.regs t = r
  m : ∀ {o : Nat} {x : Ob}, (o == n) = false → decide (o < 900000000) = true → σ.mem o = some x → x.up.down = x → σ'.mem o = some x
theorem lo9c {o : Nat} (h : decide (o < 900000000) = true) : decide (o < 999000000) = true := by have := of_decide_eq_true h; exact decide_eq_true (by omega)
theorem end_c {vs : List Value} {ts : List Tmp} {σ τ : S} {n : Nat} {y : Option Ob} {K : S → List R → Prop} {rs : List R} (hn : decide (n < 900000000) = true) (hkp : KeepsC vs n σ τ) (hy : (τ.mem (upId n)).map Ob.down = y) (hrs : (ts.map fun t => (τ.regs t).down) = rs)
    (hk : ∀ σ' : S, LeftC n σ σ' → σ'.mem n = y → K σ' rs) : postG vs ts K .ret τ := by
  refine ⟨τ, Ghost.refl _, by rw [hkp.fr]; rfl, ?_⟩
  rw [hrs]
  refine hk τ.leave ⟨fun {t r} ht hr => ?_, fun {o x} h1 h2 h3 h4 => ?_⟩ ?_
  · rw [lv_r, hkp.fr, lv_f, ht]; exact hr
  · rw [lv_m (lo9c h2), hkp.ob o x h1 h2 h3]; exact congrArg some h4
  · rw [lv_m (lo9c hn)]; exact hy
theorem up_clo3 {g : FuncId} {a b c i j k : Nat} : R.down (R.up (.clo g [(a, i), (b, j), (c, k)])) = .clo g [(a, i), (b, j), (c, k)] := by simp [R.up, R.down, upId_sub, upId_le]
theorem up_clo1 {g : FuncId} {a i : Nat} : R.down (R.up (.clo g [(a, i)])) = .clo g [(a, i)] := by simp [R.up, R.down, upId_sub, upId_le]
theorem up_ref1 {a i : Nat} : R.down (R.up (.ref a i)) = .ref a i := by simp [R.up, R.down, upId_sub, upId_le]
theorem up_box1 {x : A} : Ob.down (Ob.up (.box [.a x])) = .box [.a x] := rfl
/-- A place of a row, out of any number. -/
def atI (k : Int) (n : Nat) : Nat := ((k.tmod n + n).tmod n).toNat
theorem at_eq (k : Int) {n : Nat} (h0 : 0 < n) (hn : n ≤ 1000000) : atI k n < n ∧ IntKind.i64.wrap (k.tmod n + n) = k.tmod n + n ∧ (k.tmod n + n).tmod n = (atI k n : Int) := by
  have a1 := Int.tmod_lt_of_pos k (show (0 : Int) < (n : Int) by omega)
  have a2 := Int.lt_tmod_of_pos k (show (0 : Int) < (n : Int) by omega)
  have b1 := Int.tmod_lt_of_pos (k.tmod n + n) (show (0 : Int) < (n : Int) by omega)
  have b2 : 0 ≤ (k.tmod n + n).tmod n := Int.tmod_nonneg _ (by omega)
  refine ⟨by unfold atI; omega, i64_in _ (by omega), by unfold atI; omega⟩
theorem clo26 {σ : S} {i : Int} {L : List Nat} {K : S → List R → Prop} (hm : σ.mem 11 = some (.box [.a (unsA L)])) (h0 : 0 < L.length) (hn : L.length ≤ 1000000)
    (hK : ∀ σ' : S, LeftC 899999 σ σ' → K σ' [.a (I (atI i L.length))]) : Inl Tryd.prog GL 26 [.a (I i), .ref 11 0] σ K := by
  obtain ⟨w1, w2, w3⟩ := at_eq i h0 hn
  have hne : ¬ ((L.length : Int) = 0) := by omega
  refine inl_bodyG (by kernel_rfl) Tryd.func26 rfl rfl (by kernel_rfl) (by kernel_rfl) rfl fun vs => ?_
  (refine of_gate ?_; repeat' ((first | (with_reducible refine gate_in ?_) | (with_reducible refine spK_intro ?_ ?_ <;> intro hp) | (with_reducible refine brK_intro ?_ ?_ <;> intro hb <;> try rw [hb]) | (with_reducible refine draw_in (by unfold DrawOk; decide +kernel) ?_) | (with_reducible refine And.intro (by first | omega | (simp only [List.length_map, List.length_take]; omega)) ?_) | fail) <;> try simp only [↓PR, PO, PC, PX, tyI, tyF, tyX, tyL, tyK, tyB, tyE, tyM, tyP, tyQ, Nat.reduceBEq, Nat.reduceAdd, Nat.reduceMul, Nat.reduceSub, Nat.reduceLeDiff, Nat.reduceEqDiff, Nat.reduceLT, Nat.reducePow, Nat.reduceBneDiff, Nat.reduceBNe, Int.reduceBEq, Int.reduceEq, Int.reduceLT, Int.reduceLE, Int.reduceToNat, String.reduceBEq, PI, hm, List.length_map, w2, w3, hne]))
  refine end_c (n := 899999) rfl ⟨by simp only [↓PR, PO, PC, PX, tyI, tyF, tyX, tyL, tyK, tyB, tyE, tyM, tyP, tyQ, Nat.reduceBEq, Nat.reduceAdd, Nat.reduceMul, Nat.reduceSub, Nat.reduceLeDiff, Nat.reduceEqDiff, Nat.reduceLT, Nat.reducePow, Nat.reduceBneDiff, Nat.reduceBNe, Int.reduceBEq, Int.reduceEq, Int.reduceLT, Int.reduceLE, Int.reduceToNat, String.reduceBEq, PI], fun o x h1 h2 h3 => by have h2 := lo9c h2; simp only [↓PR, PO, PC, PX, tyI, tyF, tyX, tyL, tyK, tyB, tyE, tyM, tyP, tyQ, Nat.reduceBEq, Nat.reduceAdd, Nat.reduceMul, Nat.reduceSub, Nat.reduceLeDiff, Nat.reduceEqDiff, Nat.reduceLT, Nat.reducePow, Nat.reduceBneDiff, Nat.reduceBNe, Int.reduceBEq, Int.reduceEq, Int.reduceLT, Int.reduceLE, Int.reduceToNat, String.reduceBEq, PI, h1, h2, h3]⟩ rfl (by simp only [↓PR, PO, PC, PX, tyI, tyF, tyX, tyL, tyK, tyB, tyE, tyM, tyP, tyQ, Nat.reduceBEq, Nat.reduceAdd, Nat.reduceMul, Nat.reduceSub, Nat.reduceLeDiff, Nat.reduceEqDiff, Nat.reduceLT, Nat.reducePow, Nat.reduceBneDiff, Nat.reduceBNe, Int.reduceBEq, Int.reduceEq, Int.reduceLT, Int.reduceLE, Int.reduceToNat, String.reduceBEq, PI, w3]) (fun σ' h _ => hK σ' h)
theorem clo27 {σ : S} {i k : Nat} {h : List Ev} {K : S → List R → Prop} (hE : checkE h = 0) (hi : i < (txns h).length) (hk : k < (txns h).length) (m5 : σ.mem 5 = some (.box [.a (evsA h)])) (m14 : σ.mem 14 = some (.box [.a (B true)])) (m11 : σ.mem 11 = some (.box [.a (unsA (afterR (txns h)))]))
    (hK : ∀ σ' : S, LeftC 14 σ σ' → σ'.mem 14 = some (.box [.a (B true)]) → K σ' [.a (B (beforeB (txns h) i k))]) : Inl Tryd.prog GL 27 [.a (I i), .a (I k), .ref 5 0, .ref 14 0, .ref 11 0] σ K := by
  have hl6 := txns_len6 h
  have e1 : befE h i k = 0 := by simp [befE, hE, inT_nat, hi, hk]
  have e2 : befV h i k = beforeB (txns h) i k := by simp [befV, hE, inT_nat, hi, hk]
  generalize txns h = l at *
  have hx := afterR_at hi
  have hb := bits32 (beforeB l i) (n := l.length) (by omega)
  have hbit := u32_bit (k := k) hb
  have hk32 : k < 32 := by omega
  rw [bitsN_test, decide_eq_true hk, Bool.true_and] at hbit
  refine inl_bodyG (by kernel_rfl) Tryd.func27 rfl rfl (by kernel_rfl) (by kernel_rfl) rfl fun vs => ?_
  cases hB : beforeB l i k with
  | true =>
    rw [hB] at e2 hbit hK
    simp only [if_true] at hbit
    (refine of_gate ?_; repeat' ((first | (with_reducible refine gate_in ?_) | (with_reducible refine spK_intro ?_ ?_ <;> intro hp) | (with_reducible refine brK_intro ?_ ?_ <;> intro hb <;> try rw [hb]) | (with_reducible refine draw_in (by unfold DrawOk; decide +kernel) ?_) | (with_reducible apply c17) | (with_reducible refine And.intro (by first | omega | (simp only [List.length_map, List.length_take]; omega)) ?_) | fail) <;> try simp only [↓PR, PO, PC, PX, tyI, tyF, tyX, tyL, tyK, tyB, tyE, tyM, tyP, tyQ, Nat.reduceBEq, Nat.reduceAdd, Nat.reduceMul, Nat.reduceSub, Nat.reduceLeDiff, Nat.reduceEqDiff, Nat.reduceLT, Nat.reducePow, Nat.reduceBneDiff, Nat.reduceBNe, Int.reduceBEq, Int.reduceEq, Int.reduceLT, Int.reduceLE, Int.reduceToNat, String.reduceBEq, PI, m5, m14, m11, hx, e1, e2, uenc_eq, u32_shr hk32, hbit, beq_self_eq_true]))
    refine end_c (n := 14) (y := some (.box [.a (B true)])) rfl ⟨by simp only [↓PR, PO, PC, PX, tyI, tyF, tyX, tyL, tyK, tyB, tyE, tyM, tyP, tyQ, Nat.reduceBEq, Nat.reduceAdd, Nat.reduceMul, Nat.reduceSub, Nat.reduceLeDiff, Nat.reduceEqDiff, Nat.reduceLT, Nat.reducePow, Nat.reduceBneDiff, Nat.reduceBNe, Int.reduceBEq, Int.reduceEq, Int.reduceLT, Int.reduceLE, Int.reduceToNat, String.reduceBEq, PI], fun o x h1 h2 h3 => by have h2 := lo9c h2; have h4 : (14 == o) = false := Bool.beq_comm.trans h1; simp only [↓PR, PO, PC, PX, tyI, tyF, tyX, tyL, tyK, tyB, tyE, tyM, tyP, tyQ, Nat.reduceBEq, Nat.reduceAdd, Nat.reduceMul, Nat.reduceSub, Nat.reduceLeDiff, Nat.reduceEqDiff, Nat.reduceLT, Nat.reducePow, Nat.reduceBneDiff, Nat.reduceBNe, Int.reduceBEq, Int.reduceEq, Int.reduceLT, Int.reduceLE, Int.reduceToNat, String.reduceBEq, PI, h1, h2, h3, h4]⟩ (by simp only [↓PR, PO, PC, PX, tyI, tyF, tyX, tyL, tyK, tyB, tyE, tyM, tyP, tyQ, Nat.reduceBEq, Nat.reduceAdd, Nat.reduceMul, Nat.reduceSub, Nat.reduceLeDiff, Nat.reduceEqDiff, Nat.reduceLT, Nat.reducePow, Nat.reduceBneDiff, Nat.reduceBNe, Int.reduceBEq, Int.reduceEq, Int.reduceLT, Int.reduceLE, Int.reduceToNat, String.reduceBEq, PI]) (by simp only [↓PR, PO, PC, PX, tyI, tyF, tyX, tyL, tyK, tyB, tyE, tyM, tyP, tyQ, Nat.reduceBEq, Nat.reduceAdd, Nat.reduceMul, Nat.reduceSub, Nat.reduceLeDiff, Nat.reduceEqDiff, Nat.reduceLT, Nat.reducePow, Nat.reduceBneDiff, Nat.reduceBNe, Int.reduceBEq, Int.reduceEq, Int.reduceLT, Int.reduceLE, Int.reduceToNat, String.reduceBEq, PI]) (fun σ' h hm => hK σ' h hm)
  | false =>
    rw [hB] at e2 hbit hK
    simp only [Bool.false_eq_true, if_false] at hbit
    (refine of_gate ?_; repeat' ((first | (with_reducible refine gate_in ?_) | (with_reducible refine spK_intro ?_ ?_ <;> intro hp) | (with_reducible refine brK_intro ?_ ?_ <;> intro hb <;> try rw [hb]) | (with_reducible refine draw_in (by unfold DrawOk; decide +kernel) ?_) | (with_reducible apply c17) | (with_reducible refine And.intro (by first | omega | (simp only [List.length_map, List.length_take]; omega)) ?_) | fail) <;> try simp only [↓PR, PO, PC, PX, tyI, tyF, tyX, tyL, tyK, tyB, tyE, tyM, tyP, tyQ, Nat.reduceBEq, Nat.reduceAdd, Nat.reduceMul, Nat.reduceSub, Nat.reduceLeDiff, Nat.reduceEqDiff, Nat.reduceLT, Nat.reducePow, Nat.reduceBneDiff, Nat.reduceBNe, Int.reduceBEq, Int.reduceEq, Int.reduceLT, Int.reduceLE, Int.reduceToNat, String.reduceBEq, PI, m5, m14, m11, hx, e1, e2, uenc_eq, u32_shr hk32, hbit, beq_self_eq_true]))
    refine end_c (n := 14) (y := some (.box [.a (B true)])) rfl ⟨by simp only [↓PR, PO, PC, PX, tyI, tyF, tyX, tyL, tyK, tyB, tyE, tyM, tyP, tyQ, Nat.reduceBEq, Nat.reduceAdd, Nat.reduceMul, Nat.reduceSub, Nat.reduceLeDiff, Nat.reduceEqDiff, Nat.reduceLT, Nat.reducePow, Nat.reduceBneDiff, Nat.reduceBNe, Int.reduceBEq, Int.reduceEq, Int.reduceLT, Int.reduceLE, Int.reduceToNat, String.reduceBEq, PI], fun o x h1 h2 h3 => by have h2 := lo9c h2; have h4 : (14 == o) = false := Bool.beq_comm.trans h1; simp only [↓PR, PO, PC, PX, tyI, tyF, tyX, tyL, tyK, tyB, tyE, tyM, tyP, tyQ, Nat.reduceBEq, Nat.reduceAdd, Nat.reduceMul, Nat.reduceSub, Nat.reduceLeDiff, Nat.reduceEqDiff, Nat.reduceLT, Nat.reducePow, Nat.reduceBneDiff, Nat.reduceBNe, Int.reduceBEq, Int.reduceEq, Int.reduceLT, Int.reduceLE, Int.reduceToNat, String.reduceBEq, PI, h1, h2, h3, h4]⟩ (by simp only [↓PR, PO, PC, PX, tyI, tyF, tyX, tyL, tyK, tyB, tyE, tyM, tyP, tyQ, Nat.reduceBEq, Nat.reduceAdd, Nat.reduceMul, Nat.reduceSub, Nat.reduceLeDiff, Nat.reduceEqDiff, Nat.reduceLT, Nat.reducePow, Nat.reduceBneDiff, Nat.reduceBNe, Int.reduceBEq, Int.reduceEq, Int.reduceLT, Int.reduceLE, Int.reduceToNat, String.reduceBEq, PI]) (by simp only [↓PR, PO, PC, PX, tyI, tyF, tyX, tyL, tyK, tyB, tyE, tyM, tyP, tyQ, Nat.reduceBEq, Nat.reduceAdd, Nat.reduceMul, Nat.reduceSub, Nat.reduceLeDiff, Nat.reduceEqDiff, Nat.reduceLT, Nat.reducePow, Nat.reduceBneDiff, Nat.reduceBNe, Int.reduceBEq, Int.reduceEq, Int.reduceLT, Int.reduceLE, Int.reduceToNat, String.reduceBEq, PI]) (fun σ' h hm => hK σ' h hm)
end Go.VC
