/- unique.writers: who wrote what, by pairs. -/
import Derived.Test.YtjmbgnncokeliaaDoorVTf
set_option maxRecDepth 100000
set_option linter.unusedSimpArgs false
set_option linter.unusedVariables false
namespace Go.VC
open Go.RowKit Go.Proofs Go.IntWalk
def rowsA (rs : List Kp) : A := .d (.sl (rs.map Kp.row))
abbrev PKv := List ((Int × Int) × Int)
/-- One operation of transaction i. -/
def wrOp (i : Int) (kv : PKv) (o : Op) : Option PKv :=
  if o.w = false then some kv else
  if (∃ v, pGet kv (o.var, o.val) = some v ∧ v ≠ i) ∨ o.val = 0 then none else some (pSet kv (o.var, o.val) i)
def wrOps (i : Int) : List Op → PKv → Option PKv
  | [], kv => some kv
  | o :: os, kv => (wrOp i kv o).bind (wrOps i os)
def wrAll : List Kp → Int → PKv → Option PKv
  | [], _, kv => some kv
  | r :: rs, i, kv => (wrOps i r.ops kv).bind (wrAll rs (i + 1))
theorem pair138 : PairT Tryd.prog 138 := ⟨_, _, _, default, Tryd.underlying138, by decide, by decide, rfl, rfl, rfl, rfl, Tryd.underlying3, by kernel_rfl⟩
theorem kp_row_len {l : List Kp} : ∀ c ∈ l.map Kp.row, c.length = 5 := fun c hc => by
  obtain ⟨e, _, rfl⟩ := List.mem_map.1 hc; rfl
theorem kp_row_lenT {l : List Kp} : (∀ c ∈ l.map Kp.row, c.length = 5) = True := eq_true kp_row_len
/-- What the callee leaves of its caller. -/
structure Keeps (vs : List Value) (σ0 σ : S) : Prop where
  fr : σ.mem 999999 = some (.frame vs (upF σ0.regs))
  ob : ∀ o x, decide (o < 999000000) = true → σ0.mem o = some x → σ.mem (upId o) = some x.up
structure WrI (vs : List Value) (σ0 : S) (rs : List Kp) (k : Nat) (kv : PKv) (σ : S) : Prop where
  le : k ≤ rs.length
  eq : wrAll rs 0 [] = wrAll (rs.drop k) k kv
  r13 : σ.regs 13 = .a (rowsA rs)
  r14 : σ.regs 14 = .a (I rs.length)
  r15 : σ.regs 15 = .a (I k)
  r4 : σ.regs 4 = .omp 12
  m12 : σ.mem 12 = some (.sem (pmap kv))
  kp : Keeps vs σ0 σ
structure WrJ (vs : List Value) (σ0 : S) (rs : List Kp) (r : Kp) (k j : Nat) (kv : PKv) (σ : S) : Prop where
  le : j ≤ r.ops.length
  eq : wrAll rs 0 [] = (wrOps k (r.ops.drop j) kv).bind (wrAll (rs.drop (k + 1)) (k + 1))
  r13 : σ.regs 13 = .a (rowsA rs)
  r14 : σ.regs 14 = .a (I rs.length)
  r15 : σ.regs 15 = .a (I k)
  r5 : σ.regs 5 = .a (I k)
  r4 : σ.regs 4 = .omp 12
  r21 : σ.regs 21 = .a (.d (.sl (r.ops.map Op.enc)))
  r22 : σ.regs 22 = .a (I r.ops.length)
  r23 : σ.regs 23 = .a (I j)
  m12 : σ.mem 12 = some (.sem (pmap kv))
  kp : Keeps vs σ0 σ
theorem k_pmap {kv : PKv} {d : Nat} : Ob.kill d (.sem (pmap kv)) = .sem (pmap kv) := rfl
theorem zero3 (w : World) : (zeroValue 3).run Tryd.prog w = .ok (.int .i64 0) w := by kernel_rfl
theorem wr_end0 {vs : List Value} {σ τ : S} {n : Nat} {K : S → List R → Prop} (hkp : Keeps vs σ τ) (h2 : τ.regs 2 = .a (.d (.mp []))) (h3 : τ.regs 3 = .a (B false))
    (hk : ∀ σ' : S, (∀ t, FineR n (σ.regs t) → σ'.regs t = σ.regs t) → (∀ o x, (o == n) = false → decide (o < 999000000) = true → σ.mem o = some x → FineO n x → σ'.mem o = some x) → K σ' [.a (.d (.mp [])), .a (B false)]) : postG vs [2, 3] K .ret τ := by
  refine ⟨τ, Ghost.refl τ, by rw [hkp.fr]; rfl, ?_⟩
  have := hk τ.leave (fun t ht => by rw [lv_r, hkp.fr]; exact ht.1) fun o x h1 h4 hx hf => by rw [lv_m h4, hkp.ob o x h4 hx]; exact congrArg some hf.1
  simpa [h2, h3, R.down] using this
theorem mv_omp {a b : Nat} (h : (a == b) = false) : R.mv a b (.omp a) = .omp b := by simp [R.mv, R.says, R.says0, R.mv0, nm, h]
theorem wr_end1 {vs : List Value} {σ τ : S} {n : Nat} {kv : PKv} {K : S → List R → Prop} (hn : decide (n < 999000000) = true) (hkp : Keeps vs σ τ) (h2 : τ.regs 2 = .omp 12) (h3 : τ.regs 3 = .a (B true)) (hm : τ.mem 12 = some (.sem (pmap kv)))
    (hk : ∀ σ' : S, σ'.mem n = some (.sem (pmap kv)) → (∀ t, FineR n (σ.regs t) → σ'.regs t = σ.regs t) → (∀ o x, (o == n) = false → decide (o < 999000000) = true → σ.mem o = some x → FineO n x → σ'.mem o = some x) → K σ' [.omp n, .a (B true)]) : postG vs [2, 3] K .ret τ := by
  have h12 : (12 == upId n) = false := beq_up rfl
  have hf : (τ.mv 12 (upId n)).mem 999999 = some (.frame vs (upF (killR n σ.regs))) := by
    rw [mv_mo (beq_up rfl) rfl, hkp.fr, Option.map_some, mo_frame rfl]
  refine ⟨τ.mv 12 (upId n), g_mv (by decide) (by have := upId_le n; omega), by rw [hf]; rfl, ?_⟩
  have := hk (τ.mv 12 (upId n)).leave (by
      rw [lv_m hn, mv_mb, hm, Option.map_some, mv_sem (by simp [pmap]), Option.map_some]
      rfl) (fun t ht => by rw [lv_r, hf]; exact ht.2) fun o x h1 h4 hx hfo => by
      have hu : (upId o == upId n) = false := by rw [up_up]; exact h1
      rw [lv_m h4, mv_mo hu (up_beq rfl), hkp.ob o x h4 hx, Option.map_some, Option.map_some]
      exact congrArg some (hfo.2.2 12 (by omega))
  simpa [mv_r, h2, h3, mv_omp h12, mv_a, R.down, upId_le, upId_sub] using this
theorem wr_inl {σ : S} {rs : List Kp} {n : Nat} {K : S → List R → Prop} (hn : decide (n < 999000000) = true) (hlen : rs.length ≤ 1000000) (hops : ∀ r ∈ rs, r.ops.length ≤ 1000000)
    (hK : ∀ (σ' : S) (kv : PKv), wrAll rs 0 [] = some kv → σ'.mem n = some (.sem (pmap kv)) → (∀ t, FineR n (σ.regs t) → σ'.regs t = σ.regs t) → (∀ o x, (o == n) = false → decide (o < 999000000) = true → σ.mem o = some x → FineO n x → σ'.mem o = some x) → K σ' [.omp n, .a (B true)])
    (hk' : ∀ σ' : S, wrAll rs 0 [] = none → (∀ t, FineR n (σ.regs t) → σ'.regs t = σ.regs t) → (∀ o x, (o == n) = false → decide (o < 999000000) = true → σ.mem o = some x → FineO n x → σ'.mem o = some x) → K σ' [.a (.d (.mp [])), .a (B false)]) :
    Inl Tryd.prog GL 93 [.a (rowsA rs)] σ K := by
  refine inl_bodyG (by kernel_rfl) Tryd.func93 rfl rfl (by kernel_rfl) (by kernel_rfl) rfl fun vs => ?_
  (refine of_gate ?_; repeat' ((first | (with_reducible refine gate_in ?_) | (with_reducible refine spK_intro ?_ ?_ <;> intro hp) | (with_reducible refine brK_intro ?_ ?_ <;> intro hb <;> try rw [hb]) | (with_reducible refine draw_in (by unfold DrawOk; decide +kernel) ?_)) <;> try simp only [↓PR, PO, PC, PX, tyI, tyF, tyX, tyL, tyK, tyB, tyE, tyM, tyP, tyQ, Nat.reduceBEq, Nat.reduceAdd, Nat.reduceMul, Nat.reduceSub, Nat.reduceLeDiff, Nat.reduceEqDiff, Nat.reduceLT, Nat.reducePow, Nat.reduceBneDiff, Nat.reduceBNe, Int.reduceBEq, Int.reduceEq, Int.reduceLT, Int.reduceLE, Int.reduceToNat, String.reduceBEq, PI, rowsA]))
  refine sem_mkp ?_
  (refine of_gate ?_; repeat' ((first | (with_reducible refine gate_in ?_) | (with_reducible refine spK_intro ?_ ?_ <;> intro hp) | (with_reducible refine brK_intro ?_ ?_ <;> intro hb <;> try rw [hb]) | (with_reducible refine draw_in (by unfold DrawOk; decide +kernel) ?_)) <;> try simp only [↓PR, PO, PC, PX, tyI, tyF, tyX, tyL, tyK, tyB, tyE, tyM, tyP, tyQ, Nat.reduceBEq, Nat.reduceAdd, Nat.reduceMul, Nat.reduceSub, Nat.reduceLeDiff, Nat.reduceEqDiff, Nat.reduceLT, Nat.reducePow, Nat.reduceBneDiff, Nat.reduceBNe, Int.reduceBEq, Int.reduceEq, Int.reduceLT, Int.reduceLE, Int.reduceToNat, String.reduceBEq, PI, rowsA, List.length_map]))
  refine awp_loopG (α := Nat × PKv) (fun a => WrI vs σ rs a.1 a.2) (fun a => rs.length - a.1) (0, []) ⟨_, Ghost.refl _, Nat.zero_le _, rfl, ?_, ?_, ?_, ?_, ?_, ?_, ?_⟩ ?_
  iterate 6 (· simp only [↓PR, PO, PC, PX, tyI, tyF, tyX, tyL, tyK, tyB, tyE, tyM, tyP, tyQ, Nat.reduceBEq, Nat.reduceAdd, Nat.reduceMul, Nat.reduceSub, Nat.reduceLeDiff, Nat.reduceEqDiff, Nat.reduceLT, Nat.reducePow, Nat.reduceBneDiff, Nat.reduceBNe, Int.reduceBEq, Int.reduceEq, Int.reduceLT, Int.reduceLE, Int.reduceToNat, String.reduceBEq, PI, rowsA]; try rfl)
  · intro o x ho hx
    simp only [↓PR, PO, PC, PX, tyI, tyF, tyX, tyL, tyK, tyB, tyE, tyM, tyP, tyQ, Nat.reduceBEq, Nat.reduceAdd, Nat.reduceMul, Nat.reduceSub, Nat.reduceLeDiff, Nat.reduceEqDiff, Nat.reduceLT, Nat.reducePow, Nat.reduceBneDiff, Nat.reduceBNe, Int.reduceBEq, Int.reduceEq, Int.reduceLT, Int.reduceLE, Int.reduceToNat, String.reduceBEq, PI, ho, hx, okill_loT]
  rintro ⟨k, kv⟩ τ hI
  obtain ⟨hk, heq, r13, r14, r15, r4, m12, hkp⟩ := hI
  dsimp only at hk heq r13 r14 r15 r4 m12 ⊢
  have hfr := hkp.fr
  simp only [rowsA] at r13
  by_cases hkl : k < rs.length
  · have hx : rs[k]? = some rs[k] := List.getElem?_eq_getElem hkl
    have hw := wrap_succ (n := rs.length) hkl (by simp only [maxLen]; omega)
    have hdr : rs.drop k = rs[k] :: rs.drop (k + 1) := List.drop_eq_getElem_cons hkl
    (refine of_gate ?_; repeat' ((first | (with_reducible refine gate_in ?_) | (with_reducible refine spK_intro ?_ ?_ <;> intro hp) | (with_reducible refine brK_intro ?_ ?_ <;> intro hb <;> try rw [hb]) | (with_reducible refine draw_in (by unfold DrawOk; decide +kernel) ?_)) <;> try simp only [↓PR, PO, PC, PX, tyI, tyF, tyX, tyL, tyK, tyB, tyE, tyM, tyP, tyQ, Nat.reduceBEq, Nat.reduceAdd, Nat.reduceMul, Nat.reduceSub, Nat.reduceLeDiff, Nat.reduceEqDiff, Nat.reduceLT, Nat.reducePow, Nat.reduceBneDiff, Nat.reduceBNe, Int.reduceBEq, Int.reduceEq, Int.reduceLT, Int.reduceLE, Int.reduceToNat, String.reduceBEq, PI, r13, r14, r15, r4, List.length_map, hx, Kp.row]))
    · refine awp_loopG (α := Nat × PKv) (fun a => WrJ vs σ rs rs[k] k a.1 a.2) (fun a => rs[k].ops.length - a.1) (0, kv) ⟨_, Ghost.refl _, Nat.zero_le _, ?_, ?_, ?_, ?_, ?_, ?_, ?_, ?_, ?_, ?_, ?_, ?_⟩ ?_
      · rw [heq, hdr]; rfl
      iterate 10 (· simp only [↓PR, PO, PC, PX, tyI, tyF, tyX, tyL, tyK, tyB, tyE, tyM, tyP, tyQ, Nat.reduceBEq, Nat.reduceAdd, Nat.reduceMul, Nat.reduceSub, Nat.reduceLeDiff, Nat.reduceEqDiff, Nat.reduceLT, Nat.reducePow, Nat.reduceBneDiff, Nat.reduceBNe, Int.reduceBEq, Int.reduceEq, Int.reduceLT, Int.reduceLE, Int.reduceToNat, String.reduceBEq, PI, r13, rowsA, r14, r15, r4, m12, k_pmap, hfr]; try rfl)
      · intro o x ho hx2
        have := hkp.ob o x ho hx2
        simp only [↓PR, PO, PC, PX, tyI, tyF, tyX, tyL, tyK, tyB, tyE, tyM, tyP, tyQ, Nat.reduceBEq, Nat.reduceAdd, Nat.reduceMul, Nat.reduceSub, Nat.reduceLeDiff, Nat.reduceEqDiff, Nat.reduceLT, Nat.reducePow, Nat.reduceBneDiff, Nat.reduceBNe, Int.reduceBEq, Int.reduceEq, Int.reduceLT, Int.reduceLE, Int.reduceToNat, String.reduceBEq, PI, ho, this, okill_loT]
      rintro ⟨j, kv2⟩ τ2 hJ
      obtain ⟨hj, heq2, r13, r14, r15, r5, r4, r21, r22, r23, m12, hkp2⟩ := hJ
      dsimp only at hj heq2 r13 r14 r15 r5 r4 r21 r22 r23 m12 ⊢
      have hfr2 := hkp2.fr
      have hol := hops rs[k] (List.getElem_mem hkl)
      by_cases hjl : j < rs[k].ops.length
      · have hy : rs[k].ops[j]? = some rs[k].ops[j] := List.getElem?_eq_getElem hjl
        have hwj := wrap_succ (n := rs[k].ops.length) hjl (by simp only [maxLen]; omega)
        have hdj : rs[k].ops.drop j = rs[k].ops[j] :: rs[k].ops.drop (j + 1) := List.drop_eq_getElem_cons hjl
        rw [hdj] at heq2
        simp only [wrOps] at heq2
        generalize rs[k].ops[j] = op at hy heq2
        (refine of_gate ?_; repeat' ((first | (with_reducible refine gate_in ?_) | (with_reducible refine spK_intro ?_ ?_ <;> intro hp) | (with_reducible refine brK_intro ?_ ?_ <;> intro hb <;> try rw [hb]) | (with_reducible refine draw_in (by unfold DrawOk; decide +kernel) ?_)) <;> try simp only [↓PR, PO, PC, PX, tyI, tyF, tyX, tyL, tyK, tyB, tyE, tyM, tyP, tyQ, Nat.reduceBEq, Nat.reduceAdd, Nat.reduceMul, Nat.reduceSub, Nat.reduceLeDiff, Nat.reduceEqDiff, Nat.reduceLT, Nat.reducePow, Nat.reduceBneDiff, Nat.reduceBNe, Int.reduceBEq, Int.reduceEq, Int.reduceLT, Int.reduceLE, Int.reduceToNat, String.reduceBEq, PI, r13, r14, r15, r5, r4, r21, r22, r23, List.length_map, hy, Op.enc_eq, hwj]))
        · have hwo : wrOp k kv2 op = some kv2 := by unfold wrOp; rw [if_pos (by have h9 : (!op.w) = true := ‹_›; simpa using h9)]
          rw [hwo] at heq2
          refine ⟨_, (j + 1, kv2), Ghost.refl _, ⟨by dsimp only; omega, heq2, ?_, ?_, ?_, ?_, ?_, ?_, ?_, ?_, ?_, ?_, ?_⟩, by dsimp only; omega⟩
          iterate 10 (· simp only [↓PR, PO, PC, PX, tyI, tyF, tyX, tyL, tyK, tyB, tyE, tyM, tyP, tyQ, Nat.reduceBEq, Nat.reduceAdd, Nat.reduceMul, Nat.reduceSub, Nat.reduceLeDiff, Nat.reduceEqDiff, Nat.reduceLT, Nat.reducePow, Nat.reduceBneDiff, Nat.reduceBNe, Int.reduceBEq, Int.reduceEq, Int.reduceLT, Int.reduceLE, Int.reduceToNat, String.reduceBEq, PI, r13, r14, r15, r5, r4, r21, r22, hwj, m12, k_pmap, hfr2])
          · intro o x ho hx2
            have := hkp2.ob o x ho hx2
            simp only [↓PR, PO, PC, PX, tyI, tyF, tyX, tyL, tyK, tyB, tyE, tyM, tyP, tyQ, Nat.reduceBEq, Nat.reduceAdd, Nat.reduceMul, Nat.reduceSub, Nat.reduceLeDiff, Nat.reduceEqDiff, Nat.reduceLT, Nat.reducePow, Nat.reduceBneDiff, Nat.reduceBNe, Int.reduceBEq, Int.reduceEq, Int.reduceLT, Int.reduceLE, Int.reduceToNat, String.reduceBEq, PI, ho, this, okill_loT]
        · refine sem_lookp Tryd.underlying84 pair138 zero3 (o := 12) (kv := kv2) (p := (op.var, op.val)) (by simp only [↓PR, PO, PC, PX, tyI, tyF, tyX, tyL, tyK, tyB, tyE, tyM, tyP, tyQ, Nat.reduceBEq, Nat.reduceAdd, Nat.reduceMul, Nat.reduceSub, Nat.reduceLeDiff, Nat.reduceEqDiff, Nat.reduceLT, Nat.reducePow, Nat.reduceBneDiff, Nat.reduceBNe, Int.reduceBEq, Int.reduceEq, Int.reduceLT, Int.reduceLE, Int.reduceToNat, String.reduceBEq, r4]) (by simp only [↓PR, PO, PC, PX, tyI, tyF, tyX, tyL, tyK, tyB, tyE, tyM, tyP, tyQ, Nat.reduceBEq, Nat.reduceAdd, Nat.reduceMul, Nat.reduceSub, Nat.reduceLeDiff, Nat.reduceEqDiff, Nat.reduceLT, Nat.reducePow, Nat.reduceBneDiff, Nat.reduceBNe, Int.reduceBEq, Int.reduceEq, Int.reduceLT, Int.reduceLE, Int.reduceToNat, String.reduceBEq, m12, k_pmap]) (by simp only [↓PR, PO, PC, PX, tyI, tyF, tyX, tyL, tyK, tyB, tyE, tyM, tyP, tyQ, Nat.reduceBEq, Nat.reduceAdd, Nat.reduceMul, Nat.reduceSub, Nat.reduceLeDiff, Nat.reduceEqDiff, Nat.reduceLT, Nat.reducePow, Nat.reduceBneDiff, Nat.reduceBNe, Int.reduceBEq, Int.reduceEq, Int.reduceLT, Int.reduceLE, Int.reduceToNat, String.reduceBEq]) (fun v hv => ?_) (fun hv => ?_)
          · have hwf : op.w = true := by have h9 : (!op.w) = false := ‹_›; simpa using h9
            (refine of_gate ?_; repeat' ((first | (with_reducible refine gate_in ?_) | (with_reducible refine spK_intro ?_ ?_ <;> intro hp) | (with_reducible refine brK_intro ?_ ?_ <;> intro hb <;> try rw [hb]) | (with_reducible refine draw_in (by unfold DrawOk; decide +kernel) ?_)) <;> try simp only [↓PR, PO, PC, PX, tyI, tyF, tyX, tyL, tyK, tyB, tyE, tyM, tyP, tyQ, Nat.reduceBEq, Nat.reduceAdd, Nat.reduceMul, Nat.reduceSub, Nat.reduceLeDiff, Nat.reduceEqDiff, Nat.reduceLT, Nat.reducePow, Nat.reduceBneDiff, Nat.reduceBNe, Int.reduceBEq, Int.reduceEq, Int.reduceLT, Int.reduceLE, Int.reduceToNat, String.reduceBEq, PI, r13, r14, r15, r5, r4, r21, r22, r23, List.length_map, hy, Op.enc_eq, hwj]))
            · have hwo : wrOp k kv2 op = none := by unfold wrOp; rw [if_neg (by rw [hwf]; decide), if_pos (.inr ‹_›)]
              refine wr_end0 (n := n) ⟨by simp only [↓PR, PO, PC, PX, tyI, tyF, tyX, tyL, tyK, tyB, tyE, tyM, tyP, tyQ, Nat.reduceBEq, Nat.reduceAdd, Nat.reduceMul, Nat.reduceSub, Nat.reduceLeDiff, Nat.reduceEqDiff, Nat.reduceLT, Nat.reducePow, Nat.reduceBneDiff, Nat.reduceBNe, Int.reduceBEq, Int.reduceEq, Int.reduceLT, Int.reduceLE, Int.reduceToNat, String.reduceBEq, PI, hfr2], fun o x ho hx2 => ?_⟩ (by simp only [↓PR, PO, PC, PX, tyI, tyF, tyX, tyL, tyK, tyB, tyE, tyM, tyP, tyQ, Nat.reduceBEq, Nat.reduceAdd, Nat.reduceMul, Nat.reduceSub, Nat.reduceLeDiff, Nat.reduceEqDiff, Nat.reduceLT, Nat.reducePow, Nat.reduceBneDiff, Nat.reduceBNe, Int.reduceBEq, Int.reduceEq, Int.reduceLT, Int.reduceLE, Int.reduceToNat, String.reduceBEq, PI]) (by simp only [↓PR, PO, PC, PX, tyI, tyF, tyX, tyL, tyK, tyB, tyE, tyM, tyP, tyQ, Nat.reduceBEq, Nat.reduceAdd, Nat.reduceMul, Nat.reduceSub, Nat.reduceLeDiff, Nat.reduceEqDiff, Nat.reduceLT, Nat.reducePow, Nat.reduceBneDiff, Nat.reduceBNe, Int.reduceBEq, Int.reduceEq, Int.reduceLT, Int.reduceLE, Int.reduceToNat, String.reduceBEq, PI]) (fun σ' a b => hk' σ' (by rw [heq2, hwo]; rfl) a b)
              have := hkp2.ob o x ho hx2
              simp only [↓PR, PO, PC, PX, tyI, tyF, tyX, tyL, tyK, tyB, tyE, tyM, tyP, tyQ, Nat.reduceBEq, Nat.reduceAdd, Nat.reduceMul, Nat.reduceSub, Nat.reduceLeDiff, Nat.reduceEqDiff, Nat.reduceLT, Nat.reducePow, Nat.reduceBneDiff, Nat.reduceBNe, Int.reduceBEq, Int.reduceEq, Int.reduceLT, Int.reduceLE, Int.reduceToNat, String.reduceBEq, PI, ho, this, okill_loT]
            · have hwo : wrOp k kv2 op = some (pSet kv2 (op.var, op.val) k) := by unfold wrOp; rw [if_neg (by rw [hwf]; decide), if_neg (fun h => h.elim (fun ⟨v', h1, h2⟩ => by rw [hv] at h1; cases h1; exact h2 ‹_›) (fun h1 => absurd h1 ‹_›))]
              rw [hwo] at heq2
              refine sem_updp Tryd.underlying84 pair138 (o := 12) (kv := kv2) (p := (op.var, op.val)) (x := k) (by simp only [↓PR, PO, PC, PX, tyI, tyF, tyX, tyL, tyK, tyB, tyE, tyM, tyP, tyQ, Nat.reduceBEq, Nat.reduceAdd, Nat.reduceMul, Nat.reduceSub, Nat.reduceLeDiff, Nat.reduceEqDiff, Nat.reduceLT, Nat.reducePow, Nat.reduceBneDiff, Nat.reduceBNe, Int.reduceBEq, Int.reduceEq, Int.reduceLT, Int.reduceLE, Int.reduceToNat, String.reduceBEq, r4]) (by simp only [↓PR, PO, PC, PX, tyI, tyF, tyX, tyL, tyK, tyB, tyE, tyM, tyP, tyQ, Nat.reduceBEq, Nat.reduceAdd, Nat.reduceMul, Nat.reduceSub, Nat.reduceLeDiff, Nat.reduceEqDiff, Nat.reduceLT, Nat.reducePow, Nat.reduceBneDiff, Nat.reduceBNe, Int.reduceBEq, Int.reduceEq, Int.reduceLT, Int.reduceLE, Int.reduceToNat, String.reduceBEq, m12, k_pmap]) (by simp only [↓PR, PO, PC, PX, tyI, tyF, tyX, tyL, tyK, tyB, tyE, tyM, tyP, tyQ, Nat.reduceBEq, Nat.reduceAdd, Nat.reduceMul, Nat.reduceSub, Nat.reduceLeDiff, Nat.reduceEqDiff, Nat.reduceLT, Nat.reducePow, Nat.reduceBneDiff, Nat.reduceBNe, Int.reduceBEq, Int.reduceEq, Int.reduceLT, Int.reduceLE, Int.reduceToNat, String.reduceBEq]) (by simp only [↓PR, PO, PC, PX, tyI, tyF, tyX, tyL, tyK, tyB, tyE, tyM, tyP, tyQ, Nat.reduceBEq, Nat.reduceAdd, Nat.reduceMul, Nat.reduceSub, Nat.reduceLeDiff, Nat.reduceEqDiff, Nat.reduceLT, Nat.reducePow, Nat.reduceBneDiff, Nat.reduceBNe, Int.reduceBEq, Int.reduceEq, Int.reduceLT, Int.reduceLE, Int.reduceToNat, String.reduceBEq, r5]) ?_
              (refine of_gate ?_; repeat' ((first | (with_reducible refine gate_in ?_) | (with_reducible refine spK_intro ?_ ?_ <;> intro hp) | (with_reducible refine brK_intro ?_ ?_ <;> intro hb <;> try rw [hb]) | (with_reducible refine draw_in (by unfold DrawOk; decide +kernel) ?_)) <;> try simp only [↓PR, PO, PC, PX, tyI, tyF, tyX, tyL, tyK, tyB, tyE, tyM, tyP, tyQ, Nat.reduceBEq, Nat.reduceAdd, Nat.reduceMul, Nat.reduceSub, Nat.reduceLeDiff, Nat.reduceEqDiff, Nat.reduceLT, Nat.reducePow, Nat.reduceBneDiff, Nat.reduceBNe, Int.reduceBEq, Int.reduceEq, Int.reduceLT, Int.reduceLE, Int.reduceToNat, String.reduceBEq, PI, r13, r14, r15, r5, r4, r21, r22, r23, List.length_map, hy, Op.enc_eq, hwj]))
              refine ⟨_, (j + 1, pSet kv2 (op.var, op.val) k), Ghost.refl _, ⟨by dsimp only; omega, heq2, ?_, ?_, ?_, ?_, ?_, ?_, ?_, ?_, ?_, ?_, ?_⟩, by dsimp only; omega⟩
              iterate 10 (· simp only [↓PR, PO, PC, PX, tyI, tyF, tyX, tyL, tyK, tyB, tyE, tyM, tyP, tyQ, Nat.reduceBEq, Nat.reduceAdd, Nat.reduceMul, Nat.reduceSub, Nat.reduceLeDiff, Nat.reduceEqDiff, Nat.reduceLT, Nat.reducePow, Nat.reduceBneDiff, Nat.reduceBNe, Int.reduceBEq, Int.reduceEq, Int.reduceLT, Int.reduceLE, Int.reduceToNat, String.reduceBEq, PI, r13, r14, r15, r5, r4, r21, r22, hwj, k_pmap, hfr2])
              · intro o x ho hx2
                have := hkp2.ob o x ho hx2
                simp only [↓PR, PO, PC, PX, tyI, tyF, tyX, tyL, tyK, tyB, tyE, tyM, tyP, tyQ, Nat.reduceBEq, Nat.reduceAdd, Nat.reduceMul, Nat.reduceSub, Nat.reduceLeDiff, Nat.reduceEqDiff, Nat.reduceLT, Nat.reducePow, Nat.reduceBneDiff, Nat.reduceBNe, Int.reduceBEq, Int.reduceEq, Int.reduceLT, Int.reduceLE, Int.reduceToNat, String.reduceBEq, PI, ho, this, okill_loT]
            · have hwo : wrOp k kv2 op = none := by unfold wrOp; rw [if_neg (by rw [hwf]; decide), if_pos (.inl ⟨v, hv, ‹_›⟩)]
              refine wr_end0 (n := n) ⟨by simp only [↓PR, PO, PC, PX, tyI, tyF, tyX, tyL, tyK, tyB, tyE, tyM, tyP, tyQ, Nat.reduceBEq, Nat.reduceAdd, Nat.reduceMul, Nat.reduceSub, Nat.reduceLeDiff, Nat.reduceEqDiff, Nat.reduceLT, Nat.reducePow, Nat.reduceBneDiff, Nat.reduceBNe, Int.reduceBEq, Int.reduceEq, Int.reduceLT, Int.reduceLE, Int.reduceToNat, String.reduceBEq, PI, hfr2], fun o x ho hx2 => ?_⟩ (by simp only [↓PR, PO, PC, PX, tyI, tyF, tyX, tyL, tyK, tyB, tyE, tyM, tyP, tyQ, Nat.reduceBEq, Nat.reduceAdd, Nat.reduceMul, Nat.reduceSub, Nat.reduceLeDiff, Nat.reduceEqDiff, Nat.reduceLT, Nat.reducePow, Nat.reduceBneDiff, Nat.reduceBNe, Int.reduceBEq, Int.reduceEq, Int.reduceLT, Int.reduceLE, Int.reduceToNat, String.reduceBEq, PI]) (by simp only [↓PR, PO, PC, PX, tyI, tyF, tyX, tyL, tyK, tyB, tyE, tyM, tyP, tyQ, Nat.reduceBEq, Nat.reduceAdd, Nat.reduceMul, Nat.reduceSub, Nat.reduceLeDiff, Nat.reduceEqDiff, Nat.reduceLT, Nat.reducePow, Nat.reduceBneDiff, Nat.reduceBNe, Int.reduceBEq, Int.reduceEq, Int.reduceLT, Int.reduceLE, Int.reduceToNat, String.reduceBEq, PI]) (fun σ' a b => hk' σ' (by rw [heq2, hwo]; rfl) a b)
              have := hkp2.ob o x ho hx2
              simp only [↓PR, PO, PC, PX, tyI, tyF, tyX, tyL, tyK, tyB, tyE, tyM, tyP, tyQ, Nat.reduceBEq, Nat.reduceAdd, Nat.reduceMul, Nat.reduceSub, Nat.reduceLeDiff, Nat.reduceEqDiff, Nat.reduceLT, Nat.reducePow, Nat.reduceBneDiff, Nat.reduceBNe, Int.reduceBEq, Int.reduceEq, Int.reduceLT, Int.reduceLE, Int.reduceToNat, String.reduceBEq, PI, ho, this, okill_loT]
          · have hwf : op.w = true := by have h9 : (!op.w) = false := ‹_›; simpa using h9
            (refine of_gate ?_; repeat' ((first | (with_reducible refine gate_in ?_) | (with_reducible refine spK_intro ?_ ?_ <;> intro hp) | (with_reducible refine brK_intro ?_ ?_ <;> intro hb <;> try rw [hb]) | (with_reducible refine draw_in (by unfold DrawOk; decide +kernel) ?_)) <;> try simp only [↓PR, PO, PC, PX, tyI, tyF, tyX, tyL, tyK, tyB, tyE, tyM, tyP, tyQ, Nat.reduceBEq, Nat.reduceAdd, Nat.reduceMul, Nat.reduceSub, Nat.reduceLeDiff, Nat.reduceEqDiff, Nat.reduceLT, Nat.reducePow, Nat.reduceBneDiff, Nat.reduceBNe, Int.reduceBEq, Int.reduceEq, Int.reduceLT, Int.reduceLE, Int.reduceToNat, String.reduceBEq, PI, r13, r14, r15, r5, r4, r21, r22, r23, List.length_map, hy, Op.enc_eq, hwj]))
            · have hwo : wrOp k kv2 op = none := by unfold wrOp; rw [if_neg (by rw [hwf]; decide), if_pos (.inr ‹_›)]
              refine wr_end0 (n := n) ⟨by simp only [↓PR, PO, PC, PX, tyI, tyF, tyX, tyL, tyK, tyB, tyE, tyM, tyP, tyQ, Nat.reduceBEq, Nat.reduceAdd, Nat.reduceMul, Nat.reduceSub, Nat.reduceLeDiff, Nat.reduceEqDiff, Nat.reduceLT, Nat.reducePow, Nat.reduceBneDiff, Nat.reduceBNe, Int.reduceBEq, Int.reduceEq, Int.reduceLT, Int.reduceLE, Int.reduceToNat, String.reduceBEq, PI, hfr2], fun o x ho hx2 => ?_⟩ (by simp only [↓PR, PO, PC, PX, tyI, tyF, tyX, tyL, tyK, tyB, tyE, tyM, tyP, tyQ, Nat.reduceBEq, Nat.reduceAdd, Nat.reduceMul, Nat.reduceSub, Nat.reduceLeDiff, Nat.reduceEqDiff, Nat.reduceLT, Nat.reducePow, Nat.reduceBneDiff, Nat.reduceBNe, Int.reduceBEq, Int.reduceEq, Int.reduceLT, Int.reduceLE, Int.reduceToNat, String.reduceBEq, PI]) (by simp only [↓PR, PO, PC, PX, tyI, tyF, tyX, tyL, tyK, tyB, tyE, tyM, tyP, tyQ, Nat.reduceBEq, Nat.reduceAdd, Nat.reduceMul, Nat.reduceSub, Nat.reduceLeDiff, Nat.reduceEqDiff, Nat.reduceLT, Nat.reducePow, Nat.reduceBneDiff, Nat.reduceBNe, Int.reduceBEq, Int.reduceEq, Int.reduceLT, Int.reduceLE, Int.reduceToNat, String.reduceBEq, PI]) (fun σ' a b => hk' σ' (by rw [heq2, hwo]; rfl) a b)
              have := hkp2.ob o x ho hx2
              simp only [↓PR, PO, PC, PX, tyI, tyF, tyX, tyL, tyK, tyB, tyE, tyM, tyP, tyQ, Nat.reduceBEq, Nat.reduceAdd, Nat.reduceMul, Nat.reduceSub, Nat.reduceLeDiff, Nat.reduceEqDiff, Nat.reduceLT, Nat.reducePow, Nat.reduceBneDiff, Nat.reduceBNe, Int.reduceBEq, Int.reduceEq, Int.reduceLT, Int.reduceLE, Int.reduceToNat, String.reduceBEq, PI, ho, this, okill_loT]
            · have hwo : wrOp k kv2 op = some (pSet kv2 (op.var, op.val) k) := by unfold wrOp; rw [if_neg (by rw [hwf]; decide), if_neg (fun h => h.elim (fun ⟨v', h1, h2⟩ => by rw [hv] at h1; cases h1) (fun h1 => absurd h1 ‹_›))]
              rw [hwo] at heq2
              refine sem_updp Tryd.underlying84 pair138 (o := 12) (kv := kv2) (p := (op.var, op.val)) (x := k) (by simp only [↓PR, PO, PC, PX, tyI, tyF, tyX, tyL, tyK, tyB, tyE, tyM, tyP, tyQ, Nat.reduceBEq, Nat.reduceAdd, Nat.reduceMul, Nat.reduceSub, Nat.reduceLeDiff, Nat.reduceEqDiff, Nat.reduceLT, Nat.reducePow, Nat.reduceBneDiff, Nat.reduceBNe, Int.reduceBEq, Int.reduceEq, Int.reduceLT, Int.reduceLE, Int.reduceToNat, String.reduceBEq, r4]) (by simp only [↓PR, PO, PC, PX, tyI, tyF, tyX, tyL, tyK, tyB, tyE, tyM, tyP, tyQ, Nat.reduceBEq, Nat.reduceAdd, Nat.reduceMul, Nat.reduceSub, Nat.reduceLeDiff, Nat.reduceEqDiff, Nat.reduceLT, Nat.reducePow, Nat.reduceBneDiff, Nat.reduceBNe, Int.reduceBEq, Int.reduceEq, Int.reduceLT, Int.reduceLE, Int.reduceToNat, String.reduceBEq, m12, k_pmap]) (by simp only [↓PR, PO, PC, PX, tyI, tyF, tyX, tyL, tyK, tyB, tyE, tyM, tyP, tyQ, Nat.reduceBEq, Nat.reduceAdd, Nat.reduceMul, Nat.reduceSub, Nat.reduceLeDiff, Nat.reduceEqDiff, Nat.reduceLT, Nat.reducePow, Nat.reduceBneDiff, Nat.reduceBNe, Int.reduceBEq, Int.reduceEq, Int.reduceLT, Int.reduceLE, Int.reduceToNat, String.reduceBEq]) (by simp only [↓PR, PO, PC, PX, tyI, tyF, tyX, tyL, tyK, tyB, tyE, tyM, tyP, tyQ, Nat.reduceBEq, Nat.reduceAdd, Nat.reduceMul, Nat.reduceSub, Nat.reduceLeDiff, Nat.reduceEqDiff, Nat.reduceLT, Nat.reducePow, Nat.reduceBneDiff, Nat.reduceBNe, Int.reduceBEq, Int.reduceEq, Int.reduceLT, Int.reduceLE, Int.reduceToNat, String.reduceBEq, r5]) ?_
              (refine of_gate ?_; repeat' ((first | (with_reducible refine gate_in ?_) | (with_reducible refine spK_intro ?_ ?_ <;> intro hp) | (with_reducible refine brK_intro ?_ ?_ <;> intro hb <;> try rw [hb]) | (with_reducible refine draw_in (by unfold DrawOk; decide +kernel) ?_)) <;> try simp only [↓PR, PO, PC, PX, tyI, tyF, tyX, tyL, tyK, tyB, tyE, tyM, tyP, tyQ, Nat.reduceBEq, Nat.reduceAdd, Nat.reduceMul, Nat.reduceSub, Nat.reduceLeDiff, Nat.reduceEqDiff, Nat.reduceLT, Nat.reducePow, Nat.reduceBneDiff, Nat.reduceBNe, Int.reduceBEq, Int.reduceEq, Int.reduceLT, Int.reduceLE, Int.reduceToNat, String.reduceBEq, PI, r13, r14, r15, r5, r4, r21, r22, r23, List.length_map, hy, Op.enc_eq, hwj]))
              refine ⟨_, (j + 1, pSet kv2 (op.var, op.val) k), Ghost.refl _, ⟨by dsimp only; omega, heq2, ?_, ?_, ?_, ?_, ?_, ?_, ?_, ?_, ?_, ?_, ?_⟩, by dsimp only; omega⟩
              iterate 10 (· simp only [↓PR, PO, PC, PX, tyI, tyF, tyX, tyL, tyK, tyB, tyE, tyM, tyP, tyQ, Nat.reduceBEq, Nat.reduceAdd, Nat.reduceMul, Nat.reduceSub, Nat.reduceLeDiff, Nat.reduceEqDiff, Nat.reduceLT, Nat.reducePow, Nat.reduceBneDiff, Nat.reduceBNe, Int.reduceBEq, Int.reduceEq, Int.reduceLT, Int.reduceLE, Int.reduceToNat, String.reduceBEq, PI, r13, r14, r15, r5, r4, r21, r22, hwj, k_pmap, hfr2])
              · intro o x ho hx2
                have := hkp2.ob o x ho hx2
                simp only [↓PR, PO, PC, PX, tyI, tyF, tyX, tyL, tyK, tyB, tyE, tyM, tyP, tyQ, Nat.reduceBEq, Nat.reduceAdd, Nat.reduceMul, Nat.reduceSub, Nat.reduceLeDiff, Nat.reduceEqDiff, Nat.reduceLT, Nat.reducePow, Nat.reduceBneDiff, Nat.reduceBNe, Int.reduceBEq, Int.reduceEq, Int.reduceLT, Int.reduceLE, Int.reduceToNat, String.reduceBEq, PI, ho, this, okill_loT]
        · exact absurd ‹_› (by omega)
      · (refine of_gate ?_; repeat' ((first | (with_reducible refine gate_in ?_) | (with_reducible refine spK_intro ?_ ?_ <;> intro hp) | (with_reducible refine brK_intro ?_ ?_ <;> intro hb <;> try rw [hb]) | (with_reducible refine draw_in (by unfold DrawOk; decide +kernel) ?_)) <;> try simp only [↓PR, PO, PC, PX, tyI, tyF, tyX, tyL, tyK, tyB, tyE, tyM, tyP, tyQ, Nat.reduceBEq, Nat.reduceAdd, Nat.reduceMul, Nat.reduceSub, Nat.reduceLeDiff, Nat.reduceEqDiff, Nat.reduceLT, Nat.reducePow, Nat.reduceBneDiff, Nat.reduceBNe, Int.reduceBEq, Int.reduceEq, Int.reduceLT, Int.reduceLE, Int.reduceToNat, String.reduceBEq, PI, r13, r14, r15, r5, r4, r21, r22, r23, List.length_map, hw]))
        · exact absurd ‹_› (by omega)
        · have hd0 : rs[k].ops.drop j = [] := List.drop_eq_nil_of_le (by omega)
          rw [hd0] at heq2
          refine ⟨_, (k + 1, kv2), Ghost.refl _, ⟨by dsimp only; omega, heq2, ?_, ?_, ?_, ?_, ?_, ?_, ?_⟩, by dsimp only; omega⟩
          iterate 6 (· simp only [↓PR, PO, PC, PX, tyI, tyF, tyX, tyL, tyK, tyB, tyE, tyM, tyP, tyQ, Nat.reduceBEq, Nat.reduceAdd, Nat.reduceMul, Nat.reduceSub, Nat.reduceLeDiff, Nat.reduceEqDiff, Nat.reduceLT, Nat.reducePow, Nat.reduceBneDiff, Nat.reduceBNe, Int.reduceBEq, Int.reduceEq, Int.reduceLT, Int.reduceLE, Int.reduceToNat, String.reduceBEq, PI, r13, r14, hw, r4, m12, k_pmap, hfr2])
          · intro o x ho hx2
            have := hkp2.ob o x ho hx2
            simp only [↓PR, PO, PC, PX, tyI, tyF, tyX, tyL, tyK, tyB, tyE, tyM, tyP, tyQ, Nat.reduceBEq, Nat.reduceAdd, Nat.reduceMul, Nat.reduceSub, Nat.reduceLeDiff, Nat.reduceEqDiff, Nat.reduceLT, Nat.reducePow, Nat.reduceBneDiff, Nat.reduceBNe, Int.reduceBEq, Int.reduceEq, Int.reduceLT, Int.reduceLE, Int.reduceToNat, String.reduceBEq, PI, ho, this, okill_loT]
    · exact absurd ‹_› (by omega)
  · (refine of_gate ?_; repeat' ((first | (with_reducible refine gate_in ?_) | (with_reducible refine spK_intro ?_ ?_ <;> intro hp) | (with_reducible refine brK_intro ?_ ?_ <;> intro hb <;> try rw [hb]) | (with_reducible refine draw_in (by unfold DrawOk; decide +kernel) ?_)) <;> try simp only [↓PR, PO, PC, PX, tyI, tyF, tyX, tyL, tyK, tyB, tyE, tyM, tyP, tyQ, Nat.reduceBEq, Nat.reduceAdd, Nat.reduceMul, Nat.reduceSub, Nat.reduceLeDiff, Nat.reduceEqDiff, Nat.reduceLT, Nat.reducePow, Nat.reduceBneDiff, Nat.reduceBNe, Int.reduceBEq, Int.reduceEq, Int.reduceLT, Int.reduceLE, Int.reduceToNat, String.reduceBEq, PI, r13, r14, r15, r4, List.length_map]))
    · exact absurd ‹_› (by omega)
    · have hd0 : rs.drop k = [] := List.drop_eq_nil_of_le (by omega)
      rw [hd0] at heq
      refine wr_end1 (n := n) hn ⟨by simp only [↓PR, PO, PC, PX, tyI, tyF, tyX, tyL, tyK, tyB, tyE, tyM, tyP, tyQ, Nat.reduceBEq, Nat.reduceAdd, Nat.reduceMul, Nat.reduceSub, Nat.reduceLeDiff, Nat.reduceEqDiff, Nat.reduceLT, Nat.reducePow, Nat.reduceBneDiff, Nat.reduceBNe, Int.reduceBEq, Int.reduceEq, Int.reduceLT, Int.reduceLE, Int.reduceToNat, String.reduceBEq, PI, hfr], fun o x ho hx2 => ?_⟩ (by simp only [↓PR, PO, PC, PX, tyI, tyF, tyX, tyL, tyK, tyB, tyE, tyM, tyP, tyQ, Nat.reduceBEq, Nat.reduceAdd, Nat.reduceMul, Nat.reduceSub, Nat.reduceLeDiff, Nat.reduceEqDiff, Nat.reduceLT, Nat.reducePow, Nat.reduceBneDiff, Nat.reduceBNe, Int.reduceBEq, Int.reduceEq, Int.reduceLT, Int.reduceLE, Int.reduceToNat, String.reduceBEq, PI]) (by simp only [↓PR, PO, PC, PX, tyI, tyF, tyX, tyL, tyK, tyB, tyE, tyM, tyP, tyQ, Nat.reduceBEq, Nat.reduceAdd, Nat.reduceMul, Nat.reduceSub, Nat.reduceLeDiff, Nat.reduceEqDiff, Nat.reduceLT, Nat.reducePow, Nat.reduceBneDiff, Nat.reduceBNe, Int.reduceBEq, Int.reduceEq, Int.reduceLT, Int.reduceLE, Int.reduceToNat, String.reduceBEq, PI]) (by simp only [↓PR, PO, PC, PX, tyI, tyF, tyX, tyL, tyK, tyB, tyE, tyM, tyP, tyQ, Nat.reduceBEq, Nat.reduceAdd, Nat.reduceMul, Nat.reduceSub, Nat.reduceLeDiff, Nat.reduceEqDiff, Nat.reduceLT, Nat.reducePow, Nat.reduceBneDiff, Nat.reduceBNe, Int.reduceBEq, Int.reduceEq, Int.reduceLT, Int.reduceLE, Int.reduceToNat, String.reduceBEq, PI, m12]) (fun σ' a b c => hK σ' kv heq a b c)
      have := hkp.ob o x ho hx2
      simp only [↓PR, PO, PC, PX, tyI, tyF, tyX, tyL, tyK, tyB, tyE, tyM, tyP, tyQ, Nat.reduceBEq, Nat.reduceAdd, Nat.reduceMul, Nat.reduceSub, Nat.reduceLeDiff, Nat.reduceEqDiff, Nat.reduceLT, Nat.reducePow, Nat.reduceBneDiff, Nat.reduceBNe, Int.reduceBEq, Int.reduceEq, Int.reduceLT, Int.reduceLE, Int.reduceToNat, String.reduceBEq, PI, ho, this, okill_loT]
end Go.VC
