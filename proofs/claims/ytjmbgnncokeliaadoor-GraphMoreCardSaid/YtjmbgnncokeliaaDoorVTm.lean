/- unique.Sources. -/
import Derived.Test.YtjmbgnncokeliaaDoorVTk
import Derived.Test.YtjmbgnncokeliaaDoorVTn
set_option maxRecDepth 100000
set_option linter.unusedSimpArgs false
set_option linter.unusedVariables false
namespace Go.VC
open Go.RowKit Go.Proofs Go.IntWalk
/-! ### Maps of ints to truth values -/
def encB (l : List (Int × Bool)) : List (Int × D) := l.map fun p => (p.1, dB p.2)
theorem kvg_bool (l : List (Int × Bool)) (n : Int) : (kvGet (encB l) n).getD (.v (.bool false)) = .v (.bool ((assoc l n).getD false)) := by
  rw [encB, kvGet_map dB]; cases assoc l n <;> rfl
theorem kvs_bool (l : List (Int × Bool)) (n : Int) (y : Bool) : kvSet (encB l) n (.v (.bool y)) = encB (assocSet l n y) := kvSet_map dB n y l
theorem assoc_self {α : Type} (n : Int) (y : α) : ∀ l : List (Int × α), assoc (assocSet l n y) n = some y
  | [] => by simp [assocSet, assoc]
  | (k, x) :: l => by
    simp only [assocSet]
    split
    · simp [assoc, *]
    · simp [assoc, *, assoc_self n y l]
/-- Whose writes a transaction's operations read or are: behind a variable's first own write, its own. -/
def srcRow (kv : PKv) (i : Int) : List Op → List (Int × Bool) → List Int
  | [], _ => []
  | o :: os, own => (if (assoc own o.var).getD false || o.w then i else srcOf kv i o) :: srcRow kv i os (assocSet own o.var ((assoc own o.var).getD false || o.w))
def srcRows (kv : PKv) : List Kp → Int → List (List Int)
  | [], _ => []
  | r :: rs, i => srcRow kv i r.ops [] :: srcRows kv rs (i + 1)
def intRow (l : List Int) : List D := [.sl (l.map fun n => [dI n])]
/-- What Sources answers. -/
def sourcesE (h : List Ev) : Int := if checkE h = 0 then (if (wrAll (tabAt h h.length) 0 []).isNone then 9 else 0) else checkE h
def sourcesR (h : List Ev) : List (List Int) := if checkE h = 0 then (match wrAll (tabAt h h.length) 0 [] with
  | some kv => srcRows kv (tabAt h h.length) 0
  | none => []) else []
theorem encB_nil : encB [] = [] := rfl
theorem f_pmap {kv : PKv} {o : Nat} {f : Nat → D} : Ob.frz o f (.sem (pmap kv)) = .sem (pmap kv) := rfl
theorem left_r {n t : Nat} {σ σ' : S} {r : R} (h : LeftL n σ σ') (hr : σ.regs t = r) (hf : FineR n r) : σ'.regs t = r := by
  have := h.1 t (by rw [hr]; exact hf)
  rw [this, hr]
theorem left_m {n o : Nat} {σ σ' : S} {x : Ob} (h : LeftL n σ σ') (hm : σ.mem o = some x) (hf : FineO n x) (h1 : (o == n) = false) (h2 : decide (o < 900000000) = true) : σ'.mem o = some x := h.2 o x h1 h2 hm hf
theorem fineO_mpo {q : Nat} {kv : List (Int × D)} : FineO q (.mpo kv) := ⟨rfl, rfl, fun _ _ => rfl⟩
theorem fineO_pmap {q : Nat} {kv : PKv} : FineO q (.sem (pmap kv)) := fineO_sem (by simp [pmap])
structure SoI (rs : List Kp) (kv : PKv) (k : Nat) (σ : S) : Prop where
  le : k ≤ rs.length
  r5 : σ.regs 5 = .omp 800000
  r7 : σ.regs 7 = .own 7
  r23 : σ.regs 23 = .a (rowsA rs)
  r24 : σ.regs 24 = .a (I rs.length)
  r25 : σ.regs 25 = .a (I k)
  m8 : σ.mem 800000 = some (.sem (pmap kv))
  m7 : ∃ done : List (List Int), σ.mem 7 = some (.log 30 1 (done.map intRow)) ∧ done.length = k ∧ srcRows kv rs 0 = done ++ srcRows kv (rs.drop k) k
/-- The inner loop: what own holds of the operations ahead, what is told of them. -/
structure SoJ (rs : List Kp) (kv : PKv) (r : Kp) (k j : Nat) (done : List (List Int)) (σ : S) : Prop where
  le : j ≤ r.ops.length
  r5 : σ.regs 5 = .omp 800000
  r7 : σ.regs 7 = .own 7
  r23 : σ.regs 23 = .a (rowsA rs)
  r24 : σ.regs 24 = .a (I rs.length)
  r25 : σ.regs 25 = .a (I k)
  r8 : σ.regs 8 = .a (I k)
  r10 : σ.regs 10 = .own 10
  r11 : σ.regs 11 = .omp 30
  r32 : σ.regs 32 = .a (.d (.sl (r.ops.map Op.enc)))
  r33 : σ.regs 33 = .a (I r.ops.length)
  r34 : σ.regs 34 = .a (I j)
  m8 : σ.mem 800000 = some (.sem (pmap kv))
  m7 : σ.mem 7 = some (.log 30 1 (done.map intRow))
  m : ∃ (own : List (Int × Bool)) (out : List Int), σ.mem 30 = some (.mpo (encB own)) ∧ σ.mem 10 = some (.log 3 1 (out.map fun n => [dI n])) ∧ out.length = j ∧ srcRow kv k r.ops [] = out ++ srcRow kv k (r.ops.drop j) own
theorem t28 (h : List Ev) : Holds Tryd.prog GL 28 [evsA h] [.a (.d (.sl ((sourcesR h).map intRow))), .a (I (sourcesE h))] := by
  refine fn_holds (vs := [.tmp 2, .tmp 3]) (by kernel_rfl) Tryd.func28 rfl rfl (by kernel_rfl) (by kernel_rfl) rfl ?_
  (refine of_gate ?_; repeat' ((first | (with_reducible refine gate_in ?_) | (with_reducible refine spK_intro ?_ ?_ <;> intro hp) | (with_reducible refine brK_intro ?_ ?_ <;> intro hb <;> try rw [hb]) | (with_reducible refine draw_in (by unfold DrawOk; decide +kernel) ?_)) <;> try simp only [↓PR, PO, PC, PX, tyI, tyF, tyX, tyL, tyK, tyB, tyE, tyM, tyP, tyQ, Nat.reduceBEq, Nat.reduceAdd, Nat.reduceMul, Nat.reduceSub, Nat.reduceLeDiff, Nat.reduceEqDiff, Nat.reduceLT, Nat.reducePow, Nat.reduceBneDiff, Nat.reduceBNe, Int.reduceBEq, Int.reduceEq, Int.reduceLT, Int.reduceLE, Int.reduceToNat, String.reduceBEq]))
  refine call_inl (look_inl (n := 800000) rfl (fun σ2 kv h0 hw hm hL => ?_) (fun σ2 e he hL => ?_))
  · have hl := tab_len (h := h) h.length
    have h60 := check60 h0
    (refine of_gate ?_; repeat' ((first | (with_reducible refine gate_in ?_) | (with_reducible refine spK_intro ?_ ?_ <;> intro hp) | (with_reducible refine brK_intro ?_ ?_ <;> intro hb <;> try rw [hb]) | (with_reducible refine draw_in (by unfold DrawOk; decide +kernel) ?_)) <;> try simp only [↓PR, PO, PC, PX, tyI, tyF, tyX, tyL, tyK, tyB, tyE, tyM, tyP, tyQ, Nat.reduceBEq, Nat.reduceAdd, Nat.reduceMul, Nat.reduceSub, Nat.reduceLeDiff, Nat.reduceEqDiff, Nat.reduceLT, Nat.reducePow, Nat.reduceBneDiff, Nat.reduceBNe, Int.reduceBEq, Int.reduceEq, Int.reduceLT, Int.reduceLE, Int.reduceToNat, String.reduceBEq, one, rowsA, List.length_map]))
    refine awp_loopG (fun k => SoI (tabAt h h.length) kv k) (fun k => (tabAt h h.length).length - k) 0 ⟨_, Ghost.refl _, Nat.zero_le _, ?_, ?_, ?_, ?_, ?_, ?_, ⟨[], ?_, rfl, rfl⟩⟩ ?_
    iterate 7 (· simp only [↓PR, PO, PC, PX, tyI, tyF, tyX, tyL, tyK, tyB, tyE, tyM, tyP, tyQ, Nat.reduceBEq, Nat.reduceAdd, Nat.reduceMul, Nat.reduceSub, Nat.reduceLeDiff, Nat.reduceEqDiff, Nat.reduceLT, Nat.reducePow, Nat.reduceBneDiff, Nat.reduceBNe, Int.reduceBEq, Int.reduceEq, Int.reduceLT, Int.reduceLE, Int.reduceToNat, String.reduceBEq, rowsA, hm, k_pmap]; try rfl)
    intro k σ hI
    obtain ⟨hk, r5, r7, r23, r24, r25, m8, done, m7, hdl, hdone⟩ := hI
    simp only [rowsA] at r23
    by_cases hkl : k < (tabAt h h.length).length
    · have hx : (tabAt h h.length)[k]? = some (tabAt h h.length)[k] := List.getElem?_eq_getElem hkl
      have hw1 := wrap_succ (n := (tabAt h h.length).length) hkl (by simp only [maxLen]; omega)
      have hdr : (tabAt h h.length).drop k = (tabAt h h.length)[k] :: (tabAt h h.length).drop (k + 1) := List.drop_eq_getElem_cons hkl
      have hol := tab_ops (h := h) h.length _ (List.getElem_mem hkl)
      (refine of_gate ?_; repeat' ((first | (with_reducible refine gate_in ?_) | (with_reducible refine spK_intro ?_ ?_ <;> intro hp) | (with_reducible refine brK_intro ?_ ?_ <;> intro hb <;> try rw [hb]) | (with_reducible refine draw_in (by unfold DrawOk; decide +kernel) ?_)) <;> try simp only [↓PR, PO, PC, PX, tyI, tyF, tyX, tyL, tyK, tyB, tyE, tyM, tyP, tyQ, Nat.reduceBEq, Nat.reduceAdd, Nat.reduceMul, Nat.reduceSub, Nat.reduceLeDiff, Nat.reduceEqDiff, Nat.reduceLT, Nat.reducePow, Nat.reduceBneDiff, Nat.reduceBNe, Int.reduceBEq, Int.reduceEq, Int.reduceLT, Int.reduceLE, Int.reduceToNat, String.reduceBEq, r5, r7, r23, r24, r25, m7, m8, hx, Kp.row, List.length_map]))
      · refine awp_loopG (fun j => SoJ (tabAt h h.length) kv (tabAt h h.length)[k] k j done) (fun j => (tabAt h h.length)[k].ops.length - j) 0 ⟨_, Ghost.refl _, Nat.zero_le _, ?_, ?_, ?_, ?_, ?_, ?_, ?_, ?_, ?_, ?_, ?_, ?_, ?_, ⟨[], [], ?_, ?_, rfl, rfl⟩⟩ ?_
        iterate 15 (· simp only [↓PR, PO, PC, PX, tyI, tyF, tyX, tyL, tyK, tyB, tyE, tyM, tyP, tyQ, Nat.reduceBEq, Nat.reduceAdd, Nat.reduceMul, Nat.reduceSub, Nat.reduceLeDiff, Nat.reduceEqDiff, Nat.reduceLT, Nat.reducePow, Nat.reduceBneDiff, Nat.reduceBNe, Int.reduceBEq, Int.reduceEq, Int.reduceLT, Int.reduceLE, Int.reduceToNat, String.reduceBEq, r5, r7, r23, rowsA, r24, r25, m8, k_pmap, m7, encB_nil]; try rfl)
        intro j τ hJ
        obtain ⟨hj, r5, r7, r23, r24, r25, r8, r10, r11, r32, r33, r34, m8, m7, own, out, m30, m10, hol2, hout⟩ := hJ
        simp only [rowsA] at r23
        by_cases hjl : j < (tabAt h h.length)[k].ops.length
        · have hy : (tabAt h h.length)[k].ops[j]? = some (tabAt h h.length)[k].ops[j] := List.getElem?_eq_getElem hjl
          have hwj := wrap_succ (n := (tabAt h h.length)[k].ops.length) hjl (by simp only [maxLen]; omega)
          have hdj : (tabAt h h.length)[k].ops.drop j = (tabAt h h.length)[k].ops[j] :: (tabAt h h.length)[k].ops.drop (j + 1) := List.drop_eq_getElem_cons hjl
          rw [hdj] at hout
          generalize (tabAt h h.length)[k].ops[j] = op at hy hout
          have hg : ∀ b, (assoc (assocSet own op.var b) op.var).getD false = b := fun b => by rw [assoc_self]; rfl
          have hbb : ((assoc own op.var).getD false || op.w) = true ∨ ((assoc own op.var).getD false = false ∧ op.w = false) := by
            cases (assoc own op.var).getD false <;> cases op.w <;> simp
          rcases hbb with hbb | ⟨hb0, hw0⟩
          · by_cases hb0 : (assoc own op.var).getD false = true
            · (refine of_gate ?_; repeat' ((first | (with_reducible refine gate_in ?_) | (with_reducible refine spK_intro ?_ ?_ <;> intro hp) | (with_reducible refine brK_intro ?_ ?_ <;> intro hb <;> try rw [hb]) | (with_reducible refine draw_in (by unfold DrawOk; decide +kernel) ?_)) <;> try simp only [↓PR, PO, PC, PX, tyI, tyF, tyX, tyL, tyK, tyB, tyE, tyM, tyP, tyQ, Nat.reduceBEq, Nat.reduceAdd, Nat.reduceMul, Nat.reduceSub, Nat.reduceLeDiff, Nat.reduceEqDiff, Nat.reduceLT, Nat.reducePow, Nat.reduceBneDiff, Nat.reduceBNe, Int.reduceBEq, Int.reduceEq, Int.reduceLT, Int.reduceLE, Int.reduceToNat, String.reduceBEq, r5, r7, r23, r24, r25, r8, r10, r11, r32, r33, r34, m8, m7, m30, m10, hy, Op.enc_eq, hwj, List.length_map, kvg_bool, kvs_bool, hb0, hg]))
              rotate_left
              · exact absurd ‹_› (by omega)
              refine ⟨by omega, _, j + 1, Ghost.refl _, ⟨by omega, ?_, ?_, ?_, ?_, ?_, ?_, ?_, ?_, ?_, ?_, ?_, ?_, ?_, ⟨assocSet own op.var true, out ++ [(k : Int)], ?_, ?_, by simp [hol2], ?_⟩⟩, by omega⟩
              iterate 15 (· simp only [↓PR, PO, PC, PX, tyI, tyF, tyX, tyL, tyK, tyB, tyE, tyM, tyP, tyQ, Nat.reduceBEq, Nat.reduceAdd, Nat.reduceMul, Nat.reduceSub, Nat.reduceLeDiff, Nat.reduceEqDiff, Nat.reduceLT, Nat.reducePow, Nat.reduceBneDiff, Nat.reduceBNe, Int.reduceBEq, Int.reduceEq, Int.reduceLT, Int.reduceLE, Int.reduceToNat, String.reduceBEq, r5, r7, r23, rowsA, r24, r25, r8, r11, r32, r33, hwj, m8, k_pmap, m7, List.map_append]; try rfl)
              · rw [hout]; simp only [srcRow, hbb, List.append_assoc]; rfl

            · simp only [Bool.not_eq_true] at hb0
              have hw1 : op.w = true := by simpa [hb0] using hbb
              (refine of_gate ?_; repeat' ((first | (with_reducible refine gate_in ?_) | (with_reducible refine spK_intro ?_ ?_ <;> intro hp) | (with_reducible refine brK_intro ?_ ?_ <;> intro hb <;> try rw [hb]) | (with_reducible refine draw_in (by unfold DrawOk; decide +kernel) ?_)) <;> try simp only [↓PR, PO, PC, PX, tyI, tyF, tyX, tyL, tyK, tyB, tyE, tyM, tyP, tyQ, Nat.reduceBEq, Nat.reduceAdd, Nat.reduceMul, Nat.reduceSub, Nat.reduceLeDiff, Nat.reduceEqDiff, Nat.reduceLT, Nat.reducePow, Nat.reduceBneDiff, Nat.reduceBNe, Int.reduceBEq, Int.reduceEq, Int.reduceLT, Int.reduceLE, Int.reduceToNat, String.reduceBEq, r5, r7, r23, r24, r25, r8, r10, r11, r32, r33, r34, m8, m7, m30, m10, hy, Op.enc_eq, hwj, List.length_map, kvg_bool, kvs_bool, hb0, hg, hw1]))
              rotate_left
              · exact absurd ‹_› (by omega)
              refine ⟨by omega, _, j + 1, Ghost.refl _, ⟨by omega, ?_, ?_, ?_, ?_, ?_, ?_, ?_, ?_, ?_, ?_, ?_, ?_, ?_, ⟨assocSet own op.var true, out ++ [(k : Int)], ?_, ?_, by simp [hol2], ?_⟩⟩, by omega⟩
              iterate 15 (· simp only [↓PR, PO, PC, PX, tyI, tyF, tyX, tyL, tyK, tyB, tyE, tyM, tyP, tyQ, Nat.reduceBEq, Nat.reduceAdd, Nat.reduceMul, Nat.reduceSub, Nat.reduceLeDiff, Nat.reduceEqDiff, Nat.reduceLT, Nat.reducePow, Nat.reduceBneDiff, Nat.reduceBNe, Int.reduceBEq, Int.reduceEq, Int.reduceLT, Int.reduceLE, Int.reduceToNat, String.reduceBEq, r5, r7, r23, rowsA, r24, r25, r8, r11, r32, r33, hwj, m8, k_pmap, m7, List.map_append]; try rfl)
              · rw [hout]; simp only [srcRow, hbb, List.append_assoc]; rfl

          · have hbb : ((assoc own op.var).getD false || op.w) = false := by rw [hb0, hw0]; rfl
            (refine of_gate ?_; repeat' ((first | (with_reducible refine gate_in ?_) | (with_reducible refine spK_intro ?_ ?_ <;> intro hp) | (with_reducible refine brK_intro ?_ ?_ <;> intro hb <;> try rw [hb]) | (with_reducible refine draw_in (by unfold DrawOk; decide +kernel) ?_)) <;> try simp only [↓PR, PO, PC, PX, tyI, tyF, tyX, tyL, tyK, tyB, tyE, tyM, tyP, tyQ, Nat.reduceBEq, Nat.reduceAdd, Nat.reduceMul, Nat.reduceSub, Nat.reduceLeDiff, Nat.reduceEqDiff, Nat.reduceLT, Nat.reducePow, Nat.reduceBneDiff, Nat.reduceBNe, Int.reduceBEq, Int.reduceEq, Int.reduceLT, Int.reduceLE, Int.reduceToNat, String.reduceBEq, r5, r7, r23, r24, r25, r8, r10, r11, r32, r33, r34, m8, m7, m30, m10, hy, Op.enc_eq, hwj, List.length_map, kvg_bool, kvs_bool, hb0, hg, hw0]))
            rotate_left
            · exact absurd ‹_› (by omega)
            have he : [dB false, dI op.var, dI op.val] = op.enc := by rw [Op.enc_eq, hw0]
            rw [he]
            refine call_inl (source_inl (n := 800000) (m := 899999) (kv := kv) (i := k) (op := op) rfl (by simp only [↓PR, PO, PC, PX, tyI, tyF, tyX, tyL, tyK, tyB, tyE, tyM, tyP, tyQ, Nat.reduceBEq, Nat.reduceAdd, Nat.reduceMul, Nat.reduceSub, Nat.reduceLeDiff, Nat.reduceEqDiff, Nat.reduceLT, Nat.reducePow, Nat.reduceBneDiff, Nat.reduceBNe, Int.reduceBEq, Int.reduceEq, Int.reduceLT, Int.reduceLE, Int.reduceToNat, String.reduceBEq, m8, k_pmap]) (fun τ2 hL2 => ?_))
            have e5 := left_r hL2 (t := 5) (r := .omp 800000) (by simp only [↓PR, PO, PC, PX, tyI, tyF, tyX, tyL, tyK, tyB, tyE, tyM, tyP, tyQ, Nat.reduceBEq, Nat.reduceAdd, Nat.reduceMul, Nat.reduceSub, Nat.reduceLeDiff, Nat.reduceEqDiff, Nat.reduceLT, Nat.reducePow, Nat.reduceBneDiff, Nat.reduceBNe, Int.reduceBEq, Int.reduceEq, Int.reduceLT, Int.reduceLE, Int.reduceToNat, String.reduceBEq, r5]) (fineR_omp rfl)
            have e7 := left_r hL2 (t := 7) (r := .own 7) (by simp only [↓PR, PO, PC, PX, tyI, tyF, tyX, tyL, tyK, tyB, tyE, tyM, tyP, tyQ, Nat.reduceBEq, Nat.reduceAdd, Nat.reduceMul, Nat.reduceSub, Nat.reduceLeDiff, Nat.reduceEqDiff, Nat.reduceLT, Nat.reducePow, Nat.reduceBneDiff, Nat.reduceBNe, Int.reduceBEq, Int.reduceEq, Int.reduceLT, Int.reduceLE, Int.reduceToNat, String.reduceBEq, r7]) (fineR_own rfl)
            have e8 := left_r hL2 (t := 8) (r := .a (I k)) (by simp only [↓PR, PO, PC, PX, tyI, tyF, tyX, tyL, tyK, tyB, tyE, tyM, tyP, tyQ, Nat.reduceBEq, Nat.reduceAdd, Nat.reduceMul, Nat.reduceSub, Nat.reduceLeDiff, Nat.reduceEqDiff, Nat.reduceLT, Nat.reducePow, Nat.reduceBneDiff, Nat.reduceBNe, Int.reduceBEq, Int.reduceEq, Int.reduceLT, Int.reduceLE, Int.reduceToNat, String.reduceBEq, r8]) fineR_a
            have e10 := left_r hL2 (t := 10) (r := .own 10) (by simp only [↓PR, PO, PC, PX, tyI, tyF, tyX, tyL, tyK, tyB, tyE, tyM, tyP, tyQ, Nat.reduceBEq, Nat.reduceAdd, Nat.reduceMul, Nat.reduceSub, Nat.reduceLeDiff, Nat.reduceEqDiff, Nat.reduceLT, Nat.reducePow, Nat.reduceBneDiff, Nat.reduceBNe, Int.reduceBEq, Int.reduceEq, Int.reduceLT, Int.reduceLE, Int.reduceToNat, String.reduceBEq, r10]) (fineR_own rfl)
            have e11 := left_r hL2 (t := 11) (r := .omp 30) (by simp only [↓PR, PO, PC, PX, tyI, tyF, tyX, tyL, tyK, tyB, tyE, tyM, tyP, tyQ, Nat.reduceBEq, Nat.reduceAdd, Nat.reduceMul, Nat.reduceSub, Nat.reduceLeDiff, Nat.reduceEqDiff, Nat.reduceLT, Nat.reducePow, Nat.reduceBneDiff, Nat.reduceBNe, Int.reduceBEq, Int.reduceEq, Int.reduceLT, Int.reduceLE, Int.reduceToNat, String.reduceBEq, r11]) (fineR_omp rfl)
            have e23 := left_r hL2 (t := 23) (r := .a (.d (.sl ((tabAt h h.length).map Kp.row)))) (by simp only [↓PR, PO, PC, PX, tyI, tyF, tyX, tyL, tyK, tyB, tyE, tyM, tyP, tyQ, Nat.reduceBEq, Nat.reduceAdd, Nat.reduceMul, Nat.reduceSub, Nat.reduceLeDiff, Nat.reduceEqDiff, Nat.reduceLT, Nat.reducePow, Nat.reduceBneDiff, Nat.reduceBNe, Int.reduceBEq, Int.reduceEq, Int.reduceLT, Int.reduceLE, Int.reduceToNat, String.reduceBEq, r23]) fineR_a
            have e24 := left_r hL2 (t := 24) (r := .a (I (tabAt h h.length).length)) (by simp only [↓PR, PO, PC, PX, tyI, tyF, tyX, tyL, tyK, tyB, tyE, tyM, tyP, tyQ, Nat.reduceBEq, Nat.reduceAdd, Nat.reduceMul, Nat.reduceSub, Nat.reduceLeDiff, Nat.reduceEqDiff, Nat.reduceLT, Nat.reducePow, Nat.reduceBneDiff, Nat.reduceBNe, Int.reduceBEq, Int.reduceEq, Int.reduceLT, Int.reduceLE, Int.reduceToNat, String.reduceBEq, r24]) fineR_a
            have e25 := left_r hL2 (t := 25) (r := .a (I k)) (by simp only [↓PR, PO, PC, PX, tyI, tyF, tyX, tyL, tyK, tyB, tyE, tyM, tyP, tyQ, Nat.reduceBEq, Nat.reduceAdd, Nat.reduceMul, Nat.reduceSub, Nat.reduceLeDiff, Nat.reduceEqDiff, Nat.reduceLT, Nat.reducePow, Nat.reduceBneDiff, Nat.reduceBNe, Int.reduceBEq, Int.reduceEq, Int.reduceLT, Int.reduceLE, Int.reduceToNat, String.reduceBEq, r25]) fineR_a
            have e32 := left_r hL2 (t := 32) (r := .a (.d (.sl ((tabAt h h.length)[k].ops.map Op.enc)))) (by simp only [↓PR, PO, PC, PX, tyI, tyF, tyX, tyL, tyK, tyB, tyE, tyM, tyP, tyQ, Nat.reduceBEq, Nat.reduceAdd, Nat.reduceMul, Nat.reduceSub, Nat.reduceLeDiff, Nat.reduceEqDiff, Nat.reduceLT, Nat.reducePow, Nat.reduceBneDiff, Nat.reduceBNe, Int.reduceBEq, Int.reduceEq, Int.reduceLT, Int.reduceLE, Int.reduceToNat, String.reduceBEq, r32]) fineR_a
            have e33 := left_r hL2 (t := 33) (r := .a (I (tabAt h h.length)[k].ops.length)) (by simp only [↓PR, PO, PC, PX, tyI, tyF, tyX, tyL, tyK, tyB, tyE, tyM, tyP, tyQ, Nat.reduceBEq, Nat.reduceAdd, Nat.reduceMul, Nat.reduceSub, Nat.reduceLeDiff, Nat.reduceEqDiff, Nat.reduceLT, Nat.reducePow, Nat.reduceBneDiff, Nat.reduceBNe, Int.reduceBEq, Int.reduceEq, Int.reduceLT, Int.reduceLE, Int.reduceToNat, String.reduceBEq, r33]) fineR_a
            have e34 := left_r hL2 (t := 34) (r := .a (I j)) (by simp only [↓PR, PO, PC, PX, tyI, tyF, tyX, tyL, tyK, tyB, tyE, tyM, tyP, tyQ, Nat.reduceBEq, Nat.reduceAdd, Nat.reduceMul, Nat.reduceSub, Nat.reduceLeDiff, Nat.reduceEqDiff, Nat.reduceLT, Nat.reducePow, Nat.reduceBneDiff, Nat.reduceBNe, Int.reduceBEq, Int.reduceEq, Int.reduceLT, Int.reduceLE, Int.reduceToNat, String.reduceBEq, r34]) fineR_a
            have e57 := left_r hL2 (t := 57) (r := .own 10) (by simp only [↓PR, PO, PC, PX, tyI, tyF, tyX, tyL, tyK, tyB, tyE, tyM, tyP, tyQ, Nat.reduceBEq, Nat.reduceAdd, Nat.reduceMul, Nat.reduceSub, Nat.reduceLeDiff, Nat.reduceEqDiff, Nat.reduceLT, Nat.reducePow, Nat.reduceBneDiff, Nat.reduceBNe, Int.reduceBEq, Int.reduceEq, Int.reduceLT, Int.reduceLE, Int.reduceToNat, String.reduceBEq, r10]) (fineR_own rfl)
            have q800000 := left_m hL2 (o := 800000) (x := .sem (pmap kv)) (by simp only [↓PR, PO, PC, PX, tyI, tyF, tyX, tyL, tyK, tyB, tyE, tyM, tyP, tyQ, Nat.reduceBEq, Nat.reduceAdd, Nat.reduceMul, Nat.reduceSub, Nat.reduceLeDiff, Nat.reduceEqDiff, Nat.reduceLT, Nat.reducePow, Nat.reduceBneDiff, Nat.reduceBNe, Int.reduceBEq, Int.reduceEq, Int.reduceLT, Int.reduceLE, Int.reduceToNat, String.reduceBEq, m8, m7, m30, m10, k_pmap]) fineO_pmap rfl rfl
            have q7 := left_m hL2 (o := 7) (x := .log 30 1 (done.map intRow)) (by simp only [↓PR, PO, PC, PX, tyI, tyF, tyX, tyL, tyK, tyB, tyE, tyM, tyP, tyQ, Nat.reduceBEq, Nat.reduceAdd, Nat.reduceMul, Nat.reduceSub, Nat.reduceLeDiff, Nat.reduceEqDiff, Nat.reduceLT, Nat.reducePow, Nat.reduceBneDiff, Nat.reduceBNe, Int.reduceBEq, Int.reduceEq, Int.reduceLT, Int.reduceLE, Int.reduceToNat, String.reduceBEq, m8, m7, m30, m10, k_pmap]) fineO_log rfl rfl
            have q30 := left_m hL2 (o := 30) (x := .mpo (encB (assocSet own op.var false))) (by simp only [↓PR, PO, PC, PX, tyI, tyF, tyX, tyL, tyK, tyB, tyE, tyM, tyP, tyQ, Nat.reduceBEq, Nat.reduceAdd, Nat.reduceMul, Nat.reduceSub, Nat.reduceLeDiff, Nat.reduceEqDiff, Nat.reduceLT, Nat.reducePow, Nat.reduceBneDiff, Nat.reduceBNe, Int.reduceBEq, Int.reduceEq, Int.reduceLT, Int.reduceLE, Int.reduceToNat, String.reduceBEq, m30, kvs_bool]) fineO_mpo rfl rfl
            have q10 := left_m hL2 (o := 10) (x := .log 3 1 (out.map fun n => [dI n])) (by simp only [↓PR, PO, PC, PX, tyI, tyF, tyX, tyL, tyK, tyB, tyE, tyM, tyP, tyQ, Nat.reduceBEq, Nat.reduceAdd, Nat.reduceMul, Nat.reduceSub, Nat.reduceLeDiff, Nat.reduceEqDiff, Nat.reduceLT, Nat.reducePow, Nat.reduceBneDiff, Nat.reduceBNe, Int.reduceBEq, Int.reduceEq, Int.reduceLT, Int.reduceLE, Int.reduceToNat, String.reduceBEq, m8, m7, m30, m10, k_pmap]) fineO_log rfl rfl
            (refine of_gate ?_; repeat' ((first | (with_reducible refine gate_in ?_) | (with_reducible refine spK_intro ?_ ?_ <;> intro hp) | (with_reducible refine brK_intro ?_ ?_ <;> intro hb <;> try rw [hb]) | (with_reducible refine draw_in (by unfold DrawOk; decide +kernel) ?_)) <;> try simp only [↓PR, PO, PC, PX, tyI, tyF, tyX, tyL, tyK, tyB, tyE, tyM, tyP, tyQ, Nat.reduceBEq, Nat.reduceAdd, Nat.reduceMul, Nat.reduceSub, Nat.reduceLeDiff, Nat.reduceEqDiff, Nat.reduceLT, Nat.reducePow, Nat.reduceBneDiff, Nat.reduceBNe, Int.reduceBEq, Int.reduceEq, Int.reduceLT, Int.reduceLE, Int.reduceToNat, String.reduceBEq, one, e5, e7, e8, e10, e11, e23, e24, e25, e32, e33, e34, e57, q800000, q7, q30, q10]))
            refine ⟨by rw [List.length_map]; omega, _, j + 1, Ghost.refl _, ⟨by omega, ?_, ?_, ?_, ?_, ?_, ?_, ?_, ?_, ?_, ?_, ?_, ?_, ?_, ⟨assocSet own op.var false, out ++ [srcOf kv k op], ?_, ?_, by simp [hol2], ?_⟩⟩, by omega⟩
            iterate 15 (· simp only [↓PR, PO, PC, PX, tyI, tyF, tyX, tyL, tyK, tyB, tyE, tyM, tyP, tyQ, Nat.reduceBEq, Nat.reduceAdd, Nat.reduceMul, Nat.reduceSub, Nat.reduceLeDiff, Nat.reduceEqDiff, Nat.reduceLT, Nat.reducePow, Nat.reduceBneDiff, Nat.reduceBNe, Int.reduceBEq, Int.reduceEq, Int.reduceLT, Int.reduceLE, Int.reduceToNat, String.reduceBEq, e5, e7, e23, rowsA, e24, e25, e8, e11, e32, e33, hwj, q800000, k_pmap, q7, q30, List.map_append]; try rfl)
            · rw [hout]; simp only [srcRow, hbb, List.append_assoc]; rfl
        · (refine of_gate ?_; repeat' ((first | (with_reducible refine gate_in ?_) | (with_reducible refine spK_intro ?_ ?_ <;> intro hp) | (with_reducible refine brK_intro ?_ ?_ <;> intro hb <;> try rw [hb]) | (with_reducible refine draw_in (by unfold DrawOk; decide +kernel) ?_)) <;> try simp only [↓PR, PO, PC, PX, tyI, tyF, tyX, tyL, tyK, tyB, tyE, tyM, tyP, tyQ, Nat.reduceBEq, Nat.reduceAdd, Nat.reduceMul, Nat.reduceSub, Nat.reduceLeDiff, Nat.reduceEqDiff, Nat.reduceLT, Nat.reducePow, Nat.reduceBneDiff, Nat.reduceBNe, Int.reduceBEq, Int.reduceEq, Int.reduceLT, Int.reduceLE, Int.reduceToNat, String.reduceBEq, r5, r7, r23, r24, r25, r8, r10, r11, r32, r33, r34, m8, m7, m30, m10, Op.enc_eq, List.length_map]))
          · exact absurd ‹_› (by omega)
          · have hd0 : (tabAt h h.length)[k].ops.drop j = [] := List.drop_eq_nil_of_le (by omega)
            rw [hd0] at hout
            simp only [srcRow, List.append_nil] at hout
            refine ⟨by omega, _, k + 1, Ghost.refl _, ⟨by omega, ?_, ?_, ?_, ?_, ?_, ?_, ⟨done ++ [out], ?_, by simp [hdl], ?_⟩⟩, by omega⟩
            iterate 7 (· simp only [↓PR, PO, PC, PX, tyI, tyF, tyX, tyL, tyK, tyB, tyE, tyM, tyP, tyQ, Nat.reduceBEq, Nat.reduceAdd, Nat.reduceMul, Nat.reduceSub, Nat.reduceLeDiff, Nat.reduceEqDiff, Nat.reduceLT, Nat.reducePow, Nat.reduceBneDiff, Nat.reduceBNe, Int.reduceBEq, Int.reduceEq, Int.reduceLT, Int.reduceLE, Int.reduceToNat, String.reduceBEq, r5, r7, r23, rowsA, r24, hw1, m8, f_pmap, k_pmap, List.map_append]; try rfl)
            · rw [hdone, hdr]; simp only [srcRows, hout, List.append_assoc]; rfl
      · exact absurd ‹_› (by omega)
    · (refine of_gate ?_; repeat' ((first | (with_reducible refine gate_in ?_) | (with_reducible refine spK_intro ?_ ?_ <;> intro hp) | (with_reducible refine brK_intro ?_ ?_ <;> intro hb <;> try rw [hb]) | (with_reducible refine draw_in (by unfold DrawOk; decide +kernel) ?_)) <;> try simp only [↓PR, PO, PC, PX, tyI, tyF, tyX, tyL, tyK, tyB, tyE, tyM, tyP, tyQ, Nat.reduceBEq, Nat.reduceAdd, Nat.reduceMul, Nat.reduceSub, Nat.reduceLeDiff, Nat.reduceEqDiff, Nat.reduceLT, Nat.reducePow, Nat.reduceBneDiff, Nat.reduceBNe, Int.reduceBEq, Int.reduceEq, Int.reduceLT, Int.reduceLE, Int.reduceToNat, String.reduceBEq, r5, r7, r23, r24, r25, m7, m8, List.length_map]))
      · exact absurd ‹_› (by omega)
      · have hd0 : (tabAt h h.length).drop k = [] := List.drop_eq_nil_of_le (by omega)
        rw [hd0] at hdone
        simp only [srcRows, List.append_nil] at hdone
        unfold sourcesR sourcesE
        simp [h0, hw, hdone]
  · have hne : ¬ e = 0 := by
      rcases he with ⟨h0, rfl⟩ | ⟨h0, hw, rfl⟩
      · exact h0
      · decide
    (refine of_gate ?_; repeat' ((first | (with_reducible refine gate_in ?_) | (with_reducible refine spK_intro ?_ ?_ <;> intro hp) | (with_reducible refine brK_intro ?_ ?_ <;> intro hb <;> try rw [hb]) | (with_reducible refine draw_in (by unfold DrawOk; decide +kernel) ?_)) <;> try simp only [↓PR, PO, PC, PX, tyI, tyF, tyX, tyL, tyK, tyB, tyE, tyM, tyP, tyQ, Nat.reduceBEq, Nat.reduceAdd, Nat.reduceMul, Nat.reduceSub, Nat.reduceLeDiff, Nat.reduceEqDiff, Nat.reduceLT, Nat.reducePow, Nat.reduceBneDiff, Nat.reduceBNe, Int.reduceBEq, Int.reduceEq, Int.reduceLT, Int.reduceLE, Int.reduceToNat, String.reduceBEq, one]))
    · exact absurd ‹e = 0› hne
    · unfold sourcesR sourcesE
      rcases he with ⟨h0, rfl⟩ | ⟨h0, hw, rfl⟩
      · simp [h0]
      · simp [h0, hw]
end Go.VC
