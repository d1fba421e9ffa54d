/- The law ProperEach: its function. -/
import Derived.Test.YtjmbgnncokeliaaDoorVC
set_option maxRecDepth 100000
set_option linter.unusedSimpArgs false
set_option linter.unusedVariables false
namespace Go.VC
open Go.RowKit Go.Proofs Go.IntWalk
theorem t53 (e x : Ev) : Holds Tryd.prog GL 53 [e.a, .d (.pt x.enc)] [.a (B (!(e.tx == x.tx)))] := by
  refine fn_holds (vs := [.tmp 3]) (by kernel_rfl) Tryd.func53 rfl rfl (by kernel_rfl) (by kernel_rfl) rfl ?_
  simp only [Ev.enc_eq]
  (refine of_gate ?_; repeat' ((first | (with_reducible refine gate_in ?_) | (with_reducible refine spK_intro ?_ ?_ <;> intro hp) | (with_reducible refine brK_intro ?_ ?_ <;> intro hb <;> try rw [hb]) | (with_reducible refine draw_in (by unfold DrawOk; decide +kernel) ?_)) <;> try simp only [↓PR, PO, PC, PX, tyI, tyF, tyX, tyL, tyK, tyB, tyE, tyM, tyP, tyQ, Nat.reduceBEq, Nat.reduceAdd, Nat.reduceMul, Nat.reduceSub, Nat.reduceLeDiff, Nat.reduceEqDiff, Nat.reduceLT, Nat.reducePow, Nat.reduceBneDiff, Nat.reduceBNe, Int.reduceBEq, Int.reduceEq, Int.reduceLT, Int.reduceLE, Int.reduceToNat, String.reduceBEq]))
  all_goals simp_all
/-! ### The plain law -/
def WFl (h : List Ev) : Prop := ∀ pre e suf, h = pre ++ e :: suf → may (lastK pre e.tx) e.kind = true
def oneOf (h : List Ev) (t : Int) : List Ev := h.filter fun y => y.tx == t
theorem last_one (t : Int) : ∀ (h : List Ev) (a : Int), (oneOf h t).foldl (lastStep t) a = h.foldl (lastStep t) a
  | [], a => rfl
  | e :: h, a => by
    unfold oneOf
    simp only [List.filter_cons, List.foldl_cons]
    by_cases he : e.tx = t
    · simp only [he, beq_self_eq_true, if_true, List.foldl_cons]; exact last_one t h _
    · have : lastStep t a e = a := by simp [lastStep, he]
      simp only [beq_eq_false_iff_ne.2 he, Bool.false_eq_true, if_false, this]; exact last_one t h _
theorem lastK_one (h : List Ev) (t : Int) : lastK (oneOf h t) t = lastK h t := last_one t h (-1)
theorem wf_one {h : List Ev} (hw : WFl h) (t : Int) : WFl (oneOf h t) := by
  intro pre e suf hs
  unfold oneOf at hs
  obtain ⟨l1, l2, rfl, h1, h2⟩ := List.filter_eq_append_iff.1 hs
  obtain ⟨l3, l4, rfl, h3, h4, h5⟩ := List.filter_eq_cons_iff.1 h2
  have he : e.tx = t := by simpa using h4
  have hf : l3.filter (fun y => y.tx == t) = [] := by
    rw [List.filter_eq_nil_iff]; intro y hy; exact h3 y hy
  have hp : pre = oneOf (l1 ++ l3) t := by unfold oneOf; rw [List.filter_append, h1, hf, List.append_nil]
  have := hw (l1 ++ l3) e l4 (by simp)
  rw [hp, he, lastK_one, ← he]; exact this
theorem wf_all {h : List Ev} (hw : ∀ x ∈ h, WFl (oneOf h x.tx)) : WFl h := by
  rintro pre e suf rfl
  have := hw e (by simp) (oneOf pre e.tx) e (oneOf suf e.tx) (by simp [oneOf])
  rwa [lastK_one] at this
theorem wf_first (h : List Ev) : WFl h ↔ firstI h = h.length := by
  constructor
  · intro hw
    refine first_none (k := h.length) (Nat.le_refl _) fun i hi => ?_
    have hx : h[i]? = some h[i] := List.getElem?_eq_getElem hi
    simp only [badAt, hx, Bool.not_eq_false']
    exact hw (h.take i) h[i] (h.drop (i + 1)) (by rw [← List.drop_eq_getElem_cons hi, List.take_append_drop])
  · rintro hf pre e suf rfl
    have hb : badAt (pre ++ e :: suf) pre.length = false := by
      unfold firstI at hf
      have hn : (List.range (pre ++ e :: suf).length).find? (badAt (pre ++ e :: suf)) = none := by
        cases hq : (List.range (pre ++ e :: suf).length).find? (badAt (pre ++ e :: suf)) with
        | none => rfl
        | some k =>
          rw [hq] at hf
          have := List.mem_range.1 (List.mem_of_find?_eq_some hq)
          simp only [Option.getD_some] at hf; omega
      have := List.find?_eq_none.1 hn pre.length (List.mem_range.2 (by simp))
      simpa using this
    simpa [badAt] using hb
theorem names_one {t : Int} : ∀ (h : List Ev) (acc : List Int), (∀ e ∈ h, e.tx = t) → (acc = [] ∨ acc = [t]) → (h.foldl nameStep acc).length ≤ 1
  | [], acc, _, ha => by rcases ha with rfl | rfl <;> simp
  | e :: h, acc, hh, ha => by
    rw [List.foldl_cons]
    refine names_one h _ (fun x hx => hh x (by simp [hx])) ?_
    have he := hh e (by simp)
    rcases ha with rfl | rfl <;> simp [nameStep, he]
theorem right_one {h : List Ev} (hr : rightH h = true) (t : Int) : rightH (oneOf h t) = true := by
  simp only [rightH, Bool.and_eq_true, decide_eq_true_eq, List.all_eq_true] at hr ⊢
  refine ⟨⟨Nat.le_trans (List.length_filter_le _ _) hr.1.1, fun e he => hr.1.2 e (List.mem_filter.1 he).1⟩, ?_⟩
  exact Nat.le_trans (names_one (t := t) _ [] (fun e he => by simpa using (List.mem_filter.1 he).2) (.inl rfl)) (by omega)
theorem check_wf {h : List Ev} (hr : rightH h = true) : checkE h = 0 ↔ WFl h := by
  rw [wf_first, run_eq]
  have hle := runF_le h []
  simp only [checkE, hr, if_true]
  constructor
  · intro h1; by_cases hc : (runF h []).1 < h.length
    · simp [hc] at h1
    · omega
  · intro h1; simp [h1]
def goodX (h : List Ev) (x : Ev) : Bool := decide (checkE (oneOf h x.tx) = 0) && decide (checkI (oneOf h x.tx) = ((oneOf h x.tx).length : Int))
theorem good_wf {h : List Ev} (hr : rightH h = true) (x : Ev) : goodX h x = true ↔ WFl (oneOf h x.tx) := by
  have hr1 := right_one hr x.tx
  rw [← check_wf hr1]
  simp only [goodX, Bool.and_eq_true, decide_eq_true_eq]
  constructor
  · exact fun h => h.1
  · intro h0
    refine ⟨h0, ?_⟩
    have := (wf_first _).1 ((check_wf hr1).1 h0)
    simp only [checkI, hr1, if_true]
    rw [← run_eq, this]
theorem each_law {h : List Ev} (he : ¬ checkE h = 1) : h.all (goodX h) = decide (checkE h = 0) := by
  have hr : rightH h = true := by
    cases hr : rightH h with
    | true => rfl
    | false => simp [checkE, hr] at he
  rw [Bool.eq_iff_iff, List.all_eq_true, decide_eq_true_eq, check_wf hr]
  constructor
  · intro hg; exact wf_all fun x hx => (good_wf hr x).1 (hg x hx)
  · intro hw x hx; exact (good_wf hr x).2 (wf_one hw x.tx)
/-! ### The law's function -/
theorem t13 (h0 : List Ev) : Holds Tryd.prog GL 13 [evsA h0] [.a (B true)] := by
  refine fn_holds (vs := [.tmp 2]) (by kernel_rfl) Tryd.func13 rfl rfl (by kernel_rfl) (by kernel_rfl) rfl ?_
  have m0 : (0 : Int) ≤ min (h0.length : Int) 65 := by omega
  have m1 : min (h0.length : Int) 65 ≤ (h0.length : Int) := by omega
  (refine of_gate ?_; repeat' ((first | (with_reducible refine gate_in ?_) | (with_reducible refine spK_intro ?_ ?_ <;> intro hp) | (with_reducible refine brK_intro ?_ ?_ <;> intro hb <;> try rw [hb]) | (with_reducible refine draw_in (by unfold DrawOk; decide +kernel) ?_) | (with_reducible apply c45) | (with_reducible apply c43)) <;> try simp only [↓PR, PO, PC, PX, tyI, tyF, tyX, tyL, tyK, tyB, tyE, tyM, tyP, tyQ, Nat.reduceBEq, Nat.reduceAdd, Nat.reduceMul, Nat.reduceSub, Nat.reduceLeDiff, Nat.reduceEqDiff, Nat.reduceLT, Nat.reducePow, Nat.reduceBneDiff, Nat.reduceBNe, Int.reduceBEq, Int.reduceEq, Int.reduceLT, Int.reduceLE, Int.reduceToNat, String.reduceBEq, List.length_map, m0, m1, cut65, Int.le_refl, Int.toNat_zero]))
  have hl65 : (h0.take 65).length ≤ 65 := by simp; omega
  generalize h0.take 65 = h at *
  refine awp_loopA (fun k : Nat => [(0, .a (evsA h)), (4, .a (I (checkE h))), (5, .a (B ((h.take k).all (goodX h)))), (24, .a (evsA h)), (25, .a (I h.length)), (26, .a (I k))]) (fun _ => []) (fun k => k ≤ h.length) (h.length - ·) 0 ?_ ?_ (Nat.zero_le _) ?_
  · simp only [↓PR, PO, PC, PX, tyI, tyF, tyX, tyL, tyK, tyB, tyE, tyM, tyP, tyQ, Nat.reduceBEq, Nat.reduceAdd, Nat.reduceMul, Nat.reduceSub, Nat.reduceLeDiff, Nat.reduceEqDiff, Nat.reduceLT, Nat.reducePow, Nat.reduceBneDiff, Nat.reduceBNe, Int.reduceBEq, Int.reduceEq, Int.reduceLT, Int.reduceLE, Int.reduceToNat, String.reduceBEq] <;> rfl
  · simp only [↓PR, PO, PC, PX, tyI, tyF, tyX, tyL, tyK, tyB, tyE, tyM, tyP, tyQ, Nat.reduceBEq, Nat.reduceAdd, Nat.reduceMul, Nat.reduceSub, Nat.reduceLeDiff, Nat.reduceEqDiff, Nat.reduceLT, Nat.reducePow, Nat.reduceBneDiff, Nat.reduceBNe, Int.reduceBEq, Int.reduceEq, Int.reduceLT, Int.reduceLE, Int.reduceToNat, String.reduceBEq]
  intro k j hk
  (refine of_gate ?_; repeat' ((first | (with_reducible refine gate_in ?_) | (with_reducible refine spK_intro ?_ ?_ <;> intro hp) | (with_reducible refine brK_intro ?_ ?_ <;> intro hb <;> try rw [hb]) | (with_reducible refine draw_in (by unfold DrawOk; decide +kernel) ?_)) <;> try simp only [↓PR, PO, PC, PX, tyI, tyF, tyX, tyL, tyK, tyB, tyE, tyM, tyP, tyQ, Nat.reduceBEq, Nat.reduceAdd, Nat.reduceMul, Nat.reduceSub, Nat.reduceLeDiff, Nat.reduceEqDiff, Nat.reduceLT, Nat.reducePow, Nat.reduceBneDiff, Nat.reduceBNe, Int.reduceBEq, Int.reduceEq, Int.reduceLT, Int.reduceLE, Int.reduceToNat, String.reduceBEq]))
  · have hkl : k < h.length := by omega
    have hx : h[k]? = some h[k] := List.getElem?_eq_getElem hkl
    have hw := wrap_succ (n := h.length) hkl (by simp only [maxLen]; omega)
    have hone : (h.filter fun e => !!(e.tx == h[k].tx)) = oneOf h h[k].tx := by simp [oneOf]
    have hall : ∀ b, goodX h h[k] = b → (h.take (k + 1)).all (goodX h) = ((h.take k).all (goodX h) && b) := fun b hb => by
      rw [List.take_succ_eq_append_getElem hkl, List.all_append, ← hb]; simp
    (refine of_gate ?_; repeat' ((first | (with_reducible refine gate_in ?_) | (with_reducible refine spK_intro ?_ ?_ <;> intro hp) | (with_reducible refine brK_intro ?_ ?_ <;> intro hb <;> try rw [hb]) | (with_reducible refine draw_in (by unfold DrawOk; decide +kernel) ?_)) <;> try simp only [↓PR, PO, PC, PX, tyI, tyF, tyX, tyL, tyK, tyB, tyE, tyM, tyP, tyQ, Nat.reduceBEq, Nat.reduceAdd, Nat.reduceMul, Nat.reduceSub, Nat.reduceLeDiff, Nat.reduceEqDiff, Nat.reduceLT, Nat.reducePow, Nat.reduceBneDiff, Nat.reduceBNe, Int.reduceBEq, Int.reduceEq, Int.reduceLT, Int.reduceLE, Int.reduceToNat, String.reduceBEq, hx, Ev.enc_eq, hw]))
    refine call_dat (t52 h (by omega)) ?_
    (refine of_gate ?_; repeat' ((first | (with_reducible refine gate_in ?_) | (with_reducible refine spK_intro ?_ ?_ <;> intro hp) | (with_reducible refine brK_intro ?_ ?_ <;> intro hb <;> try rw [hb]) | (with_reducible refine draw_in (by unfold DrawOk; decide +kernel) ?_)) <;> try simp only [↓PR, PO, PC, PX, tyI, tyF, tyX, tyL, tyK, tyB, tyE, tyM, tyP, tyQ, Nat.reduceBEq, Nat.reduceAdd, Nat.reduceMul, Nat.reduceSub, Nat.reduceLeDiff, Nat.reduceEqDiff, Nat.reduceLT, Nat.reducePow, Nat.reduceBneDiff, Nat.reduceBNe, Int.reduceBEq, Int.reduceEq, Int.reduceLT, Int.reduceLE, Int.reduceToNat, String.reduceBEq, hx, Ev.enc_eq, hw]))
    refine call_inl (del_inl (h := h) (p := fun y => !(y.tx == h[k].tx)) (by decide) (by simp only [↓PR, PO, PC, PX, tyI, tyF, tyX, tyL, tyK, tyB, tyE, tyM, tyP, tyQ, Nat.reduceBEq, Nat.reduceAdd, Nat.reduceMul, Nat.reduceSub, Nat.reduceLeDiff, Nat.reduceEqDiff, Nat.reduceLT, Nat.reducePow, Nat.reduceBneDiff, Nat.reduceBNe, Int.reduceBEq, Int.reduceEq, Int.reduceLT, Int.reduceLE, Int.reduceToNat, String.reduceBEq]) (by simp only [maxLen]; omega) (fun e he => t53 e h[k]) (fun hfil σ' hR hM => ?_) (fun σ' hR => ?_))
    · rw [S.of_self (σ := σ') (L := [(0, .a (evsA h)), (4, .a (I (checkE h))), (5, .a (B ((h.take k).all (goodX h)))), (24, .a (evsA h)), (25, .a (I h.length)), (26, .a (I k))]) (M := [(31, .log 69 4 (h.map Ev.enc))])
        ⟨hR _ _ (by simp only [↓PR, PO, PC, PX, tyI, tyF, tyX, tyL, tyK, tyB, tyE, tyM, tyP, tyQ, Nat.reduceBEq, Nat.reduceAdd, Nat.reduceMul, Nat.reduceSub, Nat.reduceLeDiff, Nat.reduceEqDiff, Nat.reduceLT, Nat.reducePow, Nat.reduceBneDiff, Nat.reduceBNe, Int.reduceBEq, Int.reduceEq, Int.reduceLT, Int.reduceLE, Int.reduceToNat, String.reduceBEq]), hR _ _ (by simp only [↓PR, PO, PC, PX, tyI, tyF, tyX, tyL, tyK, tyB, tyE, tyM, tyP, tyQ, Nat.reduceBEq, Nat.reduceAdd, Nat.reduceMul, Nat.reduceSub, Nat.reduceLeDiff, Nat.reduceEqDiff, Nat.reduceLT, Nat.reducePow, Nat.reduceBneDiff, Nat.reduceBNe, Int.reduceBEq, Int.reduceEq, Int.reduceLT, Int.reduceLE, Int.reduceToNat, String.reduceBEq]), hR _ _ (by simp only [↓PR, PO, PC, PX, tyI, tyF, tyX, tyL, tyK, tyB, tyE, tyM, tyP, tyQ, Nat.reduceBEq, Nat.reduceAdd, Nat.reduceMul, Nat.reduceSub, Nat.reduceLeDiff, Nat.reduceEqDiff, Nat.reduceLT, Nat.reducePow, Nat.reduceBneDiff, Nat.reduceBNe, Int.reduceBEq, Int.reduceEq, Int.reduceLT, Int.reduceLE, Int.reduceToNat, String.reduceBEq]), hR _ _ (by simp only [↓PR, PO, PC, PX, tyI, tyF, tyX, tyL, tyK, tyB, tyE, tyM, tyP, tyQ, Nat.reduceBEq, Nat.reduceAdd, Nat.reduceMul, Nat.reduceSub, Nat.reduceLeDiff, Nat.reduceEqDiff, Nat.reduceLT, Nat.reducePow, Nat.reduceBneDiff, Nat.reduceBNe, Int.reduceBEq, Int.reduceEq, Int.reduceLT, Int.reduceLE, Int.reduceToNat, String.reduceBEq]), hR _ _ (by simp only [↓PR, PO, PC, PX, tyI, tyF, tyX, tyL, tyK, tyB, tyE, tyM, tyP, tyQ, Nat.reduceBEq, Nat.reduceAdd, Nat.reduceMul, Nat.reduceSub, Nat.reduceLeDiff, Nat.reduceEqDiff, Nat.reduceLT, Nat.reducePow, Nat.reduceBneDiff, Nat.reduceBNe, Int.reduceBEq, Int.reduceEq, Int.reduceLT, Int.reduceLE, Int.reduceToNat, String.reduceBEq]), hR _ _ (by simp only [↓PR, PO, PC, PX, tyI, tyF, tyX, tyL, tyK, tyB, tyE, tyM, tyP, tyQ, Nat.reduceBEq, Nat.reduceAdd, Nat.reduceMul, Nat.reduceSub, Nat.reduceLeDiff, Nat.reduceEqDiff, Nat.reduceLT, Nat.reducePow, Nat.reduceBneDiff, Nat.reduceBNe, Int.reduceBEq, Int.reduceEq, Int.reduceLT, Int.reduceLE, Int.reduceToNat, String.reduceBEq]), trivial⟩ ⟨hM, trivial⟩]
      simp only [one]
      (refine of_gate ?_; repeat' ((first | (with_reducible refine gate_in ?_) | (with_reducible refine spK_intro ?_ ?_ <;> intro hp) | (with_reducible refine brK_intro ?_ ?_ <;> intro hb <;> try rw [hb]) | (with_reducible refine draw_in (by unfold DrawOk; decide +kernel) ?_)) <;> try simp only [↓PR, PO, PC, PX, tyI, tyF, tyX, tyL, tyK, tyB, tyE, tyM, tyP, tyQ, Nat.reduceBEq, Nat.reduceAdd, Nat.reduceMul, Nat.reduceSub, Nat.reduceLeDiff, Nat.reduceEqDiff, Nat.reduceLT, Nat.reducePow, Nat.reduceBneDiff, Nat.reduceBNe, Int.reduceBEq, Int.reduceEq, Int.reduceLT, Int.reduceLE, Int.reduceToNat, String.reduceBEq]))
      refine call_own _ (t45 h) (by simp only [↓PR, PO, PC, PX, tyI, tyF, tyX, tyL, tyK, tyB, tyE, tyM, tyP, tyQ, Nat.reduceBEq, Nat.reduceAdd, Nat.reduceMul, Nat.reduceSub, Nat.reduceLeDiff, Nat.reduceEqDiff, Nat.reduceLT, Nat.reducePow, Nat.reduceBneDiff, Nat.reduceBNe, Int.reduceBEq, Int.reduceEq, Int.reduceLT, Int.reduceLE, Int.reduceToNat, String.reduceBEq, argsA, argA]) rfl ?_
      (refine of_gate ?_; repeat' ((first | (with_reducible refine gate_in ?_) | (with_reducible refine spK_intro ?_ ?_ <;> intro hp) | (with_reducible refine brK_intro ?_ ?_ <;> intro hb <;> try rw [hb]) | (with_reducible refine draw_in (by unfold DrawOk; decide +kernel) ?_)) <;> try simp only [↓PR, PO, PC, PX, tyI, tyF, tyX, tyL, tyK, tyB, tyE, tyM, tyP, tyQ, Nat.reduceBEq, Nat.reduceAdd, Nat.reduceMul, Nat.reduceSub, Nat.reduceLeDiff, Nat.reduceEqDiff, Nat.reduceLT, Nat.reducePow, Nat.reduceBneDiff, Nat.reduceBNe, Int.reduceBEq, Int.reduceEq, Int.reduceLT, Int.reduceLE, Int.reduceToNat, String.reduceBEq, List.length_map, hw]))
      all_goals rw [hone] at hfil
      · have hg := hall true (by simp [goodX, hfil, *])
        exact ⟨k + 1, by simp only [↓PR, PO, PC, PX, tyI, tyF, tyX, tyL, tyK, tyB, tyE, tyM, tyP, tyQ, Nat.reduceBEq, Nat.reduceAdd, Nat.reduceMul, Nat.reduceSub, Nat.reduceLeDiff, Nat.reduceEqDiff, Nat.reduceLT, Nat.reducePow, Nat.reduceBneDiff, Nat.reduceBNe, Int.reduceBEq, Int.reduceEq, Int.reduceLT, Int.reduceLE, Int.reduceToNat, String.reduceBEq, hg, Bool.and_true], by simp only [↓PR, PO, PC, PX, tyI, tyF, tyX, tyL, tyK, tyB, tyE, tyM, tyP, tyQ, Nat.reduceBEq, Nat.reduceAdd, Nat.reduceMul, Nat.reduceSub, Nat.reduceLeDiff, Nat.reduceEqDiff, Nat.reduceLT, Nat.reducePow, Nat.reduceBneDiff, Nat.reduceBNe, Int.reduceBEq, Int.reduceEq, Int.reduceLT, Int.reduceLE, Int.reduceToNat, String.reduceBEq], hkl, by dsimp only; omega⟩
      · have hg := hall false (by simp [goodX, hfil, *])
        exact ⟨k + 1, by simp only [↓PR, PO, PC, PX, tyI, tyF, tyX, tyL, tyK, tyB, tyE, tyM, tyP, tyQ, Nat.reduceBEq, Nat.reduceAdd, Nat.reduceMul, Nat.reduceSub, Nat.reduceLeDiff, Nat.reduceEqDiff, Nat.reduceLT, Nat.reducePow, Nat.reduceBneDiff, Nat.reduceBNe, Int.reduceBEq, Int.reduceEq, Int.reduceLT, Int.reduceLE, Int.reduceToNat, String.reduceBEq, hg, Bool.and_false], by simp only [↓PR, PO, PC, PX, tyI, tyF, tyX, tyL, tyK, tyB, tyE, tyM, tyP, tyQ, Nat.reduceBEq, Nat.reduceAdd, Nat.reduceMul, Nat.reduceSub, Nat.reduceLeDiff, Nat.reduceEqDiff, Nat.reduceLT, Nat.reducePow, Nat.reduceBneDiff, Nat.reduceBNe, Int.reduceBEq, Int.reduceEq, Int.reduceLT, Int.reduceLE, Int.reduceToNat, String.reduceBEq], hkl, by dsimp only; omega⟩
      · have hg := hall false (by simp [goodX, hfil, *])
        exact ⟨k + 1, by simp only [↓PR, PO, PC, PX, tyI, tyF, tyX, tyL, tyK, tyB, tyE, tyM, tyP, tyQ, Nat.reduceBEq, Nat.reduceAdd, Nat.reduceMul, Nat.reduceSub, Nat.reduceLeDiff, Nat.reduceEqDiff, Nat.reduceLT, Nat.reducePow, Nat.reduceBneDiff, Nat.reduceBNe, Int.reduceBEq, Int.reduceEq, Int.reduceLT, Int.reduceLE, Int.reduceToNat, String.reduceBEq, hg, Bool.and_false], by simp only [↓PR, PO, PC, PX, tyI, tyF, tyX, tyL, tyK, tyB, tyE, tyM, tyP, tyQ, Nat.reduceBEq, Nat.reduceAdd, Nat.reduceMul, Nat.reduceSub, Nat.reduceLeDiff, Nat.reduceEqDiff, Nat.reduceLT, Nat.reducePow, Nat.reduceBneDiff, Nat.reduceBNe, Int.reduceBEq, Int.reduceEq, Int.reduceLT, Int.reduceLE, Int.reduceToNat, String.reduceBEq], hkl, by dsimp only; omega⟩
    · rw [S.of_self (σ := σ') (L := [(0, .a (evsA h)), (4, .a (I (checkE h))), (5, .a (B ((h.take k).all (goodX h)))), (24, .a (evsA h)), (25, .a (I h.length)), (26, .a (I k))]) (M := [])
        ⟨hR _ _ (by simp only [↓PR, PO, PC, PX, tyI, tyF, tyX, tyL, tyK, tyB, tyE, tyM, tyP, tyQ, Nat.reduceBEq, Nat.reduceAdd, Nat.reduceMul, Nat.reduceSub, Nat.reduceLeDiff, Nat.reduceEqDiff, Nat.reduceLT, Nat.reducePow, Nat.reduceBneDiff, Nat.reduceBNe, Int.reduceBEq, Int.reduceEq, Int.reduceLT, Int.reduceLE, Int.reduceToNat, String.reduceBEq]), hR _ _ (by simp only [↓PR, PO, PC, PX, tyI, tyF, tyX, tyL, tyK, tyB, tyE, tyM, tyP, tyQ, Nat.reduceBEq, Nat.reduceAdd, Nat.reduceMul, Nat.reduceSub, Nat.reduceLeDiff, Nat.reduceEqDiff, Nat.reduceLT, Nat.reducePow, Nat.reduceBneDiff, Nat.reduceBNe, Int.reduceBEq, Int.reduceEq, Int.reduceLT, Int.reduceLE, Int.reduceToNat, String.reduceBEq]), hR _ _ (by simp only [↓PR, PO, PC, PX, tyI, tyF, tyX, tyL, tyK, tyB, tyE, tyM, tyP, tyQ, Nat.reduceBEq, Nat.reduceAdd, Nat.reduceMul, Nat.reduceSub, Nat.reduceLeDiff, Nat.reduceEqDiff, Nat.reduceLT, Nat.reducePow, Nat.reduceBneDiff, Nat.reduceBNe, Int.reduceBEq, Int.reduceEq, Int.reduceLT, Int.reduceLE, Int.reduceToNat, String.reduceBEq]), hR _ _ (by simp only [↓PR, PO, PC, PX, tyI, tyF, tyX, tyL, tyK, tyB, tyE, tyM, tyP, tyQ, Nat.reduceBEq, Nat.reduceAdd, Nat.reduceMul, Nat.reduceSub, Nat.reduceLeDiff, Nat.reduceEqDiff, Nat.reduceLT, Nat.reducePow, Nat.reduceBneDiff, Nat.reduceBNe, Int.reduceBEq, Int.reduceEq, Int.reduceLT, Int.reduceLE, Int.reduceToNat, String.reduceBEq]), hR _ _ (by simp only [↓PR, PO, PC, PX, tyI, tyF, tyX, tyL, tyK, tyB, tyE, tyM, tyP, tyQ, Nat.reduceBEq, Nat.reduceAdd, Nat.reduceMul, Nat.reduceSub, Nat.reduceLeDiff, Nat.reduceEqDiff, Nat.reduceLT, Nat.reducePow, Nat.reduceBneDiff, Nat.reduceBNe, Int.reduceBEq, Int.reduceEq, Int.reduceLT, Int.reduceLE, Int.reduceToNat, String.reduceBEq]), hR _ _ (by simp only [↓PR, PO, PC, PX, tyI, tyF, tyX, tyL, tyK, tyB, tyE, tyM, tyP, tyQ, Nat.reduceBEq, Nat.reduceAdd, Nat.reduceMul, Nat.reduceSub, Nat.reduceLeDiff, Nat.reduceEqDiff, Nat.reduceLT, Nat.reducePow, Nat.reduceBneDiff, Nat.reduceBNe, Int.reduceBEq, Int.reduceEq, Int.reduceLT, Int.reduceLE, Int.reduceToNat, String.reduceBEq]), trivial⟩ trivial]
      simp only [one]
      (refine of_gate ?_; repeat' ((first | (with_reducible refine gate_in ?_) | (with_reducible refine spK_intro ?_ ?_ <;> intro hp) | (with_reducible refine brK_intro ?_ ?_ <;> intro hb <;> try rw [hb]) | (with_reducible refine draw_in (by unfold DrawOk; decide +kernel) ?_) | (with_reducible apply c45)) <;> try simp only [↓PR, PO, PC, PX, tyI, tyF, tyX, tyL, tyK, tyB, tyE, tyM, tyP, tyQ, Nat.reduceBEq, Nat.reduceAdd, Nat.reduceMul, Nat.reduceSub, Nat.reduceLeDiff, Nat.reduceEqDiff, Nat.reduceLT, Nat.reducePow, Nat.reduceBneDiff, Nat.reduceBNe, Int.reduceBEq, Int.reduceEq, Int.reduceLT, Int.reduceLE, Int.reduceToNat, String.reduceBEq, List.length_map, hw]))
      all_goals rw [hone] at *
      · have hg := hall true (by simp [goodX, *])
        exact ⟨k + 1, by simp only [↓PR, PO, PC, PX, tyI, tyF, tyX, tyL, tyK, tyB, tyE, tyM, tyP, tyQ, Nat.reduceBEq, Nat.reduceAdd, Nat.reduceMul, Nat.reduceSub, Nat.reduceLeDiff, Nat.reduceEqDiff, Nat.reduceLT, Nat.reducePow, Nat.reduceBneDiff, Nat.reduceBNe, Int.reduceBEq, Int.reduceEq, Int.reduceLT, Int.reduceLE, Int.reduceToNat, String.reduceBEq, hg, Bool.and_true], by simp only [↓PR, PO, PC, PX, tyI, tyF, tyX, tyL, tyK, tyB, tyE, tyM, tyP, tyQ, Nat.reduceBEq, Nat.reduceAdd, Nat.reduceMul, Nat.reduceSub, Nat.reduceLeDiff, Nat.reduceEqDiff, Nat.reduceLT, Nat.reducePow, Nat.reduceBneDiff, Nat.reduceBNe, Int.reduceBEq, Int.reduceEq, Int.reduceLT, Int.reduceLE, Int.reduceToNat, String.reduceBEq], hkl, by dsimp only; omega⟩
      · have hg := hall false (by simp [goodX, *])
        exact ⟨k + 1, by simp only [↓PR, PO, PC, PX, tyI, tyF, tyX, tyL, tyK, tyB, tyE, tyM, tyP, tyQ, Nat.reduceBEq, Nat.reduceAdd, Nat.reduceMul, Nat.reduceSub, Nat.reduceLeDiff, Nat.reduceEqDiff, Nat.reduceLT, Nat.reducePow, Nat.reduceBneDiff, Nat.reduceBNe, Int.reduceBEq, Int.reduceEq, Int.reduceLT, Int.reduceLE, Int.reduceToNat, String.reduceBEq, hg, Bool.and_false], by simp only [↓PR, PO, PC, PX, tyI, tyF, tyX, tyL, tyK, tyB, tyE, tyM, tyP, tyQ, Nat.reduceBEq, Nat.reduceAdd, Nat.reduceMul, Nat.reduceSub, Nat.reduceLeDiff, Nat.reduceEqDiff, Nat.reduceLT, Nat.reducePow, Nat.reduceBneDiff, Nat.reduceBNe, Int.reduceBEq, Int.reduceEq, Int.reduceLT, Int.reduceLE, Int.reduceToNat, String.reduceBEq], hkl, by dsimp only; omega⟩
      · have hg := hall false (by simp [goodX, *])
        exact ⟨k + 1, by simp only [↓PR, PO, PC, PX, tyI, tyF, tyX, tyL, tyK, tyB, tyE, tyM, tyP, tyQ, Nat.reduceBEq, Nat.reduceAdd, Nat.reduceMul, Nat.reduceSub, Nat.reduceLeDiff, Nat.reduceEqDiff, Nat.reduceLT, Nat.reducePow, Nat.reduceBneDiff, Nat.reduceBNe, Int.reduceBEq, Int.reduceEq, Int.reduceLT, Int.reduceLE, Int.reduceToNat, String.reduceBEq, hg, Bool.and_false], by simp only [↓PR, PO, PC, PX, tyI, tyF, tyX, tyL, tyK, tyB, tyE, tyM, tyP, tyQ, Nat.reduceBEq, Nat.reduceAdd, Nat.reduceMul, Nat.reduceSub, Nat.reduceLeDiff, Nat.reduceEqDiff, Nat.reduceLT, Nat.reducePow, Nat.reduceBneDiff, Nat.reduceBNe, Int.reduceBEq, Int.reduceEq, Int.reduceLT, Int.reduceLE, Int.reduceToNat, String.reduceBEq], hkl, by dsimp only; omega⟩
  · (refine of_gate ?_; repeat' ((first | (with_reducible refine gate_in ?_) | (with_reducible refine spK_intro ?_ ?_ <;> intro hp) | (with_reducible refine brK_intro ?_ ?_ <;> intro hb <;> try rw [hb]) | (with_reducible refine draw_in (by unfold DrawOk; decide +kernel) ?_) | (with_reducible apply c43)) <;> try simp only [↓PR, PO, PC, PX, tyI, tyF, tyX, tyL, tyK, tyB, tyE, tyM, tyP, tyQ, Nat.reduceBEq, Nat.reduceAdd, Nat.reduceMul, Nat.reduceSub, Nat.reduceLeDiff, Nat.reduceEqDiff, Nat.reduceLT, Nat.reducePow, Nat.reduceBneDiff, Nat.reduceBNe, Int.reduceBEq, Int.reduceEq, Int.reduceLT, Int.reduceLE, Int.reduceToNat, String.reduceBEq]))
    all_goals
      have hkl : k = h.length := by omega
      have hlaw := each_law (h := h) (by assumption)
      simp [hkl, hlaw]
      assumption
end Go.VC
