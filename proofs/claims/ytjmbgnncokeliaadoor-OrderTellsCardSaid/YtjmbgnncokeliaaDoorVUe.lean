/- Whose value each Op's is: the law. -/
import Derived.Test.YtjmbgnncokeliaaDoorVUd
import Derived.Test.YtjmbgnncokeliaaDoorVUc
set_option maxRecDepth 100000
set_option linter.unusedSimpArgs false
set_option linter.unusedVariables false
namespace Go.VC
open Go.RowKit Go.Proofs Go.IntWalk
theorem t30 (h : List Ev) : Holds Tryd.prog GL 30 [evsA h] [.a (I (sourcesE h))] := by
  refine fn_holds (vs := [.tmp 2]) (by kernel_rfl) Tryd.func30 rfl rfl (by kernel_rfl) (by kernel_rfl) rfl ?_
  (refine of_gate ?_; repeat' ((first | (with_reducible refine gate_in ?_) | (with_reducible refine spK_intro ?_ ?_ <;> intro hp) | (with_reducible refine brK_intro ?_ ?_ <;> intro hb <;> try rw [hb]) | (with_reducible refine draw_in (by unfold DrawOk; decide +kernel) ?_) | (with_reducible refine And.intro (by first | omega | (simp only [List.length_map, List.length_take]; omega)) ?_) | fail) <;> try simp only [↓PR, PO, PC, PX, tyI, tyF, tyX, tyL, tyK, tyB, tyE, tyM, tyP, tyQ, Nat.reduceBEq, Nat.reduceAdd, Nat.reduceMul, Nat.reduceSub, Nat.reduceLeDiff, Nat.reduceEqDiff, Nat.reduceLT, Nat.reducePow, Nat.reduceBneDiff, Nat.reduceBNe, Int.reduceBEq, Int.reduceEq, Int.reduceLT, Int.reduceLE, Int.reduceToNat]))
  refine call_inl (look_inl (n := 800000) rfl (fun σ2 kv h0 hw hm hL => ?_) (fun σ2 e he hL => ?_))
  · (refine of_gate ?_; repeat' ((first | (with_reducible refine gate_in ?_) | (with_reducible refine spK_intro ?_ ?_ <;> intro hp) | (with_reducible refine brK_intro ?_ ?_ <;> intro hb <;> try rw [hb]) | (with_reducible refine draw_in (by unfold DrawOk; decide +kernel) ?_) | (with_reducible refine And.intro (by first | omega | (simp only [List.length_map, List.length_take]; omega)) ?_) | fail) <;> try simp only [↓PR, PO, PC, PX, tyI, tyF, tyX, tyL, tyK, tyB, tyE, tyM, tyP, tyQ, Nat.reduceBEq, Nat.reduceAdd, Nat.reduceMul, Nat.reduceSub, Nat.reduceLeDiff, Nat.reduceEqDiff, Nat.reduceLT, Nat.reducePow, Nat.reduceBneDiff, Nat.reduceBNe, Int.reduceBEq, Int.reduceEq, Int.reduceLT, Int.reduceLE, Int.reduceToNat, one]))
    simp [sourcesE, h0, hw]
  · (refine of_gate ?_; repeat' ((first | (with_reducible refine gate_in ?_) | (with_reducible refine spK_intro ?_ ?_ <;> intro hp) | (with_reducible refine brK_intro ?_ ?_ <;> intro hb <;> try rw [hb]) | (with_reducible refine draw_in (by unfold DrawOk; decide +kernel) ?_) | (with_reducible refine And.intro (by first | omega | (simp only [List.length_map, List.length_take]; omega)) ?_) | fail) <;> try simp only [↓PR, PO, PC, PX, tyI, tyF, tyX, tyL, tyK, tyB, tyE, tyM, tyP, tyQ, Nat.reduceBEq, Nat.reduceAdd, Nat.reduceMul, Nat.reduceSub, Nat.reduceLeDiff, Nat.reduceEqDiff, Nat.reduceLT, Nat.reducePow, Nat.reduceBneDiff, Nat.reduceBNe, Int.reduceBEq, Int.reduceEq, Int.reduceLT, Int.reduceLE, Int.reduceToNat, one]))
    rcases he with ⟨h0, rfl⟩ | ⟨h0, hw, rfl⟩
    · simp [sourcesE, h0]
    · simp [sourcesE, h0, hw]
theorem c30 {h : List Ev} {dst : Option Tmp} {σ : S} {K : S → Prop} (hK : S.ret σ dst [.a (I (sourcesE h))] K) : callV Tryd.prog GL 30 [.a (evsA h)] dst σ K :=
  call_dat (t30 h) hK
theorem q30 {h : List Ev} {σ : S} {KR : R → Prop} (hK : KR (retR [(I (sourcesE h))])) : callVQ Tryd.prog GL 30 [.a (evsA h)] σ KR :=
  callQ_dat (res := [(I (sourcesE h))]) (t30 h) hK
/-! ### Values are unique, by either text -/
theorem tab_fit (h : List Ev) (hl : h.length ≤ 1000000) : FitT (txns h) := by
  unfold txns
  split
  · refine ⟨by rw [List.length_map]; have := @tab_len h h.length; unfold tabOf; omega, fun t ht => ?_⟩
    obtain ⟨kp, hk, rfl⟩ := List.mem_map.1 ht
    have := tab_ops (h := h) h.length kp hk
    show kp.ops.length ≤ _
    omega
  · exact ⟨by simp, fun t ht => by cases ht⟩
theorem writes_iff {ops : List Op} {v n : Int} : writesR ops v n = true ↔ ∃ o ∈ ops, o.w = true ∧ (o.var, o.val) = (v, n) := by
  simp only [writesR, List.any_eq_true, Bool.and_eq_true, beq_iff_eq, Prod.mk.injEq, and_assoc]
theorem wr_writes {ks : List Kp} {i : Nat} {p : Int × Int} : Wr ks i p ↔ ∃ x, (ks.map Kp.txn)[i]? = some x ∧ writesR x.ops p.1 p.2 = true := by
  constructor
  · rintro ⟨r, o, h1, h2, h3, rfl⟩
    exact ⟨r.txn, by rw [List.getElem?_map, h1]; rfl, writes_iff.2 ⟨o, h2, h3, rfl⟩⟩
  · rintro ⟨x, hx, hw⟩
    rw [List.getElem?_map] at hx
    obtain ⟨r, hr, rfl⟩ := Option.map_eq_some_iff.1 hx
    obtain ⟨o, h1, h2, h3⟩ := writes_iff.1 hw
    exact ⟨r, o, hr, h1, h2, h3⟩
theorem uniq_iff (ks : List Kp) : uniqTo (ks.map Kp.txn) 0 = true ↔ UniqL ks := by
  simp only [uniqTo, List.drop_zero, List.all_eq_true, List.mem_range, List.length_map]
  constructor
  · intro h i p hp
    obtain ⟨r, o, h1, h2, h3, rfl⟩ := hp
    have hi := (List.getElem?_eq_some_iff.1 h1).1
    have := h i hi
    rw [List.getElem?_map, h1] at this
    simp only [Option.map_some, List.all_eq_true] at this
    have hok := this o h2
    simp only [okOp, h3, Bool.true_and, Bool.not_eq_true', Bool.or_eq_false_iff, beq_eq_false_iff_ne] at hok
    refine ⟨hok.1, fun j hj => Classical.byContradiction fun hne => ?_⟩
    obtain ⟨x, hx, hw⟩ := wr_writes.1 hj
    have hjl : j < ks.length := by have := (List.getElem?_eq_some_iff.1 hx).1; simpa using this
    have hc := hok.2
    simp only [clash, List.drop_zero, List.any_eq_false, List.mem_range, List.length_map] at hc
    have := hc j hjl
    rw [hx] at this
    simp only [Bool.and_eq_true, not_and, Bool.not_eq_true', decide_eq_false_iff_not] at this
    exact this (by omega) hw
  · intro h i hi
    rw [List.getElem?_map, List.getElem?_eq_getElem hi]
    simp only [Option.map_some, List.all_eq_true]
    intro o ho
    simp only [okOp, Bool.not_eq_true', Bool.and_eq_false_iff, Bool.or_eq_false_iff, beq_eq_false_iff_ne]
    by_cases hw : o.w = true
    · right
      obtain ⟨z, u⟩ := h i (o.var, o.val) ⟨ks[i], o, List.getElem?_eq_getElem hi, ho, hw, rfl⟩
      refine ⟨z, ?_⟩
      simp only [clash, List.drop_zero, List.any_eq_false, List.mem_range, List.length_map]
      intro j hj
      rw [List.getElem?_map, List.getElem?_eq_getElem hj]
      simp only [Option.map_some, Bool.and_eq_true, not_and, Bool.not_eq_true', decide_eq_false_iff_not]
      intro hne hw2
      have := u j (wr_writes.2 ⟨(ks[j]).txn, by rw [List.getElem?_map, List.getElem?_eq_getElem hj]; rfl, hw2⟩)
      exact hne (by omega)
    · left; simpa using hw
theorem source_eq {ks : List Kp} {kv : PKv} (hw : wrAll ks 0 [] = some kv) (t i : Nat) (r : Kp) (o : Op) (hr : ks[t]? = some r) (ho : r.ops[i]? = some o) :
    sourceR (ks.map Kp.txn) t i r.txn o = if ownsR (r.ops.take i) o.var || o.w then (t : Int) else srcOf kv t o := by
  obtain ⟨hu, hkv⟩ := wr_some hw
  unfold sourceR
  rw [Bool.or_comm]
  show (if (ownsR (r.ops.take i) o.var || o.w) = true then _ else _) = _
  split
  · rfl
  · unfold srcOf
    split
    · rfl
    · cases hf : othersR (ks.map Kp.txn) t o.var o.val 0 with
      | some v =>
        obtain ⟨j, hj, hjv⟩ := List.exists_of_findSome?_eq_some hf
        split at hjv
        · rename_i x hx
          split at hjv
          · rename_i hc
            cases hjv
            rw [(hkv (o.var, o.val) j).2 ⟨j, rfl, wr_writes.2 ⟨x, hx, hc.2⟩⟩]
            simp [hc.1]
          · cases hjv
        · cases hjv
      | none =>
        have hn := List.findSome?_eq_none_iff.1 hf
        cases hp : pGet kv (o.var, o.val) with
        | none => rfl
        | some v =>
          obtain ⟨j, rfl, hj⟩ := (hkv _ _).1 hp
          obtain ⟨x, hx, hxw⟩ := wr_writes.1 hj
          have hjl := (List.getElem?_eq_some_iff.1 hx).1
          have := hn j (by simpa using hjl)
          rw [hx] at this
          by_cases hjt : (j : Int) = t
          · simp [hjt]
          · exfalso
            dsimp only at this
            rw [if_pos ⟨hjt, hxw⟩] at this; cases this
theorem sourcesTo_eq {ks : List Kp} {kv : PKv} (hw : wrAll ks 0 [] = some kv) : sourcesTo (ks.map Kp.txn) (ks.map Kp.txn).length = srcRows kv ks 0 := by
  refine List.ext_getElem? fun t => ?_
  rw [show (srcRows kv ks 0)[t]? = _ from srcRows_get (kv := kv) ks 0 t]
  simp only [sourcesTo, List.getElem?_map, List.length_map, List.getElem?_range', List.getElem?_range, Nat.zero_add]
  by_cases ht : t < ks.length
  · rw [List.getElem?_eq_getElem (l := List.range ks.length) (by simpa using ht), List.getElem_range]
    simp only [List.getElem?_eq_getElem ht, Option.map_some]
    congr 1
    refine List.ext_getElem? fun i => ?_
    rw [srcRow_get]
    simp only [srcRowR, List.getElem?_map]
    by_cases hi : i < ks[t].ops.length
    · rw [List.getElem?_eq_getElem (l := List.range _) (by simpa [Kp.txn] using hi), List.getElem_range]
      simp only [Option.map_some, Kp.txn, List.getElem?_eq_getElem hi]
      congr 1
      exact source_eq hw t i ks[t] _ (List.getElem?_eq_getElem ht) (List.getElem?_eq_getElem hi)
    · rw [List.getElem?_eq_none (l := List.range _) (by simp [Kp.txn]; omega), List.getElem?_eq_none (l := ks[t].ops) (by omega)]; rfl
  · rw [List.getElem?_eq_none (l := List.range _) (by simp; omega), List.getElem?_eq_none (l := ks) (by omega)]; rfl
theorem why_check (h : List Ev) : whyI h = checkE h := (why_next h).symm
/-- What the program's Sources answers is as the references say. -/
theorem sources_law {h : List Ev} (h0 : checkE h = 0) : (uniqTo (txns h) 0 = false → sourcesE h = 9) ∧ (uniqTo (txns h) 0 = true → sourcesE h = 0 ∧ sourcesR h = sourcesTo (txns h) (txns h).length) := by
  have ht : txns h = (tabOf h).map Kp.txn := by unfold txns; rw [if_pos h0]
  rw [ht]
  have e1 : tabAt h h.length = tabOf h := rfl
  cases hw : wrAll (tabOf h) 0 [] with
  | none =>
    refine ⟨fun _ => by simp [sourcesE, h0, e1, hw], fun hu => absurd ((uniq_iff _).1 hu) (wr_none hw)⟩
  | some kv =>
    refine ⟨fun hu => ?_, fun _ => ⟨by simp [sourcesE, h0, e1, hw], ?_⟩⟩
    · rw [(uniq_iff _).2 (wr_some hw).1] at hu; cases hu
    · rw [sourcesTo_eq hw]; simp [sourcesR, h0, e1, hw]
theorem txns_tab {h : List Ev} (h0 : checkE h = 0) : refTab h = txns h := table_eq h0
theorem txns_lenT {l : List Txn} : (∀ c ∈ l.map Txn.enc, c.length = 5) = True := txns_len
set_option maxHeartbeats 1000000 in
theorem t7 (h0 : List Ev) : Holds Tryd.prog GL 7 [evsA h0] [.a (B true)] := by
  refine fn_holds (vs := [.tmp 2]) (by kernel_rfl) Tryd.func7 rfl rfl (by kernel_rfl) (by kernel_rfl) rfl ?_
  have m0 : (0 : Int) ≤ min (h0.length : Int) 65 := by omega
  have m1 : min (h0.length : Int) 65 ≤ (h0.length : Int) := by omega
  have hc : List.take (min (h0.length : Int) 65).toNat (h0.map Ev.enc) = (h0.take 65).map Ev.enc := cutN 65 h0
  have hl65 : (h0.take 65).length ≤ 65 := by simp; omega
  generalize h0.take 65 = h at hc hl65
  by_cases hE : checkE h = 0
  · have h60 := check60 hE
    have hfit := tab_fit h (by omega)
    obtain ⟨l1, l2⟩ := sources_law hE
    have hwhy : whyI h = 0 := by rw [why_check, hE]
    cases hu : uniqTo (txns h) 0 with
    | false =>
      have hs := l1 hu
      have hr := sources_bad (h := h) (by rw [hs]; decide)
      (refine of_gate ?_; repeat' ((first | (with_reducible refine gate_in ?_) | (with_reducible refine spK_intro ?_ ?_ <;> intro hp) | (with_reducible refine brK_intro ?_ ?_ <;> intro hb <;> try rw [hb]) | (with_reducible refine draw_in (by unfold DrawOk; decide +kernel) ?_) | (with_reducible apply c30) | (with_reducible apply c28) | (with_reducible apply c19) | (with_reducible apply c29) | (with_reducible refine And.intro (by first | omega | (simp only [List.length_map, List.length_take]; omega)) ?_) | fail) <;> try simp only [↓PR, PO, PC, PX, tyI, tyF, tyX, tyL, tyK, tyB, tyE, tyM, tyP, tyQ, Nat.reduceBEq, Nat.reduceAdd, Nat.reduceMul, Nat.reduceSub, Nat.reduceLeDiff, Nat.reduceEqDiff, Nat.reduceLT, Nat.reducePow, Nat.reduceBneDiff, Nat.reduceBNe, Int.reduceBEq, Int.reduceEq, Int.reduceLT, Int.reduceLE, Int.reduceToNat, List.length_map, m0, m1, hc, hwhy, hs, hr, Int.toNat_zero]))
      refine call_dat (t32 h h60) ?_
      rw [txns_tab hE]
      (refine of_gate ?_; repeat' ((first | (with_reducible refine gate_in ?_) | (with_reducible refine spK_intro ?_ ?_ <;> intro hp) | (with_reducible refine brK_intro ?_ ?_ <;> intro hb <;> try rw [hb]) | (with_reducible refine draw_in (by unfold DrawOk; decide +kernel) ?_) | (with_reducible refine And.intro (by first | omega | (simp only [List.length_map, List.length_take]; omega)) ?_) | fail) <;> try simp only [↓PR, PO, PC, PX, tyI, tyF, tyX, tyL, tyK, tyB, tyE, tyM, tyP, tyQ, Nat.reduceBEq, Nat.reduceAdd, Nat.reduceMul, Nat.reduceSub, Nat.reduceLeDiff, Nat.reduceEqDiff, Nat.reduceLT, Nat.reducePow, Nat.reduceBneDiff, Nat.reduceBNe, Int.reduceBEq, Int.reduceEq, Int.reduceLT, Int.reduceLE, Int.reduceToNat]))
      refine call_dat (t31 (txns h) hfit) ?_
      rw [hu]
      (refine of_gate ?_; repeat' ((first | (with_reducible refine gate_in ?_) | (with_reducible refine spK_intro ?_ ?_ <;> intro hp) | (with_reducible refine brK_intro ?_ ?_ <;> intro hb <;> try rw [hb]) | (with_reducible refine draw_in (by unfold DrawOk; decide +kernel) ?_) | (with_reducible apply c29) | (with_reducible refine And.intro (by first | omega | (simp only [List.length_map, List.length_take]; omega)) ?_) | fail) <;> try simp only [↓PR, PO, PC, PX, tyI, tyF, tyX, tyL, tyK, tyB, tyE, tyM, tyP, tyQ, Nat.reduceBEq, Nat.reduceAdd, Nat.reduceMul, Nat.reduceSub, Nat.reduceLeDiff, Nat.reduceEqDiff, Nat.reduceLT, Nat.reducePow, Nat.reduceBneDiff, Nat.reduceBNe, Int.reduceBEq, Int.reduceEq, Int.reduceLT, Int.reduceLE, Int.reduceToNat, hs, hr, bne_self_eq_false]))
    | true =>
      obtain ⟨hs, hr⟩ := l2 hu
      (refine of_gate ?_; repeat' ((first | (with_reducible refine gate_in ?_) | (with_reducible refine spK_intro ?_ ?_ <;> intro hp) | (with_reducible refine brK_intro ?_ ?_ <;> intro hb <;> try rw [hb]) | (with_reducible refine draw_in (by unfold DrawOk; decide +kernel) ?_) | (with_reducible apply c30) | (with_reducible apply c28) | (with_reducible apply c19) | (with_reducible apply c29) | (with_reducible refine And.intro (by first | omega | (simp only [List.length_map, List.length_take]; omega)) ?_) | fail) <;> try simp only [↓PR, PO, PC, PX, tyI, tyF, tyX, tyL, tyK, tyB, tyE, tyM, tyP, tyQ, Nat.reduceBEq, Nat.reduceAdd, Nat.reduceMul, Nat.reduceSub, Nat.reduceLeDiff, Nat.reduceEqDiff, Nat.reduceLT, Nat.reducePow, Nat.reduceBneDiff, Nat.reduceBNe, Int.reduceBEq, Int.reduceEq, Int.reduceLT, Int.reduceLE, Int.reduceToNat, List.length_map, m0, m1, hc, hwhy, hs, Int.toNat_zero]))
      refine call_dat (t32 h h60) ?_
      rw [txns_tab hE]
      (refine of_gate ?_; repeat' ((first | (with_reducible refine gate_in ?_) | (with_reducible refine spK_intro ?_ ?_ <;> intro hp) | (with_reducible refine brK_intro ?_ ?_ <;> intro hb <;> try rw [hb]) | (with_reducible refine draw_in (by unfold DrawOk; decide +kernel) ?_) | (with_reducible refine And.intro (by first | omega | (simp only [List.length_map, List.length_take]; omega)) ?_) | fail) <;> try simp only [↓PR, PO, PC, PX, tyI, tyF, tyX, tyL, tyK, tyB, tyE, tyM, tyP, tyQ, Nat.reduceBEq, Nat.reduceAdd, Nat.reduceMul, Nat.reduceSub, Nat.reduceLeDiff, Nat.reduceEqDiff, Nat.reduceLT, Nat.reducePow, Nat.reduceBneDiff, Nat.reduceBNe, Int.reduceBEq, Int.reduceEq, Int.reduceLT, Int.reduceLE, Int.reduceToNat]))
      refine call_dat (t31 (txns h) hfit) ?_
      rw [hu]
      (refine of_gate ?_; repeat' ((first | (with_reducible refine gate_in ?_) | (with_reducible refine spK_intro ?_ ?_ <;> intro hp) | (with_reducible refine brK_intro ?_ ?_ <;> intro hb <;> try rw [hb]) | (with_reducible refine draw_in (by unfold DrawOk; decide +kernel) ?_) | (with_reducible refine And.intro (by first | omega | (simp only [List.length_map, List.length_take]; omega)) ?_) | fail) <;> try simp only [↓PR, PO, PC, PX, tyI, tyF, tyX, tyL, tyK, tyB, tyE, tyM, tyP, tyQ, Nat.reduceBEq, Nat.reduceAdd, Nat.reduceMul, Nat.reduceSub, Nat.reduceLeDiff, Nat.reduceEqDiff, Nat.reduceLT, Nat.reducePow, Nat.reduceBneDiff, Nat.reduceBNe, Int.reduceBEq, Int.reduceEq, Int.reduceLT, Int.reduceLE, Int.reduceToNat, bne_self_eq_false]))
      refine call_dat (t32 h h60) ?_
      rw [txns_tab hE]
      (refine of_gate ?_; repeat' ((first | (with_reducible refine gate_in ?_) | (with_reducible refine spK_intro ?_ ?_ <;> intro hp) | (with_reducible refine brK_intro ?_ ?_ <;> intro hb <;> try rw [hb]) | (with_reducible refine draw_in (by unfold DrawOk; decide +kernel) ?_) | (with_reducible refine And.intro (by first | omega | (simp only [List.length_map, List.length_take]; omega)) ?_) | fail) <;> try simp only [↓PR, PO, PC, PX, tyI, tyF, tyX, tyL, tyK, tyB, tyE, tyM, tyP, tyQ, Nat.reduceBEq, Nat.reduceAdd, Nat.reduceMul, Nat.reduceSub, Nat.reduceLeDiff, Nat.reduceEqDiff, Nat.reduceLT, Nat.reducePow, Nat.reduceBneDiff, Nat.reduceBNe, Int.reduceBEq, Int.reduceEq, Int.reduceLT, Int.reduceLE, Int.reduceToNat]))
      refine call_dat (t33 (txns h) hfit) ?_
      rw [← hr]
      have hsl := (sources_small h).1
      generalize sourcesR h = L at hsl
      (refine of_gate ?_; repeat' ((first | (with_reducible refine gate_in ?_) | (with_reducible refine spK_intro ?_ ?_ <;> intro hp) | (with_reducible refine brK_intro ?_ ?_ <;> intro hb <;> try rw [hb]) | (with_reducible refine draw_in (by unfold DrawOk; decide +kernel) ?_) | (with_reducible apply c29) | (with_reducible refine And.intro (by first | omega | (simp only [List.length_map, List.length_take]; omega)) ?_) | fail) <;> try simp only [↓PR, PO, PC, PX, tyI, tyF, tyX, tyL, tyK, tyB, tyE, tyM, tyP, tyQ, Nat.reduceBEq, Nat.reduceAdd, Nat.reduceMul, Nat.reduceSub, Nat.reduceLeDiff, Nat.reduceEqDiff, Nat.reduceLT, Nat.reducePow, Nat.reduceBneDiff, Nat.reduceBNe, Int.reduceBEq, Int.reduceEq, Int.reduceLT, Int.reduceLE, Int.reduceToNat, List.length_map]))
      refine awp_loopA (fun t : Nat => [(4, .a (.d (.sl (L.map intRow)))), (7, .a (.d (.sl (L.map intRow)))), (70, .a (I L.length)), (71, .a (I t))]) (fun _ => []) (fun t => t ≤ L.length) (L.length - ·) 0 ?_ ?_ (Nat.zero_le _) ?_
      · simp only [↓PR, PO, PC, PX, tyI, tyF, tyX, tyL, tyK, tyB, tyE, tyM, tyP, tyQ, Nat.reduceBEq, Nat.reduceAdd, Nat.reduceMul, Nat.reduceSub, Nat.reduceLeDiff, Nat.reduceEqDiff, Nat.reduceLT, Nat.reducePow, Nat.reduceBneDiff, Nat.reduceBNe, Int.reduceBEq, Int.reduceEq, Int.reduceLT, Int.reduceLE, Int.reduceToNat]
      · simp only [↓PR, PO, PC, PX, tyI, tyF, tyX, tyL, tyK, tyB, tyE, tyM, tyP, tyQ, Nat.reduceBEq, Nat.reduceAdd, Nat.reduceMul, Nat.reduceSub, Nat.reduceLeDiff, Nat.reduceEqDiff, Nat.reduceLT, Nat.reducePow, Nat.reduceBneDiff, Nat.reduceBNe, Int.reduceBEq, Int.reduceEq, Int.reduceLT, Int.reduceLE, Int.reduceToNat]
      intro t j ht
      (refine of_gate ?_; repeat' ((first | (with_reducible refine gate_in ?_) | (with_reducible refine spK_intro ?_ ?_ <;> intro hp) | (with_reducible refine brK_intro ?_ ?_ <;> intro hb <;> try rw [hb]) | (with_reducible refine draw_in (by unfold DrawOk; decide +kernel) ?_) | (with_reducible refine And.intro (by first | omega | (simp only [List.length_map, List.length_take]; omega)) ?_) | fail) <;> try simp only [↓PR, PO, PC, PX, tyI, tyF, tyX, tyL, tyK, tyB, tyE, tyM, tyP, tyQ, Nat.reduceBEq, Nat.reduceAdd, Nat.reduceMul, Nat.reduceSub, Nat.reduceLeDiff, Nat.reduceEqDiff, Nat.reduceLT, Nat.reducePow, Nat.reduceBneDiff, Nat.reduceBNe, Int.reduceBEq, Int.reduceEq, Int.reduceLT, Int.reduceLE, Int.reduceToNat]))
      have htl : t < L.length := by omega
      have hx : L[t]? = some L[t] := List.getElem?_eq_getElem htl
      have hw := wrap_succ (n := L.length) htl (by simp only [maxLen]; omega)
      generalize L[t] = row at hx
      (refine of_gate ?_; repeat' ((first | (with_reducible refine gate_in ?_) | (with_reducible refine spK_intro ?_ ?_ <;> intro hp) | (with_reducible refine brK_intro ?_ ?_ <;> intro hb <;> try rw [hb]) | (with_reducible refine draw_in (by unfold DrawOk; decide +kernel) ?_) | (with_reducible apply q34) | (with_reducible refine And.intro (by first | omega | (simp only [List.length_map, List.length_take]; omega)) ?_) | fail) <;> try simp only [↓PR, PO, PC, PX, tyI, tyF, tyX, tyL, tyK, tyB, tyE, tyM, tyP, tyQ, Nat.reduceBEq, Nat.reduceAdd, Nat.reduceMul, Nat.reduceSub, Nat.reduceLeDiff, Nat.reduceEqDiff, Nat.reduceLT, Nat.reducePow, Nat.reduceBneDiff, Nat.reduceBNe, Int.reduceBEq, Int.reduceEq, Int.reduceLT, Int.reduceLE, Int.reduceToNat, hx, hw, intRow_eq, beq_self_eq_true]))
      (refine ⟨t + 1, ?_, ?_, htl, by dsimp only; omega⟩ <;> simp only [↓PR, PO, PC, PX, tyI, tyF, tyX, tyL, tyK, tyB, tyE, tyM, tyP, tyQ, Nat.reduceBEq, Nat.reduceAdd, Nat.reduceMul, Nat.reduceSub, Nat.reduceLeDiff, Nat.reduceEqDiff, Nat.reduceLT, Nat.reducePow, Nat.reduceBneDiff, Nat.reduceBNe, Int.reduceBEq, Int.reduceEq, Int.reduceLT, Int.reduceLE, Int.reduceToNat])
  · have hs : sourcesE h = checkE h := by simp [sourcesE, hE]
    have hr := sources_bad (h := h) (by rw [hs]; exact hE)
    have hwhy : whyI h = checkE h := why_check h
    generalize checkE h = c at hE hs hwhy
    (refine of_gate ?_; repeat' ((first | (with_reducible refine gate_in ?_) | (with_reducible refine spK_intro ?_ ?_ <;> intro hp) | (with_reducible refine brK_intro ?_ ?_ <;> intro hb <;> try rw [hb]) | (with_reducible refine draw_in (by unfold DrawOk; decide +kernel) ?_) | (with_reducible apply c30) | (with_reducible apply c28) | (with_reducible apply c19) | (with_reducible apply c29) | (with_reducible refine And.intro (by first | omega | (simp only [List.length_map, List.length_take]; omega)) ?_) | fail) <;> try simp only [↓PR, PO, PC, PX, tyI, tyF, tyX, tyL, tyK, tyB, tyE, tyM, tyP, tyQ, Nat.reduceBEq, Nat.reduceAdd, Nat.reduceMul, Nat.reduceSub, Nat.reduceLeDiff, Nat.reduceEqDiff, Nat.reduceLT, Nat.reducePow, Nat.reduceBneDiff, Nat.reduceBNe, Int.reduceBEq, Int.reduceEq, Int.reduceLT, Int.reduceLE, Int.reduceToNat, List.length_map, m0, m1, hc, hwhy, hs, hr, hE, Int.toNat_zero, bne_self_eq_false]))
end Go.VC
