/- unique.look, unique.source. -/
import Derived.Test.YtjmbgnncokeliaaDoorVTg
set_option maxRecDepth 100000
set_option linter.unusedSimpArgs false
set_option linter.unusedVariables false
namespace Go.VC
open Go.RowKit Go.Proofs Go.IntWalk
/-- A row of one's own is laid to rest. -/
theorem g_frz {σ : S} {t o : Nat} {e : TypeId} {z : Nat} {xs : List (List D)} (hr : σ.regs t = .own o) (hm : σ.mem o = some (.log e z xs)) (ho : o < 1000000000) : Ghost σ (σ.frz o fun _ => .sl xs) := fun c β a w hs => ⟨β, by
  have := (rest1_sound hs (r := .own o) (x := .d (.sl xs)) (by rw [← hr]; exact hs.reg t) (by simp [argA, hm]) ho).1
  rwa [show σ.rest1 (.own o) = σ.frz o fun _ => .sl xs by simp [S.rest1, hm]] at this⟩
structure KeepsL (vs : List Value) (σ0 σ : S) : Prop where
  fr : σ.mem 999999 = some (.frame vs (upF σ0.regs))
  ob : ∀ o x, decide (o < 900000000) = true → σ0.mem o = some x → σ.mem (upId o) = some x.up
/-- What a call leaves of its caller, but for the new object n. -/
def LeftL (n : Nat) (σ σ' : S) : Prop := (∀ t, FineR n (σ.regs t) → σ'.regs t = σ.regs t) ∧ ∀ o x, (o == n) = false → decide (o < 900000000) = true → σ.mem o = some x → FineO n x → σ'.mem o = some x
theorem lo9 {o : Nat} (h : decide (o < 900000000) = true) : decide (o < 999000000) = true := by have := of_decide_eq_true h; exact decide_eq_true (by omega)
theorem up9 {o : Nat} (h : decide (o < 900000000) = true) : decide (upId o < 999000000) = true := by have := of_decide_eq_true h; have := upId_eq o; exact decide_eq_true (by omega)
theorem end_keep {vs : List Value} {ts : List Tmp} {σ τ τ' : S} {n : Nat} {K : S → List R → Prop} {rs : List R} (hg : Ghost τ τ') (hkp : KeepsL vs σ τ') (hrs : (ts.map fun t => (τ'.regs t).down) = rs)
    (hk : ∀ σ' : S, LeftL n σ σ' → K σ' rs) : postG vs ts K .ret τ := by
  refine ⟨τ', hg, by rw [hkp.fr]; rfl, ?_⟩
  rw [hrs]
  exact hk τ'.leave ⟨fun t ht => by rw [lv_r, hkp.fr]; exact ht.1, fun o x h1 h4 hx hf => by rw [lv_m (lo9 h4), hkp.ob o x h4 hx]; exact congrArg some hf.1⟩
theorem end_mv {vs : List Value} {ts : List Tmp} {σ τ : S} {n b : Nat} {x : SemOb} {K : S → List R → Prop} {rs : List R} (hn : decide (n < 999000000) = true) (hb : decide (b < 999999) = true) (hx0 : x.os = []) (hkp : KeepsL vs σ τ) (hm : τ.mem b = some (.sem x)) (hrs : (ts.map fun t => ((τ.regs t).mv b (upId n)).down) = rs)
    (hk : ∀ σ' : S, σ'.mem n = some (.sem x) → LeftL n σ σ' → K σ' rs) : postG vs ts K .ret τ := by
  have hb' := of_decide_eq_true hb
  have hb1 : decide (b < 1000000) = true := decide_eq_true (by omega)
  have hf : (τ.mv b (upId n)).mem 999999 = some (.frame vs (upF (killR n σ.regs))) := by
    rw [mv_mo (beq_up rfl) (by simp; omega), hkp.fr, Option.map_some, mo_frame hb1]
  have hsx : ∀ (f : Nat → Nat) y, y.os = x.os.map f → y.p = (fun β st w bv => x.p (fun o => β (f o)) st w bv) → y = x := fun f y h1 h2 => sem_ext (by rw [h1, hx0]; rfl) (by
    rw [h2]; funext β st w bv
    exact propext ⟨fun h => x.dep (fun o ho => by rw [hx0] at ho; cases ho) h, fun h => x.dep (fun o ho => by rw [hx0] at ho; cases ho) h⟩)
  refine ⟨τ.mv b (upId n), g_mv (by omega) (by have := upId_le n; omega), by rw [hf]; rfl, ?_⟩
  rw [show (ts.map fun t => ((τ.mv b (upId n)).regs t).down) = rs from hrs]
  refine hk _ ?_ ⟨fun t ht => by rw [lv_r, hf]; exact ht.2, fun o y h1 h4 hx hfo => ?_⟩
  · rw [lv_m hn, mv_mb, hm, Option.map_some, mv_sem (by rw [hx0]; simp), Option.map_some]
    have hos : (x.mv b (upId n)).os = [] := by simp [SemOb.mv, hx0]
    simp only [Ob.down]
    rw [dif_pos (by rw [hos]; intro o ho; cases ho)]
    congr 2
    exact sem_ext (by simp [SemOb.down, hos, hx0]) (by
      funext β st w bv
      exact propext ⟨fun h => x.dep (fun o ho => by rw [hx0] at ho; cases ho) h, fun h => x.dep (fun o ho => by rw [hx0] at ho; cases ho) h⟩)
  · have hu : (upId o == upId n) = false := by rw [up_up]; exact h1
    rw [lv_m (lo9 h4), mv_mo hu (up_beq hb1), hkp.ob o y h4 hx, Option.map_some, Option.map_some]
    exact congrArg some (hfo.2.2 b (by omega))
theorem okill_up {x : Ob} {o : Nat} {f : Nat → D} (h : o < 1000000) : x.up.frz o f = x.up := by
  cases x with
  | box cs =>
    simp only [Ob.up, Ob.frz, List.map_map]
    congr 1
    exact List.map_congr_left fun r _ => frz_up_lo h
  | log e z xs => rfl
  | mpo kv => rfl
  | iter kv seen => rfl
  | frame vs rs => simp only [Ob.up, Ob.frz]; congr 1; funext t; exact frz_up_lo h
  | sem x =>
    show (if _ then _ else _) = Ob.sem x.up
    rw [show (x.up.os.any fun o' => o' == o) = false from any_up1 h x.os]; rfl
  | lost => rfl
theorem okill_upT {x : Ob} {o : Nat} {f : Nat → D} (h : decide (o < 1000000) = true) : x.up.frz o f = x.up := okill_up (of_decide_eq_true h)
theorem up_up_down (r : R) : r.up.up.down = r.up := by
  cases r with
  | any => rfl
  | a x => rfl
  | cs x => rfl
  | ref o f => simp [R.up, R.down, upId_le, upId_sub]
  | eref o i s j => simp [R.up, R.down, upId_le, upId_sub]
  | own o => simp [R.up, R.down, upId_le, upId_sub]
  | omp o => simp [R.up, R.down, upId_le, upId_sub]
  | clo g caps => simp [R.up, R.down, upId_le, upId_sub, List.map_map, Function.comp_def]
  | tp xs => cases xs <;> rfl
  | agr xs => rfl
  | sem os p => simp [R.up, R.down, upId_le, upId_sub, List.map_map, Function.comp_def]
theorem fineR_up {q : Nat} (h : q < 1000000) (r : R) : FineR q r.up := ⟨up_up_down r, by rw [kill_up_lo h]; exact up_up_down r⟩
theorem mv_up_up {q a : Nat} (h : q < 1000000) (ha : a < 1000000) (r : R) : r.up.up.mv a (upId q) = r.up.up := by
  have hk : r.up.up.kill (upId q) = r.up.up := by rw [kill_up_hi, kill_up_lo h]
  unfold R.mv
  split
  · rename_i hs
    unfold R.kill at hk
    rw [if_pos hs] at hk
    exact hk
  · exact mv0_up ha
theorem fineO_up {q : Nat} (h : q < 1000000) (x : Ob) : FineO q x.up := by
  cases x with
  | box cs =>
    refine ⟨?_, ?_, fun a ha => ?_⟩
    · simp only [Ob.up, Ob.down, List.map_map]; congr 1; exact List.map_congr_left fun r _ => up_up_down r
    · simp only [Ob.up, Ob.kill, Ob.down, List.map_map]; congr 1; exact List.map_congr_left fun r _ => by
        show (r.up.up.kill (upId q)).down = r.up
        rw [kill_up_hi, kill_up_lo h]; exact up_up_down r
    · simp only [Ob.up, Ob.mv, Ob.down, List.map_map]; congr 1; exact List.map_congr_left fun r _ => by
        show (r.up.up.mv a (upId q)).down = r.up
        rw [mv_up_up h ha]; exact up_up_down r
  | log e z xs => exact fineO_log
  | mpo kv => exact ⟨rfl, rfl, fun _ _ => rfl⟩
  | iter kv seen => exact ⟨rfl, rfl, fun _ _ => rfl⟩
  | frame vs rs =>
    refine ⟨?_, ?_, fun a ha => ?_⟩
    · simp only [Ob.up, Ob.down]; congr 1; funext t; exact up_up_down _
    · simp only [Ob.up, Ob.kill, Ob.down]; congr 1; funext t
      rw [kill_up_hi, kill_up_lo h]; exact up_up_down _
    · simp only [Ob.up, Ob.mv, Ob.down]; congr 1; funext t
      rw [mv_up_up h ha]; exact up_up_down _
  | sem x =>
    refine fineO_sem (x := x.up) fun hq => ?_
    obtain ⟨o, _, e⟩ := List.mem_map.1 hq
    have := upId_le o
    omega
  | lost => exact ⟨rfl, rfl, fun _ _ => rfl⟩
theorem fineO_fr {q : Nat} (h : q < 1000000) (vs : List Value) (rg : Nat → R) : FineO q (.frame vs (upF rg)) := fineO_up h (.frame vs rg)
theorem tab_rows {h : List Ev} (h0 : checkE h = 0) : (A.d (.sl (tabD h))) = rowsA (tabAt h h.length) := by unfold tabD rowsA; rw [if_pos h0]
theorem look_inl {σ : S} {h : List Ev} {n : Nat} {K : S → List R → Prop} (hn : decide (n < 999000000) = true)
    (hK : ∀ (σ' : S) (kv : PKv), checkE h = 0 → wrAll (tabAt h h.length) 0 [] = some kv → σ'.mem n = some (.sem (pmap kv)) → LeftL n σ σ' → K σ' [.a (rowsA (tabAt h h.length)), .omp n, .a (I 0)])
    (hK' : ∀ (σ' : S) (e : Int), ((checkE h ≠ 0 ∧ e = checkE h) ∨ (checkE h = 0 ∧ wrAll (tabAt h h.length) 0 [] = none ∧ e = 9)) → LeftL n σ σ' → K σ' [.a (.d (.sl [])), .a (.d (.mp [])), .a (I e)]) :
    Inl Tryd.prog GL 61 [.a (evsA h)] σ K := by
  refine inl_bodyG (by kernel_rfl) Tryd.func61 rfl rfl (by kernel_rfl) (by kernel_rfl) rfl fun vs => ?_
  (refine of_gate ?_; repeat' ((first | (with_reducible refine gate_in ?_) | (with_reducible refine spK_intro ?_ ?_ <;> intro hp) | (with_reducible refine brK_intro ?_ ?_ <;> intro hb <;> try rw [hb]) | (with_reducible refine draw_in (by unfold DrawOk; decide +kernel) ?_)) <;> try simp only [↓PR, PO, PC, PX, tyI, tyF, tyX, tyL, tyK, tyB, tyE, tyM, tyP, tyQ, Nat.reduceBEq, Nat.reduceAdd, Nat.reduceMul, Nat.reduceSub, Nat.reduceLeDiff, Nat.reduceEqDiff, Nat.reduceLT, Nat.reducePow, Nat.reduceBneDiff, Nat.reduceBNe, Int.reduceBEq, Int.reduceEq, Int.reduceLT, Int.reduceLE, Int.reduceToNat, String.reduceBEq, PI]))
  refine call_dat (t56 h) ?_
  (refine of_gate ?_; repeat' ((first | (with_reducible refine gate_in ?_) | (with_reducible refine spK_intro ?_ ?_ <;> intro hp) | (with_reducible refine brK_intro ?_ ?_ <;> intro hb <;> try rw [hb]) | (with_reducible refine draw_in (by unfold DrawOk; decide +kernel) ?_)) <;> try simp only [↓PR, PO, PC, PX, tyI, tyF, tyX, tyL, tyK, tyB, tyE, tyM, tyP, tyQ, Nat.reduceBEq, Nat.reduceAdd, Nat.reduceMul, Nat.reduceSub, Nat.reduceLeDiff, Nat.reduceEqDiff, Nat.reduceLT, Nat.reducePow, Nat.reduceBneDiff, Nat.reduceBNe, Int.reduceBEq, Int.reduceEq, Int.reduceLT, Int.reduceLE, Int.reduceToNat, String.reduceBEq, PI]))
  · have h0 : checkE h = 0 := ‹_›
    have h60 : h.length ≤ 60 := by
      rcases Nat.lt_or_ge 60 h.length with h1 | h1
      · exfalso
        have : rightH h = false := by simp [rightH]; omega
        simp [checkE, this] at h0
      · exact h1
    have hl := tab_len (h := h) h.length
    rw [tab_rows h0]
    refine call_inl (wr_inl (n := 900000) rfl (by omega) (fun r hr => by have := tab_ops _ r hr; omega) (fun σ2 kv hw hm hR hO => ?_) (fun σ2 hw hR hO => ?_))
    · skip
      have e5 := hR 5 (by simp only [↓PR, PO, PC, PX, tyI, tyF, tyX, tyL, tyK, tyB, tyE, tyM, tyP, tyQ, Nat.reduceBEq, Nat.reduceAdd, Nat.reduceMul, Nat.reduceSub, Nat.reduceLeDiff, Nat.reduceEqDiff, Nat.reduceLT, Nat.reducePow, Nat.reduceBneDiff, Nat.reduceBNe, Int.reduceBEq, Int.reduceEq, Int.reduceLT, Int.reduceLE, Int.reduceToNat, String.reduceBEq]; exact fineR_a)
      simp only [↓PR, PO, PC, PX, tyI, tyF, tyX, tyL, tyK, tyB, tyE, tyM, tyP, tyQ, Nat.reduceBEq, Nat.reduceAdd, Nat.reduceMul, Nat.reduceSub, Nat.reduceLeDiff, Nat.reduceEqDiff, Nat.reduceLT, Nat.reducePow, Nat.reduceBneDiff, Nat.reduceBNe, Int.reduceBEq, Int.reduceEq, Int.reduceLT, Int.reduceLE, Int.reduceToNat, String.reduceBEq] at e5
      have efr := hO 999999 (.frame vs (upF σ.regs)) rfl rfl (by simp only [↓PR, PO, PC, PX, tyI, tyF, tyX, tyL, tyK, tyB, tyE, tyM, tyP, tyQ, Nat.reduceBEq, Nat.reduceAdd, Nat.reduceMul, Nat.reduceSub, Nat.reduceLeDiff, Nat.reduceEqDiff, Nat.reduceLT, Nat.reducePow, Nat.reduceBneDiff, Nat.reduceBNe, Int.reduceBEq, Int.reduceEq, Int.reduceLT, Int.reduceLE, Int.reduceToNat, String.reduceBEq, PI]) (fineO_fr (by decide) _ _)
      have eob : ∀ o x, decide (o < 900000000) = true → σ.mem o = some x → σ2.mem (upId o) = some x.up := fun o x ho hx => hO (upId o) x.up (up_beq rfl) (up9 ho) (by have ho := lo9 ho; simp only [↓PR, PO, PC, PX, tyI, tyF, tyX, tyL, tyK, tyB, tyE, tyM, tyP, tyQ, Nat.reduceBEq, Nat.reduceAdd, Nat.reduceMul, Nat.reduceSub, Nat.reduceLeDiff, Nat.reduceEqDiff, Nat.reduceLT, Nat.reducePow, Nat.reduceBneDiff, Nat.reduceBNe, Int.reduceBEq, Int.reduceEq, Int.reduceLT, Int.reduceLE, Int.reduceToNat, String.reduceBEq, PI, ho, hx, okill_loT]) (fineO_up (by decide) x)
      (refine of_gate ?_; repeat' ((first | (with_reducible refine gate_in ?_) | (with_reducible refine spK_intro ?_ ?_ <;> intro hp) | (with_reducible refine brK_intro ?_ ?_ <;> intro hb <;> try rw [hb]) | (with_reducible refine draw_in (by unfold DrawOk; decide +kernel) ?_)) <;> try simp only [↓PR, PO, PC, PX, tyI, tyF, tyX, tyL, tyK, tyB, tyE, tyM, tyP, tyQ, Nat.reduceBEq, Nat.reduceAdd, Nat.reduceMul, Nat.reduceSub, Nat.reduceLeDiff, Nat.reduceEqDiff, Nat.reduceLT, Nat.reducePow, Nat.reduceBneDiff, Nat.reduceBNe, Int.reduceBEq, Int.reduceEq, Int.reduceLT, Int.reduceLE, Int.reduceToNat, String.reduceBEq, PI, one, e5]))
      refine end_mv (n := n) (b := 900000) (x := pmap kv) hn rfl rfl ⟨by simp only [↓PR, PO, PC, PX, tyI, tyF, tyX, tyL, tyK, tyB, tyE, tyM, tyP, tyQ, Nat.reduceBEq, Nat.reduceAdd, Nat.reduceMul, Nat.reduceSub, Nat.reduceLeDiff, Nat.reduceEqDiff, Nat.reduceLT, Nat.reducePow, Nat.reduceBneDiff, Nat.reduceBNe, Int.reduceBEq, Int.reduceEq, Int.reduceLT, Int.reduceLE, Int.reduceToNat, String.reduceBEq, PI, efr], fun o x ho hx => by have := eob o x ho hx; have ho := lo9 ho; simp only [↓PR, PO, PC, PX, tyI, tyF, tyX, tyL, tyK, tyB, tyE, tyM, tyP, tyQ, Nat.reduceBEq, Nat.reduceAdd, Nat.reduceMul, Nat.reduceSub, Nat.reduceLeDiff, Nat.reduceEqDiff, Nat.reduceLT, Nat.reducePow, Nat.reduceBneDiff, Nat.reduceBNe, Int.reduceBEq, Int.reduceEq, Int.reduceLT, Int.reduceLE, Int.reduceToNat, String.reduceBEq, PI, ho, this, okill_loT]⟩ (by simp only [↓PR, PO, PC, PX, tyI, tyF, tyX, tyL, tyK, tyB, tyE, tyM, tyP, tyQ, Nat.reduceBEq, Nat.reduceAdd, Nat.reduceMul, Nat.reduceSub, Nat.reduceLeDiff, Nat.reduceEqDiff, Nat.reduceLT, Nat.reducePow, Nat.reduceBneDiff, Nat.reduceBNe, Int.reduceBEq, Int.reduceEq, Int.reduceLT, Int.reduceLE, Int.reduceToNat, String.reduceBEq, PI, hm]) ?_ (fun σ' a b => hK σ' kv h0 hw a b)
      have h9 : (900000 == upId n) = false := beq_up rfl
      simp only [↓PR, PO, PC, PX, tyI, tyF, tyX, tyL, tyK, tyB, tyE, tyM, tyP, tyQ, Nat.reduceBEq, Nat.reduceAdd, Nat.reduceMul, Nat.reduceSub, Nat.reduceLeDiff, Nat.reduceEqDiff, Nat.reduceLT, Nat.reducePow, Nat.reduceBneDiff, Nat.reduceBNe, Int.reduceBEq, Int.reduceEq, Int.reduceLT, Int.reduceLE, Int.reduceToNat, String.reduceBEq, PI, mv_a, mv_omp h9, R.down, rowsA]
      simp [upId_le, upId_sub]
    · skip
      have e5 := hR 5 (by simp only [↓PR, PO, PC, PX, tyI, tyF, tyX, tyL, tyK, tyB, tyE, tyM, tyP, tyQ, Nat.reduceBEq, Nat.reduceAdd, Nat.reduceMul, Nat.reduceSub, Nat.reduceLeDiff, Nat.reduceEqDiff, Nat.reduceLT, Nat.reducePow, Nat.reduceBneDiff, Nat.reduceBNe, Int.reduceBEq, Int.reduceEq, Int.reduceLT, Int.reduceLE, Int.reduceToNat, String.reduceBEq]; exact fineR_a)
      simp only [↓PR, PO, PC, PX, tyI, tyF, tyX, tyL, tyK, tyB, tyE, tyM, tyP, tyQ, Nat.reduceBEq, Nat.reduceAdd, Nat.reduceMul, Nat.reduceSub, Nat.reduceLeDiff, Nat.reduceEqDiff, Nat.reduceLT, Nat.reducePow, Nat.reduceBneDiff, Nat.reduceBNe, Int.reduceBEq, Int.reduceEq, Int.reduceLT, Int.reduceLE, Int.reduceToNat, String.reduceBEq] at e5
      have efr := hO 999999 (.frame vs (upF σ.regs)) rfl rfl (by simp only [↓PR, PO, PC, PX, tyI, tyF, tyX, tyL, tyK, tyB, tyE, tyM, tyP, tyQ, Nat.reduceBEq, Nat.reduceAdd, Nat.reduceMul, Nat.reduceSub, Nat.reduceLeDiff, Nat.reduceEqDiff, Nat.reduceLT, Nat.reducePow, Nat.reduceBneDiff, Nat.reduceBNe, Int.reduceBEq, Int.reduceEq, Int.reduceLT, Int.reduceLE, Int.reduceToNat, String.reduceBEq, PI]) (fineO_fr (by decide) _ _)
      have eob : ∀ o x, decide (o < 900000000) = true → σ.mem o = some x → σ2.mem (upId o) = some x.up := fun o x ho hx => hO (upId o) x.up (up_beq rfl) (up9 ho) (by have ho := lo9 ho; simp only [↓PR, PO, PC, PX, tyI, tyF, tyX, tyL, tyK, tyB, tyE, tyM, tyP, tyQ, Nat.reduceBEq, Nat.reduceAdd, Nat.reduceMul, Nat.reduceSub, Nat.reduceLeDiff, Nat.reduceEqDiff, Nat.reduceLT, Nat.reducePow, Nat.reduceBneDiff, Nat.reduceBNe, Int.reduceBEq, Int.reduceEq, Int.reduceLT, Int.reduceLE, Int.reduceToNat, String.reduceBEq, PI, ho, hx, okill_loT]) (fineO_up (by decide) x)
      (refine of_gate ?_; repeat' ((first | (with_reducible refine gate_in ?_) | (with_reducible refine spK_intro ?_ ?_ <;> intro hp) | (with_reducible refine brK_intro ?_ ?_ <;> intro hb <;> try rw [hb]) | (with_reducible refine draw_in (by unfold DrawOk; decide +kernel) ?_)) <;> try simp only [↓PR, PO, PC, PX, tyI, tyF, tyX, tyL, tyK, tyB, tyE, tyM, tyP, tyQ, Nat.reduceBEq, Nat.reduceAdd, Nat.reduceMul, Nat.reduceSub, Nat.reduceLeDiff, Nat.reduceEqDiff, Nat.reduceLT, Nat.reducePow, Nat.reduceBneDiff, Nat.reduceBNe, Int.reduceBEq, Int.reduceEq, Int.reduceLT, Int.reduceLE, Int.reduceToNat, String.reduceBEq, PI, one, e5]))
      refine end_keep (n := n) (rs := [.a (.d (.sl [])), .a (.d (.mp [])), .a (I 9)]) (g_frz (t := 2) (o := 2) (e := 83) (z := 5) (xs := []) (by simp only [↓PR, PO, PC, PX, tyI, tyF, tyX, tyL, tyK, tyB, tyE, tyM, tyP, tyQ, Nat.reduceBEq, Nat.reduceAdd, Nat.reduceMul, Nat.reduceSub, Nat.reduceLeDiff, Nat.reduceEqDiff, Nat.reduceLT, Nat.reducePow, Nat.reduceBneDiff, Nat.reduceBNe, Int.reduceBEq, Int.reduceEq, Int.reduceLT, Int.reduceLE, Int.reduceToNat, String.reduceBEq, PI]) (by simp only [↓PR, PO, PC, PX, tyI, tyF, tyX, tyL, tyK, tyB, tyE, tyM, tyP, tyQ, Nat.reduceBEq, Nat.reduceAdd, Nat.reduceMul, Nat.reduceSub, Nat.reduceLeDiff, Nat.reduceEqDiff, Nat.reduceLT, Nat.reducePow, Nat.reduceBneDiff, Nat.reduceBNe, Int.reduceBEq, Int.reduceEq, Int.reduceLT, Int.reduceLE, Int.reduceToNat, String.reduceBEq, PI]) (by decide)) ⟨by simp only [↓PR, PO, PC, PX, tyI, tyF, tyX, tyL, tyK, tyB, tyE, tyM, tyP, tyQ, Nat.reduceBEq, Nat.reduceAdd, Nat.reduceMul, Nat.reduceSub, Nat.reduceLeDiff, Nat.reduceEqDiff, Nat.reduceLT, Nat.reducePow, Nat.reduceBneDiff, Nat.reduceBNe, Int.reduceBEq, Int.reduceEq, Int.reduceLT, Int.reduceLE, Int.reduceToNat, String.reduceBEq, PI, efr], fun o x ho hx => by have := eob o x ho hx; have ho := lo9 ho; simp only [↓PR, PO, PC, PX, tyI, tyF, tyX, tyL, tyK, tyB, tyE, tyM, tyP, tyQ, Nat.reduceBEq, Nat.reduceAdd, Nat.reduceMul, Nat.reduceSub, Nat.reduceLeDiff, Nat.reduceEqDiff, Nat.reduceLT, Nat.reducePow, Nat.reduceBneDiff, Nat.reduceBNe, Int.reduceBEq, Int.reduceEq, Int.reduceLT, Int.reduceLE, Int.reduceToNat, String.reduceBEq, PI, ho, this, okill_loT, okill_upT]⟩ (by simp only [↓PR, PO, PC, PX, tyI, tyF, tyX, tyL, tyK, tyB, tyE, tyM, tyP, tyQ, Nat.reduceBEq, Nat.reduceAdd, Nat.reduceMul, Nat.reduceSub, Nat.reduceLeDiff, Nat.reduceEqDiff, Nat.reduceLT, Nat.reducePow, Nat.reduceBneDiff, Nat.reduceBNe, Int.reduceBEq, Int.reduceEq, Int.reduceLT, Int.reduceLE, Int.reduceToNat, String.reduceBEq, PI, R.down]) (fun σ' a => hK' σ' _ (.inr ⟨h0, hw, rfl⟩) a)
  · refine end_keep (n := n) (rs := [.a (.d (.sl [])), .a (.d (.mp [])), .a (I (checkE h))]) (g_frz (t := 2) (o := 2) (e := 83) (z := 5) (xs := []) (by simp only [↓PR, PO, PC, PX, tyI, tyF, tyX, tyL, tyK, tyB, tyE, tyM, tyP, tyQ, Nat.reduceBEq, Nat.reduceAdd, Nat.reduceMul, Nat.reduceSub, Nat.reduceLeDiff, Nat.reduceEqDiff, Nat.reduceLT, Nat.reducePow, Nat.reduceBneDiff, Nat.reduceBNe, Int.reduceBEq, Int.reduceEq, Int.reduceLT, Int.reduceLE, Int.reduceToNat, String.reduceBEq, PI]) (by simp only [↓PR, PO, PC, PX, tyI, tyF, tyX, tyL, tyK, tyB, tyE, tyM, tyP, tyQ, Nat.reduceBEq, Nat.reduceAdd, Nat.reduceMul, Nat.reduceSub, Nat.reduceLeDiff, Nat.reduceEqDiff, Nat.reduceLT, Nat.reducePow, Nat.reduceBneDiff, Nat.reduceBNe, Int.reduceBEq, Int.reduceEq, Int.reduceLT, Int.reduceLE, Int.reduceToNat, String.reduceBEq, PI]) (by decide)) ⟨by simp only [↓PR, PO, PC, PX, tyI, tyF, tyX, tyL, tyK, tyB, tyE, tyM, tyP, tyQ, Nat.reduceBEq, Nat.reduceAdd, Nat.reduceMul, Nat.reduceSub, Nat.reduceLeDiff, Nat.reduceEqDiff, Nat.reduceLT, Nat.reducePow, Nat.reduceBneDiff, Nat.reduceBNe, Int.reduceBEq, Int.reduceEq, Int.reduceLT, Int.reduceLE, Int.reduceToNat, String.reduceBEq, PI], fun o x ho hx => by have ho := lo9 ho; simp only [↓PR, PO, PC, PX, tyI, tyF, tyX, tyL, tyK, tyB, tyE, tyM, tyP, tyQ, Nat.reduceBEq, Nat.reduceAdd, Nat.reduceMul, Nat.reduceSub, Nat.reduceLeDiff, Nat.reduceEqDiff, Nat.reduceLT, Nat.reducePow, Nat.reduceBneDiff, Nat.reduceBNe, Int.reduceBEq, Int.reduceEq, Int.reduceLT, Int.reduceLE, Int.reduceToNat, String.reduceBEq, PI, ho, hx, okill_loT, okill_upT]⟩ (by simp only [↓PR, PO, PC, PX, tyI, tyF, tyX, tyL, tyK, tyB, tyE, tyM, tyP, tyQ, Nat.reduceBEq, Nat.reduceAdd, Nat.reduceMul, Nat.reduceSub, Nat.reduceLeDiff, Nat.reduceEqDiff, Nat.reduceLT, Nat.reducePow, Nat.reduceBneDiff, Nat.reduceBNe, Int.reduceBEq, Int.reduceEq, Int.reduceLT, Int.reduceLE, Int.reduceToNat, String.reduceBEq, PI, R.down]) (fun σ' a => hK' σ' _ (.inl ⟨‹_›, rfl⟩) a)
end Go.VC
