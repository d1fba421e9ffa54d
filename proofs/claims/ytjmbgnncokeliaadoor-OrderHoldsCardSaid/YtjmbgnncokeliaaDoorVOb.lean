/- What is before what up to a place: the law. -/
import Derived.Test.YtjmbgnncokeliaaDoorVOc
set_option maxRecDepth 100000
set_option linter.unusedSimpArgs false
set_option linter.unusedVariables false
namespace Go.VC
open Go.RowKit Go.Proofs Go.IntWalk
theorem none_on {h : List Ev} {n : Int} {j : Nat} : ∀ (m : Nat), j + m ≤ h.length → (∀ i e, j ≤ i → i < j + m → h[i]? = some e → e.tx ≠ n) → flTo h n (j + m) = flTo h n j ∧ lastK (h.take (j + m)) n = lastK (h.take j) n
  | 0, _, _ => ⟨rfl, rfl⟩
  | m + 1, hl, hno => by
    obtain ⟨a, b⟩ := none_on (h := h) (n := n) (j := j) m (by omega) fun i e h1 h2 => hno i e h1 (by omega)
    have hk : j + m < h.length := by omega
    have hx : h[j + m]? = some h[j + m] := List.getElem?_eq_getElem hk
    have hne := hno (j + m) _ (by omega) (by omega) hx
    refine ⟨?_, ?_⟩
    · show flTo h n (j + m + 1) = _
      simp only [flTo, hx, if_neg hne]; exact a
    · show lastK (h.take (j + m + 1)) n = _
      rw [last_s hk, lastStep, if_neg hne]; exact b
theorem some_on {h : List Ev} {n : Int} {j : Nat} : ∀ (m : Nat), j + m ≤ h.length → (∃ i e, j ≤ i ∧ i < j + m ∧ h[i]? = some e ∧ e.tx = n) → (j : Int) ≤ (flTo h n (j + m)).2
  | 0, _, ⟨i, e, h1, h2, _⟩ => absurd h2 (by omega)
  | m + 1, hl, ⟨i, e, h1, h2, h3, h4⟩ => by
    have hk : j + m < h.length := by omega
    have hx : h[j + m]? = some h[j + m] := List.getElem?_eq_getElem hk
    show (j : Int) ≤ (flTo h n (j + m + 1)).2
    simp only [flTo, hx]
    by_cases he : h[j + m].tx = n
    · rw [if_pos he]; show (j : Int) ≤ ((j + m : Nat) : Int); omega
    · rw [if_neg he]
      refine some_on m (by omega) ⟨i, e, h1, ?_, h3, h4⟩
      have : i ≠ j + m := fun e' => by subst e'; rw [hx] at h3; cases h3; exact he h4
      omega
theorem ended_on {h : List Ev} (hw : WFl h) {n : Int} {j : Nat} (he : lastK (h.take j) n = 7 ∨ lastK (h.take j) n = 9) : ∀ (m : Nat), j + m ≤ h.length → ∀ i e, j ≤ i → i < j + m → h[i]? = some e → e.tx ≠ n
  | 0, _, i, e, h1, h2, _ => absurd h2 (by omega)
  | m + 1, hl, i, e, h1, h2, h3 => by
    have ih := ended_on hw he m (by omega)
    by_cases hi : i < j + m
    · exact ih i e h1 hi h3
    · have hi : i = j + m := by omega
      subst hi
      intro htx
      have hk : j + m < h.length := by omega
      have hm := hw (h.take (j + m)) h[j + m] (h.drop (j + m + 1)) (by rw [← List.drop_eq_getElem_cons hk, List.take_append_drop])
      rw [List.getElem?_eq_getElem hk] at h3
      cases h3
      rw [htx, (none_on m (by omega) ih).2] at hm
      rcases he with he | he <;> rw [he] at hm <;> simp [may] at hm
theorem stateOf_ge {k : Int} : 2 ≤ stateOf k ↔ (k = 7 ∨ k = 9) := by
  unfold stateOf
  (repeat' split) <;> simp_all
/-- A transaction's last place is ahead of where its table ends; its first one too. -/
theorem fl_lt {h : List Ev} {n : Int} : ∀ k, (flTo h n k).1 < k ∧ (flTo h n k).2 ≤ k
  | 0 => by simp [flTo]
  | k + 1 => by
    have := fl_lt (h := h) (n := n) k
    simp only [flTo]
    split
    · split
      · dsimp only; split <;> omega
      · omega
    · omega
theorem txns_at {h : List Ev} (h0 : checkE h = 0) {i : Nat} {t : Txn} (ht : (txns h)[i]? = some t) : ∃ kp, (tabAt h h.length)[i]? = some kp ∧ t = kp.txn ∧ Told h h.length kp := by
  unfold txns at ht
  rw [if_pos h0, List.getElem?_map] at ht
  obtain ⟨kp, hk, rfl⟩ := Option.map_eq_some_iff.1 ht
  exact ⟨kp, hk, rfl, (tabT (check_wfl h0) h.length (Nat.le_refl _)).told kp (List.mem_of_getElem? hk)⟩
/-- Of a prefix's transactions: what is before what is as in the whole. -/
theorem before_take {h : List Ev} (h0 : checkE h = 0) {k : Nat} (hk : k ≤ h.length) : (txns (h.take k)).length ≤ (txns h).length ∧
    ∀ i q, i < (txns (h.take k)).length → q < (txns (h.take k)).length → beforeB (txns (h.take k)) i q = beforeB (txns h) i q := by
  have h0' := check_take h0 hk
  have hw := check_wfl h0
  have htab : (txns (h.take k)) = (tabAt h k).map Kp.txn := by unfold txns; rw [if_pos h0', tabOf_take hk]
  have htab2 : txns h = (tabAt h h.length).map Kp.txn := by unfold txns; rw [if_pos h0]; rfl
  have hext : TExt (tabAt h k) (tabAt h h.length) := by
    have := tab_ext h k (h.length - k)
    rwa [show k + (h.length - k) = h.length by omega] at this
  have T1 := tabT hw k hk
  have T2 := tabT hw h.length (Nat.le_refl _)
  rw [htab, htab2, List.length_map, List.length_map]
  refine ⟨hext.len, fun i q hi hq => ?_⟩
  obtain ⟨b, hb, nb, fb, _⟩ := hext i _ (List.getElem?_eq_getElem hi)
  obtain ⟨d, hd, nd, fd, _⟩ := hext q _ (List.getElem?_eq_getElem hq)
  have ta := T1.told _ (List.getElem_mem hi)
  have tc := T1.told _ (List.getElem_mem hq)
  have tb := T2.told _ (List.mem_of_getElem? hb)
  simp only [beforeB, List.getElem?_map, List.getElem?_eq_getElem hi, List.getElem?_eq_getElem hq, hb, hd, Option.map_some, Kp.txn]
  generalize (tabAt h k)[i] = a at *
  generalize (tabAt h k)[q] = c at *
  rw [fd, tb.st, ta.st, nb]
  have e1 := ta.fl
  have e2 := tb.fl
  rw [nb] at e2
  have hcf : c.first < k := by
    have := (fl_lt (h := h) (n := c.name) k).1
    rw [tc.fl] at this; exact this
  by_cases hs : 2 ≤ stateOf (lastK (h.take k) a.name)
  · have hno := ended_on hw (stateOf_ge.1 hs) (h.length - k) (by omega)
    obtain ⟨g1, g2⟩ := none_on (h.length - k) (by omega) hno
    rw [show k + (h.length - k) = h.length by omega] at g1 g2
    rw [g2]
    rw [e1, e2] at g1
    have g3 : b.last = a.last := congrArg Prod.snd g1
    rw [g3]
  · rw [decide_eq_false hs, Bool.false_and]
    symm
    by_cases hex : ∃ i e, k ≤ i ∧ i < k + (h.length - k) ∧ h[i]? = some e ∧ e.tx = a.name
    · have := some_on (h.length - k) (by omega) hex
      rw [show k + (h.length - k) = h.length by omega, e2] at this
      rw [decide_eq_false (show ¬ b.last < c.first by dsimp only at this; omega), Bool.and_false]
    · have hno : ∀ i e, k ≤ i → i < k + (h.length - k) → h[i]? = some e → e.tx ≠ a.name := fun i e h1 h2 h3 h4 => hex ⟨i, e, h1, h2, h3, h4⟩
      obtain ⟨g1, g2⟩ := none_on (h.length - k) (by omega) hno
      rw [show k + (h.length - k) = h.length by omega] at g2
      rw [g2, decide_eq_false hs, Bool.false_and]
theorem bitsN_mod (p : Nat → Bool) {m : Nat} : ∀ n, m ≤ n → bitsN p n % 2 ^ m = bitsN p m
  | 0, h => by
    have : m = 0 := by omega
    subst this; rfl
  | n + 1, h => by
    by_cases e : m = n + 1
    · subst e; exact Nat.mod_eq_of_lt (bitsN_lt p _)
    · have ih := bitsN_mod p (m := m) n (by omega)
      simp only [bitsN]
      split
      · have : 2 ^ n = 2 ^ m * 2 ^ (n - m) := by rw [← Nat.pow_add]; congr 1; omega
        rw [this, Nat.add_mul_mod_self_left]; exact ih
      · exact ih
theorem bitsN_congr {p q : Nat → Bool} : ∀ m, (∀ k, k < m → p k = q k) → bitsN p m = bitsN q m
  | 0, _ => rfl
  | m + 1, h => by simp only [bitsN, bitsN_congr m fun k hk => h k (by omega), h m (by omega)]
theorem u32_mask {m : Nat} (hm : m < 32) : IntKind.u32.wrap (((2 ^ m : Nat) : Int) - 1) = ((2 ^ m - 1 : Nat) : Int) := by
  have h1 : 0 < 2 ^ m := Nat.pow_pos (by omega)
  have h2 : (2 : Nat) ^ m ≤ 2 ^ 31 := Nat.pow_le_pow_right (by omega) (by omega)
  generalize 2 ^ m = q at h1 h2 ⊢
  rw [u32_in _ (by omega)]; omega
theorem grows_order {h : List Ev} (h0 : checkE h = 0) {k : Nat} (hk : k ≤ h.length) : (aftersV (h.take k)).length ≤ (aftersV h).length ∧ (aftersV h).length ≤ 6 ∧
    ∀ i, i < (aftersV (h.take k)).length → ∃ a b, (aftersV (h.take k))[i]? = some a ∧ (aftersV h)[i]? = some b ∧ b < 2 ^ 32 ∧ b &&& (2 ^ (aftersV (h.take k)).length - 1) = a := by
  obtain ⟨h1, h2⟩ := before_take h0 hk
  have h6 := txns_len6 h
  have e1 : aftersV (h.take k) = afterR (txns (h.take k)) := by unfold aftersV; rw [if_pos (check_take h0 hk)]
  have e2 : aftersV h = afterR (txns h) := by unfold aftersV; rw [if_pos h0]
  rw [e1, e2]
  have l1 : ∀ l, (afterR l).length = l.length := fun l => by simp [afterR]
  rw [l1, l1]
  refine ⟨h1, h6, fun i hi => ⟨_, _, by rw [afterR, List.getElem?_map, List.getElem?_range hi]; rfl, by rw [afterR, List.getElem?_map, List.getElem?_range (by omega)]; rfl, ?_, ?_⟩⟩
  · exact Nat.lt_of_lt_of_le (bitsN_lt _ _) (Nat.pow_le_pow_right (by omega) (by omega))
  · rw [Nat.and_two_pow_sub_one_eq_mod, bitsN_mod _ _ h1]
    exact bitsN_congr _ fun q hq => (h2 i q hi hq).symm
theorem t3 (h0 : List Ev) (k0 : Int) : Holds Tryd.prog GL 3 [evsA h0, I k0] [.a (B true)] := by
  refine fn_holds (vs := [.tmp 4]) (by kernel_rfl) Tryd.func3 rfl rfl (by kernel_rfl) (by kernel_rfl) rfl ?_
  have m0 : (0 : Int) ≤ min (h0.length : Int) 65 := by omega
  have m1 : min (h0.length : Int) 65 ≤ (h0.length : Int) := by omega
  have hc : List.take (min (h0.length : Int) 65).toNat (h0.map Ev.enc) = (h0.take 65).map Ev.enc := cutN 65 h0
  have hl65 : (h0.take 65).length ≤ 65 := by simp; omega
  generalize h0.take 65 = h at hc hl65
  obtain ⟨w1, w2, w3⟩ := place_w k0 h.length (by omega)
  have pe := place_eq k0 h.length
  have pl := place_le k0 h.length
  generalize placeIn k0 h.length = k at pe pl
  have hne : ¬ ((h.length : Int) + 1 = 0) := by omega
  have hk1 : (k : Int) ≤ (h.length : Int) := by omega
  have htk : List.take k (h.map Ev.enc) = (h.take k).map Ev.enc := by rw [List.map_take]
  by_cases hE : checkE h = 0
  · have hE' := check_take hE pl
    obtain ⟨g1, g2, g3⟩ := grows_order hE pl
    generalize hM : aftersV (h.take k) = M at g1 g3
    generalize hL : aftersV h = L at g1 g2 g3
    (refine of_gate ?_; repeat' ((first | (with_reducible refine gate_in ?_) | (with_reducible refine spK_intro ?_ ?_ <;> intro hp) | (with_reducible refine brK_intro ?_ ?_ <;> intro hb <;> try rw [hb]) | (with_reducible refine draw_in (by unfold DrawOk; decide +kernel) ?_) | (with_reducible apply c15) | (with_reducible apply c16) | (with_reducible refine And.intro (by first | omega | (simp only [List.length_map, List.length_take]; omega)) ?_) | fail) <;> try simp only [↓PR, PO, PC, PX, tyI, tyF, tyX, tyL, tyK, tyB, tyE, tyM, tyP, tyQ, Nat.reduceBEq, Nat.reduceAdd, Nat.reduceMul, Nat.reduceSub, Nat.reduceLeDiff, Nat.reduceEqDiff, Nat.reduceLT, Nat.reducePow, Nat.reduceBneDiff, Nat.reduceBNe, Int.reduceBEq, Int.reduceEq, Int.reduceLT, Int.reduceLE, Int.reduceToNat, String.reduceBEq, List.length_map, m0, m1, hc, w1, w2, w3, pe, hne, hk1, htk, hE, hE', hL, hM, Int.le_refl, Int.toNat_zero, bne_self_eq_false]))
    · omega
    refine awp_loopA (fun t : Nat => [(5, .a (unsA L)), (7, .a (unsA M)), (62, .a (unsA M)), (63, .a (I M.length)), (64, .a (I t))]) (fun _ => []) (fun t => t ≤ M.length) (M.length - ·) 0 ?_ ?_ (Nat.zero_le _) ?_
    · simp only [↓PR, PO, PC, PX, tyI, tyF, tyX, tyL, tyK, tyB, tyE, tyM, tyP, tyQ, Nat.reduceBEq, Nat.reduceAdd, Nat.reduceMul, Nat.reduceSub, Nat.reduceLeDiff, Nat.reduceEqDiff, Nat.reduceLT, Nat.reducePow, Nat.reduceBneDiff, Nat.reduceBNe, Int.reduceBEq, Int.reduceEq, Int.reduceLT, Int.reduceLE, Int.reduceToNat, String.reduceBEq]
    · simp only [↓PR, PO, PC, PX, tyI, tyF, tyX, tyL, tyK, tyB, tyE, tyM, tyP, tyQ, Nat.reduceBEq, Nat.reduceAdd, Nat.reduceMul, Nat.reduceSub, Nat.reduceLeDiff, Nat.reduceEqDiff, Nat.reduceLT, Nat.reducePow, Nat.reduceBneDiff, Nat.reduceBNe, Int.reduceBEq, Int.reduceEq, Int.reduceLT, Int.reduceLE, Int.reduceToNat, String.reduceBEq]
    intro t j ht
    (refine of_gate ?_; repeat' ((first | (with_reducible refine gate_in ?_) | (with_reducible refine spK_intro ?_ ?_ <;> intro hp) | (with_reducible refine brK_intro ?_ ?_ <;> intro hb <;> try rw [hb]) | (with_reducible refine draw_in (by unfold DrawOk; decide +kernel) ?_) | (with_reducible refine And.intro (by first | omega | (simp only [List.length_map, List.length_take]; omega)) ?_) | fail) <;> try simp only [↓PR, PO, PC, PX, tyI, tyF, tyX, tyL, tyK, tyB, tyE, tyM, tyP, tyQ, Nat.reduceBEq, Nat.reduceAdd, Nat.reduceMul, Nat.reduceSub, Nat.reduceLeDiff, Nat.reduceEqDiff, Nat.reduceLT, Nat.reducePow, Nat.reduceBneDiff, Nat.reduceBNe, Int.reduceBEq, Int.reduceEq, Int.reduceLT, Int.reduceLE, Int.reduceToNat, String.reduceBEq]))
    have htl : t < M.length := by omega
    have hw := wrap_succ (n := M.length) htl (by simp only [maxLen]; omega)
    obtain ⟨a, b, ha, hb, hb32, hab⟩ := g3 t htl
    have hm32 : M.length < 32 := by omega
    have hmk : 2 ^ M.length - 1 < 2 ^ 32 := by
      have : (2 : Nat) ^ M.length ≤ 2 ^ 31 := Nat.pow_le_pow_right (by omega) (by omega)
      omega
    (refine of_gate ?_; repeat' ((first | (with_reducible refine gate_in ?_) | (with_reducible refine spK_intro ?_ ?_ <;> intro hp) | (with_reducible refine brK_intro ?_ ?_ <;> intro hb <;> try rw [hb]) | (with_reducible refine draw_in (by unfold DrawOk; decide +kernel) ?_) | (with_reducible refine And.intro (by first | omega | (simp only [List.length_map, List.length_take]; omega)) ?_) | fail) <;> try simp only [↓PR, PO, PC, PX, tyI, tyF, tyX, tyL, tyK, tyB, tyE, tyM, tyP, tyQ, Nat.reduceBEq, Nat.reduceAdd, Nat.reduceMul, Nat.reduceSub, Nat.reduceLeDiff, Nat.reduceEqDiff, Nat.reduceLT, Nat.reducePow, Nat.reduceBneDiff, Nat.reduceBNe, Int.reduceBEq, Int.reduceEq, Int.reduceLT, Int.reduceLE, Int.reduceToNat, String.reduceBEq, ha, hb, uenc_eq, List.length_map, u32_shl hm32, u32_mask hm32, u32_and hb32 hmk, hab, hw]))
    (refine ⟨t + 1, ?_, ?_, htl, by dsimp only; omega⟩ <;> simp only [↓PR, PO, PC, PX, tyI, tyF, tyX, tyL, tyK, tyB, tyE, tyM, tyP, tyQ, Nat.reduceBEq, Nat.reduceAdd, Nat.reduceMul, Nat.reduceSub, Nat.reduceLeDiff, Nat.reduceEqDiff, Nat.reduceLT, Nat.reducePow, Nat.reduceBneDiff, Nat.reduceBNe, Int.reduceBEq, Int.reduceEq, Int.reduceLT, Int.reduceLE, Int.reduceToNat, String.reduceBEq, hw])
  · have hR : aftersV h = [] := by unfold aftersV; rw [if_neg hE]
    (refine of_gate ?_; repeat' ((first | (with_reducible refine gate_in ?_) | (with_reducible refine spK_intro ?_ ?_ <;> intro hp) | (with_reducible refine brK_intro ?_ ?_ <;> intro hb <;> try rw [hb]) | (with_reducible refine draw_in (by unfold DrawOk; decide +kernel) ?_) | (with_reducible apply c15) | (with_reducible apply c16) | (with_reducible refine And.intro (by first | omega | (simp only [List.length_map, List.length_take]; omega)) ?_) | fail) <;> try simp only [↓PR, PO, PC, PX, tyI, tyF, tyX, tyL, tyK, tyB, tyE, tyM, tyP, tyQ, Nat.reduceBEq, Nat.reduceAdd, Nat.reduceMul, Nat.reduceSub, Nat.reduceLeDiff, Nat.reduceEqDiff, Nat.reduceLT, Nat.reducePow, Nat.reduceBneDiff, Nat.reduceBNe, Int.reduceBEq, Int.reduceEq, Int.reduceLT, Int.reduceLE, Int.reduceToNat, String.reduceBEq, List.length_map, m0, m1, hc, w1, w2, w3, pe, hne, hk1, htk, hE, hR, Int.le_refl, Int.toNat_zero, bne_self_eq_false]))
end Go.VC
