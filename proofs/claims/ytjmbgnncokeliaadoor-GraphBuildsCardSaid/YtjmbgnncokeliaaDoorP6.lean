/- Part 6 of the texts that stand behind the row: what the statement's functions do, and plain laws. -/
import Derived.Test.YtjmbgnncokeliaaDoorP5
set_option maxRecDepth 100000
set_option linter.unusedSimpArgs false
set_option linter.unusedVariables false
set_option linter.unnecessarySimpa false
set_option linter.defProp false
section
set_option maxRecDepth 100000
set_option linter.unusedSimpArgs false
set_option linter.unusedVariables false
set_option linter.unnecessarySimpa false
namespace Go.VC
open Go.RowKit Go.Proofs Go.IntWalk
def readV (h : List Ev) (C : Nat) : Bool := decide (lookE h C = 0) && allRFrom (txns h) (sourcesR h) C 0
theorem t37 (h : List Ev) (C : Nat) (hC : C < 2 ^ 32) : Holds Tryd.prog GL 37 [evsA h, U C] [.a (B (readV h C)), .a (I (lookE h C))] := by
  refine fn_holds (vs := [.tmp 4, .tmp 5]) (by kernel_rfl) Tryd.func37 rfl rfl (by kernel_rfl) (by kernel_rfl) rfl ?_
  by_cases hE : lookE h C = 0
  · have hA : lookA h C = trA (txns h) (sourcesR h) C := by rw [lookA, if_pos hE]
    have hsE : sourcesE h = 0 := by
      unfold lookE at hE
      split at hE
      · assumption
      · rename_i hn; exact absurd hE hn
    have hcE := sourcesE_check hsE
    have hS := srcT hsE
    have hl6 := txns_len6 h
    have hfit : FitT (txns h) := tab_fit2 h (by have := check60 hcE; omega)
    have e1 : readV h C = allRFrom (txns h) (sourcesR h) C 0 := by simp [readV, hE]
    rw [e1]
    generalize txns h = l at *
    generalize sourcesR h = sr at *
    (refine of_gate ?_; repeat' ((first | (with_reducible refine gate_in ?_) | (with_reducible refine spK_intro ?_ ?_ <;> intro hp) | (with_reducible refine brK_intro ?_ ?_ <;> intro hb <;> try rw [hb]) | (with_reducible refine draw_in (by unfold DrawOk; decide +kernel) ?_) | (with_reducible refine And.intro (by first | omega | (simp only [List.length_map, List.length_take]; omega)) ?_) | fail) <;> try simp only [go_sem, simprocAttr]))
    refine call_dat (t69 h C hC) ?_
    rw [hA, hE]
    (refine of_gate ?_; repeat' ((first | (with_reducible refine gate_in ?_) | (with_reducible refine spK_intro ?_ ?_ <;> intro hp) | (with_reducible refine brK_intro ?_ ?_ <;> intro hb <;> try rw [hb]) | (with_reducible refine draw_in (by unfold DrawOk; decide +kernel) ?_) | (with_reducible refine And.intro (by first | omega | (simp only [List.length_map, List.length_take]; omega)) ?_) | fail) <;> try simp only [go_sem, simprocAttr]))
    refine c71 hfit (by omega) hS hC ?_
    (refine of_gate ?_; repeat' ((first | (with_reducible refine gate_in ?_) | (with_reducible refine spK_intro ?_ ?_ <;> intro hp) | (with_reducible refine brK_intro ?_ ?_ <;> intro hb <;> try rw [hb]) | (with_reducible refine draw_in (by unfold DrawOk; decide +kernel) ?_) | (with_reducible refine And.intro (by first | omega | (simp only [List.length_map, List.length_take]; omega)) ?_) | fail) <;> try simp only [go_sem, simprocAttr]))
  · have hA : lookA h C = trA [] [] 0 := by rw [lookA, if_neg hE]
    have e1 : readV h C = false := by simp [readV, hE]
    rw [e1]
    (refine of_gate ?_; repeat' ((first | (with_reducible refine gate_in ?_) | (with_reducible refine spK_intro ?_ ?_ <;> intro hp) | (with_reducible refine brK_intro ?_ ?_ <;> intro hb <;> try rw [hb]) | (with_reducible refine draw_in (by unfold DrawOk; decide +kernel) ?_) | (with_reducible refine And.intro (by first | omega | (simp only [List.length_map, List.length_take]; omega)) ?_) | fail) <;> try simp only [go_sem, simprocAttr]))
    refine call_dat (t69 h C hC) ?_
    rw [hA]
    generalize lookE h C = c at hE
    (refine of_gate ?_; repeat' ((first | (with_reducible refine gate_in ?_) | (with_reducible refine spK_intro ?_ ?_ <;> intro hp) | (with_reducible refine brK_intro ?_ ?_ <;> intro hb <;> try rw [hb]) | (with_reducible refine draw_in (by unfold DrawOk; decide +kernel) ?_) | (with_reducible refine And.intro (by first | omega | (simp only [List.length_map, List.length_take]; omega)) ?_) | fail) <;> try simp only [go_sem, simprocAttr, hE]))
theorem u32_half {c : Nat} (hc : c < 2 ^ 32) : IntKind.u32.wrap ((c : Int).tdiv 2) = ((c / 2 : Nat) : Int) := by
  have : (c : Int).tdiv 2 = ((c / 2 : Nat) : Int) := by rw [Int.tdiv_eq_ediv_of_nonneg (by omega)]; omega
  rw [this, u32_in _ (by omega)]
theorem t74 (l : List Txn) (hl : l.length ≤ 1000) (C : Nat) (hC : C < 2 ^ 32) : Holds Tryd.prog GL 74 [txnsA l, U C] [.a (B (decide (C / 2 ^ l.length = 0)))] := by
  refine fn_holds (vs := [.tmp 4]) (by kernel_rfl) Tryd.func74 rfl rfl (by kernel_rfl) (by kernel_rfl) rfl ?_
  (refine of_gate ?_; repeat' ((first | (with_reducible refine gate_in ?_) | (with_reducible refine spK_intro ?_ ?_ <;> intro hp) | (with_reducible refine brK_intro ?_ ?_ <;> intro hb <;> try rw [hb]) | (with_reducible refine draw_in (by unfold DrawOk; decide +kernel) ?_) | (with_reducible refine And.intro (by first | omega | (simp only [List.length_map, List.length_take]; omega)) ?_) | fail) <;> try simp only [go_sem, simprocAttr, List.length_map]))
  refine awp_loopA (fun k : Nat => [(1, .a (U (C / 2 ^ k))), (6, .a (I l.length)), (7, .a (I k))]) (fun _ => []) (fun k => k ≤ l.length) (l.length - ·) 0 ?_ ?_ (Nat.zero_le _) ?_
  · simp only [go_sem, simprocAttr, List.length_map, Nat.pow_zero, Nat.div_one]
  · simp only [go_sem, simprocAttr]
  intro k j hk
  (refine of_gate ?_; repeat' ((first | (with_reducible refine gate_in ?_) | (with_reducible refine spK_intro ?_ ?_ <;> intro hp) | (with_reducible refine brK_intro ?_ ?_ <;> intro hb <;> try rw [hb]) | (with_reducible refine draw_in (by unfold DrawOk; decide +kernel) ?_) | (with_reducible refine And.intro (by first | omega | (simp only [List.length_map, List.length_take]; omega)) ?_) | fail) <;> try simp only [go_sem, simprocAttr]))
  · have hkl : k < l.length := by omega
    have hw := wrap_succ (n := l.length) hkl (by simp only [maxLen]; omega)
    have hh := u32_half (c := C / 2 ^ k) (Nat.lt_of_le_of_lt (Nat.div_le_self _ _) hC)
    have hs : C / 2 ^ (k + 1) = C / 2 ^ k / 2 := by rw [Nat.div_div_eq_div_mul, Nat.pow_succ]
    (refine of_gate ?_; repeat' ((first | (with_reducible refine gate_in ?_) | (with_reducible refine spK_intro ?_ ?_ <;> intro hp) | (with_reducible refine brK_intro ?_ ?_ <;> intro hb <;> try rw [hb]) | (with_reducible refine draw_in (by unfold DrawOk; decide +kernel) ?_) | (with_reducible refine And.intro (by first | omega | (simp only [List.length_map, List.length_take]; omega)) ?_) | fail) <;> try simp only [go_sem, simprocAttr, hw, hh]))
    (refine ⟨k + 1, ?_, ?_, hkl, by dsimp only; omega⟩ <;> simp only [go_sem, simprocAttr, hw, hh, hs])
  · obtain rfl : k = l.length := by omega
    rw [decide_eq_true (by omega)]
  · obtain rfl : k = l.length := by omega
    rw [decide_eq_false (by omega)]
theorem t100 (C k : Nat) (hC : C < 2 ^ 32) (hk : k ≤ 1000) : Holds Tryd.prog GL 100 [U C, I k] [.a (B (C.testBit k))] := by
  refine fn_holds (vs := [.tmp 4]) (by kernel_rfl) Tryd.func100 rfl rfl (by kernel_rfl) (by kernel_rfl) rfl ?_
  (refine of_gate ?_; repeat' ((first | (with_reducible refine gate_in ?_) | (with_reducible refine spK_intro ?_ ?_ <;> intro hp) | (with_reducible refine brK_intro ?_ ?_ <;> intro hb <;> try rw [hb]) | (with_reducible refine draw_in (by unfold DrawOk; decide +kernel) ?_) | (with_reducible refine And.intro (by first | omega | (simp only [List.length_map, List.length_take]; omega)) ?_) | fail) <;> try simp only [go_sem, simprocAttr]))
  refine awp_loopA (fun j : Nat => [(0, .a (U (C / 2 ^ j))), (1, .a (I k)), (5, .a (I j))]) (fun _ => []) (fun j => j ≤ k) (k - ·) 0 ?_ ?_ (Nat.zero_le _) ?_
  · simp only [go_sem, simprocAttr, Nat.pow_zero, Nat.div_one]
  · simp only [go_sem, simprocAttr]
  intro j j2 hj
  have hm : ((C / 2 ^ j : Nat) : Int).tmod 2 = ((C / 2 ^ j % 2 : Nat) : Int) := by
    generalize C / 2 ^ j = q
    rw [Int.tmod_eq_emod_of_nonneg (by omega)]; omega
  (refine of_gate ?_; repeat' ((first | (with_reducible refine gate_in ?_) | (with_reducible refine spK_intro ?_ ?_ <;> intro hp) | (with_reducible refine brK_intro ?_ ?_ <;> intro hb <;> try rw [hb]) | (with_reducible refine draw_in (by unfold DrawOk; decide +kernel) ?_) | (with_reducible refine And.intro (by first | omega | (simp only [List.length_map, List.length_take]; omega)) ?_) | fail) <;> try simp only [go_sem, simprocAttr, hm]))
  · have hjl : j < k := by omega
    have hw := wrap_succ (n := k) hjl (by simp only [maxLen]; omega)
    have hh := u32_half (c := C / 2 ^ j) (Nat.lt_of_le_of_lt (Nat.div_le_self _ _) hC)
    have hs : C / 2 ^ (j + 1) = C / 2 ^ j / 2 := by rw [Nat.div_div_eq_div_mul, Nat.pow_succ]
    (refine of_gate ?_; repeat' ((first | (with_reducible refine gate_in ?_) | (with_reducible refine spK_intro ?_ ?_ <;> intro hp) | (with_reducible refine brK_intro ?_ ?_ <;> intro hb <;> try rw [hb]) | (with_reducible refine draw_in (by unfold DrawOk; decide +kernel) ?_) | (with_reducible refine And.intro (by first | omega | (simp only [List.length_map, List.length_take]; omega)) ?_) | fail) <;> try simp only [go_sem, simprocAttr, hw, hh]))
    (refine ⟨j + 1, ?_, ?_, hjl, by dsimp only; omega⟩ <;> simp only [go_sem, simprocAttr, hw, hh, hs])
  · obtain rfl : j = k := by omega
    rw [Nat.testBit_eq_decide_div_mod_eq, decide_eq_true (by omega)]
  · obtain rfl : j = k := by omega
    rw [Nat.testBit_eq_decide_div_mod_eq, decide_eq_false (by omega)]
/-- Do Ops write a value last? -/
def finalR (ops : List Op) (v n : Int) : Bool := ops.foldl (fun r o => if o.w && o.var == v then o.val == n else r) false
theorem finalR_s {ops : List Op} {k : Nat} {v n : Int} (hk : k < ops.length) : finalR (ops.take (k + 1)) v n = if ops[k].w && ops[k].var == v then ops[k].val == n else finalR (ops.take k) v n := by
  rw [List.take_succ_eq_append_getElem hk, finalR, List.foldl_append]; rfl
theorem t99 (ops : List Op) (v n : Int) (hl : ops.length ≤ 1000000) : Holds Tryd.prog GL 99 [opsA' ops, I v, I n] [.a (B (finalR ops v n))] := by
  refine fn_holds (vs := [.tmp 6]) (by kernel_rfl) Tryd.func99 rfl rfl (by kernel_rfl) (by kernel_rfl) rfl ?_
  (refine of_gate ?_; repeat' ((first | (with_reducible refine gate_in ?_) | (with_reducible refine spK_intro ?_ ?_ <;> intro hp) | (with_reducible refine brK_intro ?_ ?_ <;> intro hb <;> try rw [hb]) | (with_reducible refine draw_in (by unfold DrawOk; decide +kernel) ?_) | (with_reducible refine And.intro (by first | omega | (simp only [List.length_map, List.length_take]; omega)) ?_) | fail) <;> try simp only [go_sem, simprocAttr, List.length_map]))
  refine awp_loopA (fun k : Nat => [(1, .a (I v)), (2, .a (I n)), (7, .a (B (finalR (ops.take k) v n))), (10, .a (opsA' ops)), (11, .a (I ops.length)), (12, .a (I k))]) (fun _ => []) (fun k => k ≤ ops.length) (ops.length - ·) 0 ?_ ?_ (Nat.zero_le _) ?_
  · simp only [go_sem, simprocAttr, List.length_map]; try rfl
  · simp only [go_sem, simprocAttr]
  intro k j hk
  (refine of_gate ?_; repeat' ((first | (with_reducible refine gate_in ?_) | (with_reducible refine spK_intro ?_ ?_ <;> intro hp) | (with_reducible refine brK_intro ?_ ?_ <;> intro hb <;> try rw [hb]) | (with_reducible refine draw_in (by unfold DrawOk; decide +kernel) ?_) | (with_reducible refine And.intro (by first | omega | (simp only [List.length_map, List.length_take]; omega)) ?_) | fail) <;> try simp only [go_sem, simprocAttr]))
  · have hkl : k < ops.length := by omega
    have hx : ops[k]? = some ops[k] := List.getElem?_eq_getElem hkl
    have hw := wrap_succ (n := ops.length) hkl (by simp only [maxLen]; omega)
    have hs := finalR_s (v := v) (n := n) hkl
    generalize ops[k] = o at hx hs
    (refine of_gate ?_; repeat' ((first | (with_reducible refine gate_in ?_) | (with_reducible refine spK_intro ?_ ?_ <;> intro hp) | (with_reducible refine brK_intro ?_ ?_ <;> intro hb <;> try rw [hb]) | (with_reducible refine draw_in (by unfold DrawOk; decide +kernel) ?_) | (with_reducible refine And.intro (by first | omega | (simp only [List.length_map, List.length_take]; omega)) ?_) | fail) <;> try simp only [go_sem, simprocAttr, hx, Op.enc_eq, hw]))
    · have e : finalR (ops.take (k + 1)) v n = true := by rw [hs, if_pos (by simp [*])]; simp [*]
      (refine ⟨k + 1, ?_, ?_, hkl, by dsimp only; omega⟩ <;> simp only [go_sem, simprocAttr, hw, e])
    · have e : finalR (ops.take (k + 1)) v n = false := by rw [hs, if_pos (by simp [*])]; simp [*]
      (refine ⟨k + 1, ?_, ?_, hkl, by dsimp only; omega⟩ <;> simp only [go_sem, simprocAttr, hw, e])
    · have e : finalR (ops.take (k + 1)) v n = finalR (ops.take k) v n := by rw [hs, if_neg (by simp [*])]
      (refine ⟨k + 1, ?_, ?_, hkl, by dsimp only; omega⟩ <;> simp only [go_sem, simprocAttr, hw, e])
    · have e : finalR (ops.take (k + 1)) v n = finalR (ops.take k) v n := by rw [hs, if_neg (by simp [*])]
      (refine ⟨k + 1, ?_, ?_, hkl, by dsimp only; omega⟩ <;> simp only [go_sem, simprocAttr, hw, e])
  · rw [List.take_of_length_le (by omega)]
theorem q99 {ops : List Op} {v n : Int} (hl : ops.length ≤ 1000000) {σ : S} {KR : R → Prop} (hK : KR (retR [B (finalR ops v n)])) : callVQ Tryd.prog GL 99 [.a (opsA' ops), .a (I v), .a (I n)] σ KR :=
  callQ_dat (res := [B (finalR ops v n)]) (t99 ops v n hl) hK
theorem q100 {C k : Nat} (hC : C < 2 ^ 32) (hk : k ≤ 1000) {σ : S} {KR : R → Prop} (hK : KR (retR [B (C.testBit k)])) : callVQ Tryd.prog GL 100 [.a (U C), .a (I k)] σ KR :=
  callQ_dat (res := [B (C.testBit k)]) (t100 C k hC hk) hK
theorem source_cases (l : List Txn) (t i : Nat) (x : Txn) (o : Op) : sourceR l t i x o = t ∨ sourceR l t i x o = -1 ∨ sourceR l t i x o = -2 ∨ ∃ k : Nat, sourceR l t i x o = k ∧ k < l.length := by
  unfold sourceR
  split
  · exact .inl rfl
  · split
    · exact .inr (.inl rfl)
    · cases hf : othersR l t o.var o.val 0 with
      | none => exact .inr (.inr (.inl rfl))
      | some v =>
        obtain ⟨j, hj, hjv⟩ := List.exists_of_findSome?_eq_some hf
        simp only [List.drop_zero, List.mem_range] at hj
        split at hjv
        · split at hjv
          · cases hjv; exact .inr (.inr (.inr ⟨j, rfl, hj⟩))
          · cases hjv
        · cases hjv
/-- Is what an Op read explained? -/
def exR (l : List Txn) (C t i : Nat) : Bool := match l[t]? with
  | none => true
  | some x => match x.ops[i]? with
    | none => true
    | some o => if o.w then true else if sourceR l t i x o = t then finalR (x.ops.take i) o.var o.val else if sourceR l t i x o < 0 then sourceR l t i x o == -1 else match l[(sourceR l t i x o).toNat]? with
      | none => true
      | some y => finalR y.ops o.var o.val && C.testBit (sourceR l t i x o).toNat
theorem t75 (l : List Txn) (hf : FitT l) (hl : l.length ≤ 30) (C t i : Nat) (hC : C < 2 ^ 32) (x : Txn) (o : Op) (hx : l[t]? = some x) (ho : x.ops[i]? = some o) : Holds Tryd.prog GL 75 [txnsA l, U C, I t, I i] [.a (B (exR l C t i))] := by
  refine fn_holds (vs := [.tmp 8]) (by kernel_rfl) Tryd.func75 rfl rfl (by kernel_rfl) (by kernel_rfl) rfl ?_
  have htl := (List.getElem?_eq_some_iff.1 hx).1
  have hil := (List.getElem?_eq_some_iff.1 ho).1
  have hR : exR l C t i = (if o.w then true else if sourceR l t i x o = t then finalR (x.ops.take i) o.var o.val else if sourceR l t i x o < 0 then sourceR l t i x o == -1 else match l[(sourceR l t i x o).toNat]? with
      | none => true
      | some y => finalR y.ops o.var o.val && C.testBit (sourceR l t i x o).toNat) := by simp only [exR, hx, ho]
  rw [hR]
  have hxl : x.ops.length ≤ 1000000 := by
    have := hf.at htl
    rw [(List.getElem?_eq_some_iff.1 hx).2] at this; exact this
  have htk : List.take i (x.ops.map Op.enc) = (x.ops.take i).map Op.enc := by rw [List.map_take]
  have htkl : (x.ops.take i).length ≤ 1000000 := by simp; omega
  have hi1 : (i : Int) ≤ (x.ops.length : Int) := by omega
  by_cases hw : o.w = true
  · (refine of_gate ?_; repeat' ((first | (with_reducible refine gate_in ?_) | (with_reducible refine spK_intro ?_ ?_ <;> intro hp) | (with_reducible refine brK_intro ?_ ?_ <;> intro hb <;> try rw [hb]) | (with_reducible refine draw_in (by unfold DrawOk; decide +kernel) ?_) | (with_reducible refine And.intro (by first | omega | (simp only [List.length_map, List.length_take]; omega)) ?_) | fail) <;> try simp only [go_sem, simprocAttr, hx, ho, Txn.enc_eq, Op.enc_eq, hw]))
  · have hw : o.w = false := by simpa using hw
    (refine of_gate ?_; repeat' ((first | (with_reducible refine gate_in ?_) | (with_reducible refine spK_intro ?_ ?_ <;> intro hp) | (with_reducible refine brK_intro ?_ ?_ <;> intro hb <;> try rw [hb]) | (with_reducible refine draw_in (by unfold DrawOk; decide +kernel) ?_) | (with_reducible refine And.intro (by first | omega | (simp only [List.length_map, List.length_take]; omega)) ?_) | fail) <;> try simp only [go_sem, simprocAttr, hx, ho, Txn.enc_eq, Op.enc_eq, hw]))
    refine c68 hf hx ho ?_
    have hsc := source_cases l t i x o
    generalize sourceR l t i x o = s at hsc ⊢
    by_cases hst : s = (t : Int)
    · rw [hw, if_neg (by decide), if_pos hst]
      subst hst
      (refine of_gate ?_; repeat' ((first | (with_reducible refine gate_in ?_) | (with_reducible refine spK_intro ?_ ?_ <;> intro hp) | (with_reducible refine brK_intro ?_ ?_ <;> intro hb <;> try rw [hb]) | (with_reducible refine draw_in (by unfold DrawOk; decide +kernel) ?_) | (with_reducible refine And.intro (by first | omega | (simp only [List.length_map, List.length_take]; omega)) ?_) | fail) <;> try simp only [go_sem, simprocAttr, hx, ho, Txn.enc_eq, Op.enc_eq, hi1, htk, ops_lenT, Int.toNat_zero]))
      refine q99 htkl ?_
      (refine of_gate ?_; repeat' ((first | (with_reducible refine gate_in ?_) | (with_reducible refine spK_intro ?_ ?_ <;> intro hp) | (with_reducible refine brK_intro ?_ ?_ <;> intro hb <;> try rw [hb]) | (with_reducible refine draw_in (by unfold DrawOk; decide +kernel) ?_) | (with_reducible refine And.intro (by first | omega | (simp only [List.length_map, List.length_take]; omega)) ?_) | fail) <;> try simp only [go_sem, simprocAttr]))
    · rw [hw, if_neg (by decide), if_neg hst]
      have hsc : s < 0 ∨ ∃ k : Nat, s = k ∧ k < l.length := by rcases hsc with h | h | h | h <;> first | exact absurd h hst | exact .inl (by omega) | exact .inr h
      rcases hsc with hneg | ⟨k, rfl, hk⟩
      · rw [if_pos hneg]
        (refine of_gate ?_; repeat' ((first | (with_reducible refine gate_in ?_) | (with_reducible refine spK_intro ?_ ?_ <;> intro hp) | (with_reducible refine brK_intro ?_ ?_ <;> intro hb <;> try rw [hb]) | (with_reducible refine draw_in (by unfold DrawOk; decide +kernel) ?_) | (with_reducible refine And.intro (by first | omega | (simp only [List.length_map, List.length_take]; omega)) ?_) | fail) <;> try simp only [go_sem, simprocAttr, hst, hneg]))
        all_goals simp [*]
      · have hk0 : ¬ ((k : Int) < 0) := by omega
        have hy : l[k]? = some l[k] := List.getElem?_eq_getElem hk
        have hyl := hf.at hk
        generalize l[k] = y at hy hyl
        rw [if_neg hk0]
        simp only [Int.toNat_natCast, hy]
        (refine of_gate ?_; repeat' ((first | (with_reducible refine gate_in ?_) | (with_reducible refine spK_intro ?_ ?_ <;> intro hp) | (with_reducible refine brK_intro ?_ ?_ <;> intro hb <;> try rw [hb]) | (with_reducible refine draw_in (by unfold DrawOk; decide +kernel) ?_) | (with_reducible refine And.intro (by first | omega | (simp only [List.length_map, List.length_take]; omega)) ?_) | fail) <;> try simp only [go_sem, simprocAttr, hst, hk0, hy, Txn.enc_eq, Op.enc_eq]))
        refine q99 hyl ?_
        cases hF : finalR y.ops o.var o.val with
        | true =>
          (refine of_gate ?_; repeat' ((first | (with_reducible refine gate_in ?_) | (with_reducible refine spK_intro ?_ ?_ <;> intro hp) | (with_reducible refine brK_intro ?_ ?_ <;> intro hb <;> try rw [hb]) | (with_reducible refine draw_in (by unfold DrawOk; decide +kernel) ?_) | (with_reducible refine And.intro (by first | omega | (simp only [List.length_map, List.length_take]; omega)) ?_) | fail) <;> try simp only [go_sem, simprocAttr]))
          refine q100 hC (by omega) ?_
          (refine of_gate ?_; repeat' ((first | (with_reducible refine gate_in ?_) | (with_reducible refine spK_intro ?_ ?_ <;> intro hp) | (with_reducible refine brK_intro ?_ ?_ <;> intro hb <;> try rw [hb]) | (with_reducible refine draw_in (by unfold DrawOk; decide +kernel) ?_) | (with_reducible refine And.intro (by first | omega | (simp only [List.length_map, List.length_take]; omega)) ?_) | fail) <;> try simp only [go_sem, simprocAttr]))
          rfl
        | false =>
          (refine of_gate ?_; repeat' ((first | (with_reducible refine gate_in ?_) | (with_reducible refine spK_intro ?_ ?_ <;> intro hp) | (with_reducible refine brK_intro ?_ ?_ <;> intro hb <;> try rw [hb]) | (with_reducible refine draw_in (by unfold DrawOk; decide +kernel) ?_) | (with_reducible refine And.intro (by first | omega | (simp only [List.length_map, List.length_take]; omega)) ?_) | fail) <;> try simp only [go_sem, simprocAttr]))
          rfl
theorem c75 {l : List Txn} {C t i : Nat} {x : Txn} {o : Op} (hf : FitT l) (hl : l.length ≤ 30) (hC : C < 2 ^ 32) (hx : l[t]? = some x) (ho : x.ops[i]? = some o) {dst : Option Tmp} {σ : S} {K : S → Prop} (hK : σ.ret dst [.a (B (exR l C t i))] K) : callV Tryd.prog GL 75 [.a (txnsA l), .a (U C), .a (I t), .a (I i)] dst σ K := call_dat (t75 l hf hl C t i hC x o hx ho) hK
def exFrom (l : List Txn) (C k : Nat) : Bool := ((List.range l.length).drop k).all fun t => match l[t]? with
  | some x => (List.range x.ops.length).all fun i => exR l C t i
  | none => true
theorem t39 (l : List Txn) (hf : FitT l) (hl : l.length ≤ 30) (C : Nat) (hC : C < 2 ^ 32) : Holds Tryd.prog GL 39 [txnsA l, U C] [.a (B (exFrom l C 0))] := by
  refine fn_holds (vs := [.tmp 4]) (by kernel_rfl) Tryd.func39 rfl rfl (by kernel_rfl) (by kernel_rfl) rfl ?_
  (refine of_gate ?_; repeat' ((first | (with_reducible refine gate_in ?_) | (with_reducible refine spK_intro ?_ ?_ <;> intro hp) | (with_reducible refine brK_intro ?_ ?_ <;> intro hb <;> try rw [hb]) | (with_reducible refine draw_in (by unfold DrawOk; decide +kernel) ?_) | (with_reducible refine And.intro (by first | omega | (simp only [List.length_map, List.length_take]; omega)) ?_) | fail) <;> try simp only [go_sem, simprocAttr, List.length_map]))
  refine awp_loopA (fun t : Nat => [(0, .a (txnsA l)), (1, .a (U C)), (8, .a (txnsA l)), (9, .a (I l.length)), (10, .a (I t))]) (fun _ => []) (fun t => t ≤ l.length ∧ exFrom l C 0 = exFrom l C t) (l.length - ·) 0 ?_ ?_ ⟨Nat.zero_le _, rfl⟩ ?_
  · simp only [go_sem, simprocAttr, List.length_map]
  · simp only [go_sem, simprocAttr]
  intro t j ⟨ht, hq⟩
  (refine of_gate ?_; repeat' ((first | (with_reducible refine gate_in ?_) | (with_reducible refine spK_intro ?_ ?_ <;> intro hp) | (with_reducible refine brK_intro ?_ ?_ <;> intro hb <;> try rw [hb]) | (with_reducible refine draw_in (by unfold DrawOk; decide +kernel) ?_) | (with_reducible refine And.intro (by first | omega | (simp only [List.length_map, List.length_take]; omega)) ?_) | fail) <;> try simp only [go_sem, simprocAttr]))
  · have htl : t < l.length := by omega
    have hw := wrap_succ (n := l.length) htl (by simp only [maxLen]; omega)
    have hx : l[t]? = some l[t] := List.getElem?_eq_getElem htl
    have hol := hf.at htl
    have hs : exFrom l C t = ((List.range l[t].ops.length).all (fun i => exR l C t i) && exFrom l C (t + 1)) := by
      simp only [exFrom, range_drop htl, List.all_cons, hx]
    rw [hs] at hq
    generalize l[t] = x at hx hol hq
    (refine of_gate ?_; repeat' ((first | (with_reducible refine gate_in ?_) | (with_reducible refine spK_intro ?_ ?_ <;> intro hp) | (with_reducible refine brK_intro ?_ ?_ <;> intro hb <;> try rw [hb]) | (with_reducible refine draw_in (by unfold DrawOk; decide +kernel) ?_) | (with_reducible refine And.intro (by first | omega | (simp only [List.length_map, List.length_take]; omega)) ?_) | fail) <;> try simp only [go_sem, simprocAttr, hx, Txn.enc_eq, List.length_map]))
    refine awp_loopA (fun i : Nat => [(0, .a (txnsA l)), (1, .a (U C)), (5, .a (I t)), (8, .a (txnsA l)), (9, .a (I l.length)), (10, .a (I t)), (17, .a (I x.ops.length)), (18, .a (I i))]) (fun _ => []) (fun i => i ≤ x.ops.length ∧ exFrom l C 0 = (((List.range x.ops.length).drop i).all (fun i => exR l C t i) && exFrom l C (t + 1))) (x.ops.length - ·) 0 ?_ ?_ ⟨Nat.zero_le _, hq⟩ ?_
    · simp only [go_sem, simprocAttr, List.length_map]
    · simp only [go_sem, simprocAttr]
    intro i j2 ⟨hi, hv⟩
    (refine of_gate ?_; repeat' ((first | (with_reducible refine gate_in ?_) | (with_reducible refine spK_intro ?_ ?_ <;> intro hp) | (with_reducible refine brK_intro ?_ ?_ <;> intro hb <;> try rw [hb]) | (with_reducible refine draw_in (by unfold DrawOk; decide +kernel) ?_) | (with_reducible refine And.intro (by first | omega | (simp only [List.length_map, List.length_take]; omega)) ?_) | fail) <;> try simp only [go_sem, simprocAttr]))
    · have hil : i < x.ops.length := by omega
      have hwi := wrap_succ (n := x.ops.length) hil (by simp only [maxLen]; omega)
      have ho : x.ops[i]? = some x.ops[i] := List.getElem?_eq_getElem hil
      rw [range_drop hil, List.all_cons] at hv
      refine c75 hf hl hC hx ho ?_
      cases hB : exR l C t i with
      | true =>
        rw [hB, Bool.true_and] at hv
        (refine of_gate ?_; repeat' ((first | (with_reducible refine gate_in ?_) | (with_reducible refine spK_intro ?_ ?_ <;> intro hp) | (with_reducible refine brK_intro ?_ ?_ <;> intro hb <;> try rw [hb]) | (with_reducible refine draw_in (by unfold DrawOk; decide +kernel) ?_) | (with_reducible refine And.intro (by first | omega | (simp only [List.length_map, List.length_take]; omega)) ?_) | fail) <;> try simp only [go_sem, simprocAttr, hwi]))
        (refine ⟨i + 1, ?_, ?_, ⟨hil, hv⟩, by dsimp only; omega⟩ <;> simp only [go_sem, simprocAttr, hwi])
      | false =>
        rw [hB, Bool.false_and, Bool.false_and] at hv
        (refine of_gate ?_; repeat' ((first | (with_reducible refine gate_in ?_) | (with_reducible refine spK_intro ?_ ?_ <;> intro hp) | (with_reducible refine brK_intro ?_ ?_ <;> intro hb <;> try rw [hb]) | (with_reducible refine draw_in (by unfold DrawOk; decide +kernel) ?_) | (with_reducible refine And.intro (by first | omega | (simp only [List.length_map, List.length_take]; omega)) ?_) | fail) <;> try simp only [go_sem, simprocAttr, hwi, hv]))
    · rw [List.drop_eq_nil_of_le (by simp; omega)] at hv
      (refine of_gate ?_; repeat' ((first | (with_reducible refine gate_in ?_) | (with_reducible refine spK_intro ?_ ?_ <;> intro hp) | (with_reducible refine brK_intro ?_ ?_ <;> intro hb <;> try rw [hb]) | (with_reducible refine draw_in (by unfold DrawOk; decide +kernel) ?_) | (with_reducible refine And.intro (by first | omega | (simp only [List.length_map, List.length_take]; omega)) ?_) | fail) <;> try simp only [go_sem, simprocAttr, hw]))
      (refine ⟨t + 1, ?_, ?_, ⟨htl, by simpa using hv⟩, by dsimp only; omega⟩ <;> simp only [go_sem, simprocAttr, hw])
  · rw [hq, exFrom, List.drop_eq_nil_of_le (by simp; omega)]; rfl
/-- How often a row has what. -/
def cntR (r : List Int) (i : Int) : Nat := r.foldl (fun n x => if x = i then n + 1 else n) 0
theorem cntR_s {r : List Int} {k : Nat} {i : Int} (hk : k < r.length) : cntR (r.take (k + 1)) i = if r[k] = i then cntR (r.take k) i + 1 else cntR (r.take k) i := by
  rw [List.take_succ_eq_append_getElem hk, cntR, List.foldl_append]; rfl
theorem cntR_le {r : List Int} {i : Int} : ∀ k, k ≤ r.length → cntR (r.take k) i ≤ k
  | 0, _ => by simp [cntR]
  | k + 1, h => by
    have := cntR_le (r := r) (i := i) k (by omega)
    rw [cntR_s (by omega)]
    split <;> omega
def whFrom (r : List Int) (n k : Nat) : Bool := ((List.range n).drop k).all fun (i : Nat) => decide (cntR r i = 1)
theorem t40 (l : List Txn) (hl : l.length ≤ 30) (r : List Int) (hrl : r.length ≤ 1000000) : Holds Tryd.prog GL 40 [txnsA l, intsA r] [.a (B (whFrom r l.length 0 && decide (r.length = l.length)))] := by
  refine fn_holds (vs := [.tmp 4]) (by kernel_rfl) Tryd.func40 rfl rfl (by kernel_rfl) (by kernel_rfl) rfl ?_
  (refine of_gate ?_; repeat' ((first | (with_reducible refine gate_in ?_) | (with_reducible refine spK_intro ?_ ?_ <;> intro hp) | (with_reducible refine brK_intro ?_ ?_ <;> intro hb <;> try rw [hb]) | (with_reducible refine draw_in (by unfold DrawOk; decide +kernel) ?_) | (with_reducible refine And.intro (by first | omega | (simp only [List.length_map, List.length_take]; omega)) ?_) | fail) <;> try simp only [go_sem, simprocAttr, List.length_map]))
  refine awp_loopA (fun t : Nat => [(0, .a (txnsA l)), (1, .a (intsA r)), (10, .a (I l.length)), (11, .a (I t))]) (fun _ => []) (fun t => t ≤ l.length ∧ whFrom r l.length 0 = whFrom r l.length t) (l.length - ·) 0 ?_ ?_ ⟨Nat.zero_le _, rfl⟩ ?_
  · simp only [go_sem, simprocAttr, List.length_map]
  · simp only [go_sem, simprocAttr]
  intro t j ⟨ht, hq⟩
  (refine of_gate ?_; repeat' ((first | (with_reducible refine gate_in ?_) | (with_reducible refine spK_intro ?_ ?_ <;> intro hp) | (with_reducible refine brK_intro ?_ ?_ <;> intro hb <;> try rw [hb]) | (with_reducible refine draw_in (by unfold DrawOk; decide +kernel) ?_) | (with_reducible refine And.intro (by first | omega | (simp only [List.length_map, List.length_take]; omega)) ?_) | fail) <;> try simp only [go_sem, simprocAttr]))
  · have htl : t < l.length := by omega
    have hw := wrap_succ (n := l.length) htl (by simp only [maxLen]; omega)
    have hs : whFrom r l.length t = (decide (cntR r t = 1) && whFrom r l.length (t + 1)) := by
      simp only [whFrom, range_drop htl, List.all_cons]
    rw [hs] at hq
    (refine of_gate ?_; repeat' ((first | (with_reducible refine gate_in ?_) | (with_reducible refine spK_intro ?_ ?_ <;> intro hp) | (with_reducible refine brK_intro ?_ ?_ <;> intro hb <;> try rw [hb]) | (with_reducible refine draw_in (by unfold DrawOk; decide +kernel) ?_) | (with_reducible refine And.intro (by first | omega | (simp only [List.length_map, List.length_take]; omega)) ?_) | fail) <;> try simp only [go_sem, simprocAttr, List.length_map]))
    refine awp_loopA (fun k : Nat => [(0, .a (txnsA l)), (1, .a (intsA r)), (5, .a (I t)), (6, .a (I (cntR (r.take k) t))), (10, .a (I l.length)), (11, .a (I t)), (14, .a (intsA r)), (15, .a (I r.length)), (16, .a (I k))]) (fun _ => []) (fun k => k ≤ r.length) (r.length - ·) 0 ?_ ?_ (Nat.zero_le _) ?_
    · simp only [go_sem, simprocAttr, List.length_map]; try rfl
    · simp only [go_sem, simprocAttr]
    intro k j2 hk
    (refine of_gate ?_; repeat' ((first | (with_reducible refine gate_in ?_) | (with_reducible refine spK_intro ?_ ?_ <;> intro hp) | (with_reducible refine brK_intro ?_ ?_ <;> intro hb <;> try rw [hb]) | (with_reducible refine draw_in (by unfold DrawOk; decide +kernel) ?_) | (with_reducible refine And.intro (by first | omega | (simp only [List.length_map, List.length_take]; omega)) ?_) | fail) <;> try simp only [go_sem, simprocAttr]))
    · have hkl : k < r.length := by omega
      have hwk := wrap_succ (n := r.length) hkl (by simp only [maxLen]; omega)
      have hx : r[k]? = some r[k] := List.getElem?_eq_getElem hkl
      have hcs := cntR_s (i := (t : Int)) hkl
      have hcl := cntR_le (r := r) (i := (t : Int)) k hk
      have hwc := wrap_succ (k := cntR (r.take k) t) (n := 1000001) (by omega) (by simp only [maxLen]; omega)
      generalize r[k] = x at hx hcs
      (refine of_gate ?_; repeat' ((first | (with_reducible refine gate_in ?_) | (with_reducible refine spK_intro ?_ ?_ <;> intro hp) | (with_reducible refine brK_intro ?_ ?_ <;> intro hb <;> try rw [hb]) | (with_reducible refine draw_in (by unfold DrawOk; decide +kernel) ?_) | (with_reducible refine And.intro (by first | omega | (simp only [List.length_map, List.length_take]; omega)) ?_) | fail) <;> try simp only [go_sem, simprocAttr, hx, ienc_eq, hwk, hwc]))
      · rw [if_pos (by omega)] at hcs
        (refine ⟨k + 1, ?_, ?_, hkl, by dsimp only; omega⟩ <;> simp only [go_sem, simprocAttr, hwk, hwc, hcs])
      · rw [if_neg (by omega)] at hcs
        (refine ⟨k + 1, ?_, ?_, hkl, by dsimp only; omega⟩ <;> simp only [go_sem, simprocAttr, hwk, hcs])
    · have hc : cntR (r.take k) (t : Int) = cntR r t := by rw [List.take_of_length_le (show r.length ≤ k by omega)]
      rw [← hc, decide_eq_true (by omega), Bool.true_and] at hq
      (refine of_gate ?_; repeat' ((first | (with_reducible refine gate_in ?_) | (with_reducible refine spK_intro ?_ ?_ <;> intro hp) | (with_reducible refine brK_intro ?_ ?_ <;> intro hb <;> try rw [hb]) | (with_reducible refine draw_in (by unfold DrawOk; decide +kernel) ?_) | (with_reducible refine And.intro (by first | omega | (simp only [List.length_map, List.length_take]; omega)) ?_) | fail) <;> try simp only [go_sem, simprocAttr, hw]))
      (refine ⟨t + 1, ?_, ?_, ⟨htl, hq⟩, by dsimp only; omega⟩ <;> simp only [go_sem, simprocAttr, hw])
    · have hc : cntR (r.take k) (t : Int) = cntR r t := by rw [List.take_of_length_le (show r.length ≤ k by omega)]
      rw [← hc, decide_eq_false (by omega), Bool.false_and] at hq
      rw [hq]; rfl
  · have h1 : whFrom r l.length t = true := by rw [whFrom, List.drop_eq_nil_of_le (by simp; omega)]; rfl
    simp only [List.length_map] at *
    rw [hq, h1, decide_eq_true (by omega)]; rfl
  · simp only [List.length_map] at *
    rw [decide_eq_false (by omega), Bool.and_false]
end Go.VC
end
section
set_option maxRecDepth 100000
set_option linter.unusedSimpArgs false
set_option linter.unusedVariables false
set_option linter.unnecessarySimpa false
namespace Go.VC
open Go.RowKit Go.Proofs Go.IntWalk
/-- Is one ahead of another one? -/
def aheadR : List Int → Int → Int → Bool
  | [], _, _ => false
  | x :: xs, a, b => if x = b then false else if x = a then true else aheadR xs a b
theorem t121 (r : List Int) (hrl : r.length ≤ 1000000) (a b : Int) : Holds Tryd.prog GL 121 [intsA r, I a, I b] [.a (B (aheadR r a b))] := by
  refine fn_holds (vs := [.tmp 6]) (by kernel_rfl) Tryd.func121 rfl rfl (by kernel_rfl) (by kernel_rfl) rfl ?_
  (refine of_gate ?_; repeat' ((first | (with_reducible refine gate_in ?_) | (with_reducible refine spK_intro ?_ ?_ <;> intro hp) | (with_reducible refine brK_intro ?_ ?_ <;> intro hb <;> try rw [hb]) | (with_reducible refine draw_in (by unfold DrawOk; decide +kernel) ?_) | (with_reducible refine And.intro (by first | omega | (simp only [List.length_map, List.length_take]; omega)) ?_) | fail) <;> try simp only [go_sem, simprocAttr, List.length_map]))
  refine awp_loopA (fun k : Nat => [(1, .a (I a)), (2, .a (I b)), (9, .a (intsA r)), (10, .a (I r.length)), (11, .a (I k))]) (fun _ => []) (fun k => k ≤ r.length ∧ aheadR r a b = aheadR (r.drop k) a b) (r.length - ·) 0 ?_ ?_ ⟨Nat.zero_le _, rfl⟩ ?_
  · simp only [go_sem, simprocAttr, List.length_map]
  · simp only [go_sem, simprocAttr]
  intro k j ⟨hk, hq⟩
  (refine of_gate ?_; repeat' ((first | (with_reducible refine gate_in ?_) | (with_reducible refine spK_intro ?_ ?_ <;> intro hp) | (with_reducible refine brK_intro ?_ ?_ <;> intro hb <;> try rw [hb]) | (with_reducible refine draw_in (by unfold DrawOk; decide +kernel) ?_) | (with_reducible refine And.intro (by first | omega | (simp only [List.length_map, List.length_take]; omega)) ?_) | fail) <;> try simp only [go_sem, simprocAttr]))
  · have hkl : k < r.length := by omega
    have hw := wrap_succ (n := r.length) hkl (by simp only [maxLen]; omega)
    have hx : r[k]? = some r[k] := List.getElem?_eq_getElem hkl
    rw [List.drop_eq_getElem_cons hkl, aheadR] at hq
    generalize r[k] = x at hx hq
    (refine of_gate ?_; repeat' ((first | (with_reducible refine gate_in ?_) | (with_reducible refine spK_intro ?_ ?_ <;> intro hp) | (with_reducible refine brK_intro ?_ ?_ <;> intro hb <;> try rw [hb]) | (with_reducible refine draw_in (by unfold DrawOk; decide +kernel) ?_) | (with_reducible refine And.intro (by first | omega | (simp only [List.length_map, List.length_take]; omega)) ?_) | fail) <;> try simp only [go_sem, simprocAttr, hx, ienc_eq, hw]))
    · rw [hq, if_pos ‹_›]
    · rw [hq, if_neg ‹_›, if_pos ‹_›]
    · rw [if_neg ‹_›, if_neg ‹_›] at hq
      (refine ⟨k + 1, ?_, ?_, ⟨hkl, hq⟩, by dsimp only; omega⟩ <;> simp only [go_sem, simprocAttr, hw])
  · rw [hq, List.drop_eq_nil_of_le (by omega)]; rfl
theorem c121 {r : List Int} (hrl : r.length ≤ 1000000) {a b : Int} {dst : Option Tmp} {σ : S} {K : S → Prop} (hK : σ.ret dst [.a (B (aheadR r a b))] K) : callV Tryd.prog GL 121 [.a (intsA r), .a (I a), .a (I b)] dst σ K := call_dat (t121 r hrl a b) hK
/-- Does one commit, and write a variable? -/
def writesC (l : List Txn) (C k : Nat) (v : Int) : Bool := match l[k]? with
  | some y => C.testBit k && ownsR y.ops v
  | none => false
theorem t120 (l : List Txn) (C k : Nat) (v : Int) (hC : C < 2 ^ 32) (hk : k < l.length) (hl : l.length ≤ 30) : Holds Tryd.prog GL 120 [txnsA l, U C, I k, I v] [.a (B (writesC l C k v))] := by
  refine fn_holds (vs := [.tmp 8]) (by kernel_rfl) Tryd.func120 rfl rfl (by kernel_rfl) (by kernel_rfl) rfl ?_
  have hx : l[k]? = some l[k] := List.getElem?_eq_getElem hk
  have hR : writesC l C k v = (C.testBit k && ownsR l[k].ops v) := by simp only [writesC, hx]
  rw [hR]
  generalize l[k] = x at hx
  (refine of_gate ?_; repeat' ((first | (with_reducible refine gate_in ?_) | (with_reducible refine spK_intro ?_ ?_ <;> intro hp) | (with_reducible refine brK_intro ?_ ?_ <;> intro hb <;> try rw [hb]) | (with_reducible refine draw_in (by unfold DrawOk; decide +kernel) ?_) | (with_reducible refine And.intro (by first | omega | (simp only [List.length_map, List.length_take]; omega)) ?_) | fail) <;> try simp only [go_sem, simprocAttr]))
  refine call_dat (t100 C k hC (by omega)) ?_
  cases hB : C.testBit k with
  | true =>
    (refine of_gate ?_; repeat' ((first | (with_reducible refine gate_in ?_) | (with_reducible refine spK_intro ?_ ?_ <;> intro hp) | (with_reducible refine brK_intro ?_ ?_ <;> intro hb <;> try rw [hb]) | (with_reducible refine draw_in (by unfold DrawOk; decide +kernel) ?_) | (with_reducible apply c96) | (with_reducible refine And.intro (by first | omega | (simp only [List.length_map, List.length_take]; omega)) ?_) | fail) <;> try simp only [go_sem, simprocAttr, hx, Txn.enc_eq]))
    rfl
  | false => (refine of_gate ?_; repeat' ((first | (with_reducible refine gate_in ?_) | (with_reducible refine spK_intro ?_ ?_ <;> intro hp) | (with_reducible refine brK_intro ?_ ?_ <;> intro hb <;> try rw [hb]) | (with_reducible refine draw_in (by unfold DrawOk; decide +kernel) ?_) | (with_reducible refine And.intro (by first | omega | (simp only [List.length_map, List.length_take]; omega)) ?_) | fail) <;> try simp only [go_sem, simprocAttr, hx, Txn.enc_eq])); rfl
theorem c120 {l : List Txn} {C k : Nat} {v : Int} (hC : C < 2 ^ 32) (hk : k < l.length) (hl : l.length ≤ 30) {dst : Option Tmp} {σ : S} {K : S → Prop} (hK : σ.ret dst [.a (B (writesC l C k v))] K) : callV Tryd.prog GL 120 [.a (txnsA l), .a (U C), .a (I k), .a (I v)] dst σ K := call_dat (t120 l C k v hC hk hl) hK
def thirdC (l : List Txn) (C : Nat) (r : List Int) (i : Nat) (x : Txn) (k n : Nat) : Bool := match x.ops[n]? with
  | none => false
  | some o => !o.w && (decide (¬ sourceR l i n x o = i) && (decide (¬ (k : Int) = i) && (decide (¬ (k : Int) = sourceR l i n x o) && (writesC l C k o.var && (decide (sourceR l i n x o < 0) || aheadR r (sourceR l i n x o) k)))))
def thirdFrom (l : List Txn) (C : Nat) (r : List Int) (i : Nat) (x : Txn) (k n : Nat) : Bool := ((List.range x.ops.length).drop n).any (thirdC l C r i x k)
theorem t101 (l : List Txn) (hf : FitT l) (hl : l.length ≤ 30) (C : Nat) (hC : C < 2 ^ 32) (r : List Int) (hrl : r.length ≤ 1000000) (i k : Nat) (hk : k < l.length) (x : Txn) (hx : l[i]? = some x) : Holds Tryd.prog GL 101 [txnsA l, U C, intsA r, I i, I k] [.a (B (thirdFrom l C r i x k 0))] := by
  refine fn_holds (vs := [.tmp 10]) (by kernel_rfl) Tryd.func101 rfl rfl (by kernel_rfl) (by kernel_rfl) rfl ?_
  have hxl : x.ops.length ≤ 1000000 := by
    have := hf.at (List.getElem?_eq_some_iff.1 hx).1
    rw [(List.getElem?_eq_some_iff.1 hx).2] at this; exact this
  (refine of_gate ?_; repeat' ((first | (with_reducible refine gate_in ?_) | (with_reducible refine spK_intro ?_ ?_ <;> intro hp) | (with_reducible refine brK_intro ?_ ?_ <;> intro hb <;> try rw [hb]) | (with_reducible refine draw_in (by unfold DrawOk; decide +kernel) ?_) | (with_reducible refine And.intro (by first | omega | (simp only [List.length_map, List.length_take]; omega)) ?_) | fail) <;> try simp only [go_sem, simprocAttr, hx, Txn.enc_eq, List.length_map]))
  refine awp_loopA (fun n : Nat => [(0, .a (txnsA l)), (1, .a (U C)), (2, .a (intsA r)), (3, .a (I i)), (4, .a (I k)), (18, .a (opsA' x.ops)), (19, .a (I x.ops.length)), (20, .a (I n))]) (fun _ => []) (fun n => n ≤ x.ops.length ∧ thirdFrom l C r i x k 0 = thirdFrom l C r i x k n) (x.ops.length - ·) 0 ?_ ?_ ⟨Nat.zero_le _, rfl⟩ ?_
  · simp only [go_sem, simprocAttr, List.length_map]
  · simp only [go_sem, simprocAttr]
  intro n j ⟨hn, hq⟩
  (refine of_gate ?_; repeat' ((first | (with_reducible refine gate_in ?_) | (with_reducible refine spK_intro ?_ ?_ <;> intro hp) | (with_reducible refine brK_intro ?_ ?_ <;> intro hb <;> try rw [hb]) | (with_reducible refine draw_in (by unfold DrawOk; decide +kernel) ?_) | (with_reducible refine And.intro (by first | omega | (simp only [List.length_map, List.length_take]; omega)) ?_) | fail) <;> try simp only [go_sem, simprocAttr]))
  · have hnl : n < x.ops.length := by omega
    have hw := wrap_succ (n := x.ops.length) hnl (by simp only [maxLen]; omega)
    have ho : x.ops[n]? = some x.ops[n] := List.getElem?_eq_getElem hnl
    rw [thirdFrom, thirdFrom, range_drop hnl, List.any_cons] at hq
    generalize x.ops[n] = o at ho
    (refine of_gate ?_; repeat' ((first | (with_reducible refine gate_in ?_) | (with_reducible refine spK_intro ?_ ?_ <;> intro hp) | (with_reducible refine brK_intro ?_ ?_ <;> intro hb <;> try rw [hb]) | (with_reducible refine draw_in (by unfold DrawOk; decide +kernel) ?_) | (with_reducible refine And.intro (by first | omega | (simp only [List.length_map, List.length_take]; omega)) ?_) | fail) <;> try simp only [go_sem, simprocAttr, ho, Op.enc_eq, hw]))
    refine c68 hf hx ho ?_
    have e0 : thirdC l C r i x k n = (!o.w && (decide (¬ sourceR l i n x o = i) && (decide (¬ (k : Int) = i) && (decide (¬ (k : Int) = sourceR l i n x o) && (writesC l C k o.var && (decide (sourceR l i n x o < 0) || aheadR r (sourceR l i n x o) k)))))) := by simp only [thirdC, ho]
    rw [e0] at hq
    generalize sourceR l i n x o = s at hq
    (refine of_gate ?_; repeat' ((first | (with_reducible refine gate_in ?_) | (with_reducible refine spK_intro ?_ ?_ <;> intro hp) | (with_reducible refine brK_intro ?_ ?_ <;> intro hb <;> try rw [hb]) | (with_reducible refine draw_in (by unfold DrawOk; decide +kernel) ?_) | (with_reducible refine c120 hC hk hl ?_) | (with_reducible refine c121 hrl ?_) | (with_reducible refine And.intro (by first | omega | (simp only [List.length_map, List.length_take]; omega)) ?_) | fail) <;> try simp only [go_sem, simprocAttr, ho, Op.enc_eq, hw]))
    all_goals first
      | (simp only [*, decide_true, decide_false, Bool.not_true, Bool.not_false, Bool.true_and, Bool.false_and, Bool.and_false, Bool.false_or, Bool.or_false, Bool.true_or, not_true_eq_false, not_false_eq_true] at hq; (refine ⟨n + 1, ?_, ?_, ⟨hnl, hq⟩, by dsimp only; omega⟩ <;> simp only [go_sem, simprocAttr, hw]); done)
      | (rw [thirdFrom, hq]; simp [*]; done)
  · rw [hq, thirdFrom, List.drop_eq_nil_of_le (by simp; omega)]; rfl
theorem c101 {l : List Txn} (hf : FitT l) (hl : l.length ≤ 30) {C : Nat} (hC : C < 2 ^ 32) {r : List Int} (hrl : r.length ≤ 1000000) {i k : Nat} (hk : k < l.length) {x : Txn} (hx : l[i]? = some x) {dst : Option Tmp} {σ : S} {K : S → Prop} (hK : σ.ret dst [.a (B (thirdFrom l C r i x k 0))] K) : callV Tryd.prog GL 101 [.a (txnsA l), .a (U C), .a (intsA r), .a (I i), .a (I k)] dst σ K := call_dat (t101 l hf hl C hC r hrl i k hk x hx) hK
def fourthC (l : List Txn) (C : Nat) (r : List Int) (t : Nat) (x : Txn) (i k n : Nat) : Bool := match x.ops[n]? with
  | none => false
  | some o => !o.w && (decide (¬ sourceR l t n x o = t) && (decide (sourceR l t n x o = k) && (decide (¬ (i : Int) = t) && (decide (¬ (i : Int) = k) && (writesC l C i o.var && aheadR r i k)))))
def fourthFrom (l : List Txn) (C : Nat) (r : List Int) (t : Nat) (x : Txn) (i k n : Nat) : Bool := ((List.range x.ops.length).drop n).any (fourthC l C r t x i k)
theorem t102 (l : List Txn) (hf : FitT l) (hl : l.length ≤ 30) (C : Nat) (hC : C < 2 ^ 32) (r : List Int) (hrl : r.length ≤ 1000000) (t i k : Nat) (hi : i < l.length) (x : Txn) (hx : l[t]? = some x) : Holds Tryd.prog GL 102 [txnsA l, U C, intsA r, I t, I i, I k] [.a (B (fourthFrom l C r t x i k 0))] := by
  refine fn_holds (vs := [.tmp 12]) (by kernel_rfl) Tryd.func102 rfl rfl (by kernel_rfl) (by kernel_rfl) rfl ?_
  have hxl : x.ops.length ≤ 1000000 := by
    have := hf.at (List.getElem?_eq_some_iff.1 hx).1
    rw [(List.getElem?_eq_some_iff.1 hx).2] at this; exact this
  (refine of_gate ?_; repeat' ((first | (with_reducible refine gate_in ?_) | (with_reducible refine spK_intro ?_ ?_ <;> intro hp) | (with_reducible refine brK_intro ?_ ?_ <;> intro hb <;> try rw [hb]) | (with_reducible refine draw_in (by unfold DrawOk; decide +kernel) ?_) | (with_reducible refine And.intro (by first | omega | (simp only [List.length_map, List.length_take]; omega)) ?_) | fail) <;> try simp only [go_sem, simprocAttr, hx, Txn.enc_eq, List.length_map]))
  refine awp_loopA (fun n : Nat => [(0, .a (txnsA l)), (1, .a (U C)), (2, .a (intsA r)), (3, .a (I t)), (4, .a (I i)), (5, .a (I k)), (20, .a (opsA' x.ops)), (21, .a (I x.ops.length)), (22, .a (I n))]) (fun _ => []) (fun n => n ≤ x.ops.length ∧ fourthFrom l C r t x i k 0 = fourthFrom l C r t x i k n) (x.ops.length - ·) 0 ?_ ?_ ⟨Nat.zero_le _, rfl⟩ ?_
  · simp only [go_sem, simprocAttr, List.length_map]
  · simp only [go_sem, simprocAttr]
  intro n j ⟨hn, hq⟩
  (refine of_gate ?_; repeat' ((first | (with_reducible refine gate_in ?_) | (with_reducible refine spK_intro ?_ ?_ <;> intro hp) | (with_reducible refine brK_intro ?_ ?_ <;> intro hb <;> try rw [hb]) | (with_reducible refine draw_in (by unfold DrawOk; decide +kernel) ?_) | (with_reducible refine And.intro (by first | omega | (simp only [List.length_map, List.length_take]; omega)) ?_) | fail) <;> try simp only [go_sem, simprocAttr]))
  · have hnl : n < x.ops.length := by omega
    have hw := wrap_succ (n := x.ops.length) hnl (by simp only [maxLen]; omega)
    have ho : x.ops[n]? = some x.ops[n] := List.getElem?_eq_getElem hnl
    rw [fourthFrom, fourthFrom, range_drop hnl, List.any_cons] at hq
    generalize x.ops[n] = o at ho
    (refine of_gate ?_; repeat' ((first | (with_reducible refine gate_in ?_) | (with_reducible refine spK_intro ?_ ?_ <;> intro hp) | (with_reducible refine brK_intro ?_ ?_ <;> intro hb <;> try rw [hb]) | (with_reducible refine draw_in (by unfold DrawOk; decide +kernel) ?_) | (with_reducible refine And.intro (by first | omega | (simp only [List.length_map, List.length_take]; omega)) ?_) | fail) <;> try simp only [go_sem, simprocAttr, ho, Op.enc_eq, hw]))
    refine c68 hf hx ho ?_
    have e0 : fourthC l C r t x i k n = (!o.w && (decide (¬ sourceR l t n x o = t) && (decide (sourceR l t n x o = k) && (decide (¬ (i : Int) = t) && (decide (¬ (i : Int) = k) && (writesC l C i o.var && aheadR r i k)))))) := by simp only [fourthC, ho]
    rw [e0] at hq
    generalize sourceR l t n x o = s at hq
    (refine of_gate ?_; repeat' ((first | (with_reducible refine gate_in ?_) | (with_reducible refine spK_intro ?_ ?_ <;> intro hp) | (with_reducible refine brK_intro ?_ ?_ <;> intro hb <;> try rw [hb]) | (with_reducible refine draw_in (by unfold DrawOk; decide +kernel) ?_) | (with_reducible refine c120 hC hi hl ?_) | (with_reducible refine c121 hrl ?_) | (with_reducible refine And.intro (by first | omega | (simp only [List.length_map, List.length_take]; omega)) ?_) | fail) <;> try simp only [go_sem, simprocAttr, ho, Op.enc_eq, hw]))
    all_goals first
      | (simp only [*, decide_true, decide_false, Bool.not_true, Bool.not_false, Bool.true_and, Bool.false_and, Bool.and_false, Bool.false_or, Bool.or_false, Bool.true_or, not_true_eq_false, not_false_eq_true] at hq; (refine ⟨n + 1, ?_, ?_, ⟨hnl, hq⟩, by dsimp only; omega⟩ <;> simp only [go_sem, simprocAttr, hw]); done)
      | (rw [fourthFrom, hq]; simp [*]; done)
      | (rw [fourthFrom, hq]; have hsk : s = (k : Int) := by assumption
         subst hsk; simp [*]; done)
  · rw [hq, fourthFrom, List.drop_eq_nil_of_le (by simp; omega)]; rfl
theorem c102 {l : List Txn} (hf : FitT l) (hl : l.length ≤ 30) {C : Nat} (hC : C < 2 ^ 32) {r : List Int} (hrl : r.length ≤ 1000000) {t i k : Nat} (hi : i < l.length) {x : Txn} (hx : l[t]? = some x) {dst : Option Tmp} {σ : S} {K : S → Prop} (hK : σ.ret dst [.a (B (fourthFrom l C r t x i k 0))] K) : callV Tryd.prog GL 102 [.a (txnsA l), .a (U C), .a (intsA r), .a (I t), .a (I i), .a (I k)] dst σ K := call_dat (t102 l hf hl C hC r hrl t i k hi x hx) hK
def secC (l : List Txn) (i k : Nat) (y : Txn) (n : Nat) : Bool := match y.ops[n]? with
  | none => false
  | some o => !o.w && (decide (¬ (i : Int) = k) && decide (sourceR l k n y o = i))
def secFrom (l : List Txn) (i k : Nat) (y : Txn) (n : Nat) : Bool := ((List.range y.ops.length).drop n).any (secC l i k y)
def frFrom (l : List Txn) (C : Nat) (r : List Int) (i k t : Nat) : Bool := ((List.range l.length).drop t).any fun t => match l[t]? with
  | some z => fourthFrom l C r t z i k 0
  | none => false
/-- Is k to come behind i? -/
def behindR (l : List Txn) (C : Nat) (r : List Int) (i k : Nat) : Bool := match l[i]?, l[k]? with
  | some x, some y => beforeB l i k || (thirdFrom l C r i x k 0 || (secFrom l i k y 0 || frFrom l C r i k 0))
  | _, _ => false
theorem t76 (l : List Txn) (hf : FitT l) (hs : StT l) (hl : l.length ≤ 30) (C : Nat) (hC : C < 2 ^ 32) (r : List Int) (hrl : r.length ≤ 1000000) (i k : Nat) (hi : i < l.length) (hk : k < l.length) : Holds Tryd.prog GL 76 [txnsA l, U C, intsA r, I i, I k] [.a (B (behindR l C r i k))] := by
  refine fn_holds (vs := [.tmp 10]) (by kernel_rfl) Tryd.func76 rfl rfl (by kernel_rfl) (by kernel_rfl) rfl ?_
  have hx : l[i]? = some l[i] := List.getElem?_eq_getElem hi
  have hy : l[k]? = some l[k] := List.getElem?_eq_getElem hk
  have hyl : l[k].ops.length ≤ 1000000 := hf.at hk
  have hb : behindR l C r i k = (beforeB l i k || (thirdFrom l C r i l[i] k 0 || (secFrom l i k l[k] 0 || frFrom l C r i k 0))) := by simp only [behindR, hx, hy]
  rw [hb]
  generalize l[i] = x at *
  generalize l[k] = y at *
  (refine of_gate ?_; repeat' ((first | (with_reducible refine gate_in ?_) | (with_reducible refine spK_intro ?_ ?_ <;> intro hp) | (with_reducible refine brK_intro ?_ ?_ <;> intro hb <;> try rw [hb]) | (with_reducible refine draw_in (by unfold DrawOk; decide +kernel) ?_) | (with_reducible refine And.intro (by first | omega | (simp only [List.length_map, List.length_take]; omega)) ?_) | fail) <;> try simp only [go_sem, simprocAttr]))
  refine c24 hs hi hk ?_
  cases hB : beforeB l i k with
  | true => (refine of_gate ?_; repeat' ((first | (with_reducible refine gate_in ?_) | (with_reducible refine spK_intro ?_ ?_ <;> intro hp) | (with_reducible refine brK_intro ?_ ?_ <;> intro hb <;> try rw [hb]) | (with_reducible refine draw_in (by unfold DrawOk; decide +kernel) ?_) | (with_reducible refine And.intro (by first | omega | (simp only [List.length_map, List.length_take]; omega)) ?_) | fail) <;> try simp only [go_sem, simprocAttr])); rfl
  | false =>
    (refine of_gate ?_; repeat' ((first | (with_reducible refine gate_in ?_) | (with_reducible refine spK_intro ?_ ?_ <;> intro hp) | (with_reducible refine brK_intro ?_ ?_ <;> intro hb <;> try rw [hb]) | (with_reducible refine draw_in (by unfold DrawOk; decide +kernel) ?_) | (with_reducible refine And.intro (by first | omega | (simp only [List.length_map, List.length_take]; omega)) ?_) | fail) <;> try simp only [go_sem, simprocAttr]))
    refine c101 hf hl hC hrl hk hx ?_
    cases hT : thirdFrom l C r i x k 0 with
    | true => (refine of_gate ?_; repeat' ((first | (with_reducible refine gate_in ?_) | (with_reducible refine spK_intro ?_ ?_ <;> intro hp) | (with_reducible refine brK_intro ?_ ?_ <;> intro hb <;> try rw [hb]) | (with_reducible refine draw_in (by unfold DrawOk; decide +kernel) ?_) | (with_reducible refine And.intro (by first | omega | (simp only [List.length_map, List.length_take]; omega)) ?_) | fail) <;> try simp only [go_sem, simprocAttr])); rfl
    | false =>
      simp only [Bool.false_or]
      (refine of_gate ?_; repeat' ((first | (with_reducible refine gate_in ?_) | (with_reducible refine spK_intro ?_ ?_ <;> intro hp) | (with_reducible refine brK_intro ?_ ?_ <;> intro hb <;> try rw [hb]) | (with_reducible refine draw_in (by unfold DrawOk; decide +kernel) ?_) | (with_reducible refine And.intro (by first | omega | (simp only [List.length_map, List.length_take]; omega)) ?_) | fail) <;> try simp only [go_sem, simprocAttr, hy, Txn.enc_eq, List.length_map]))
      refine awp_loopA (fun n : Nat => [(0, .a (txnsA l)), (1, .a (U C)), (2, .a (intsA r)), (3, .a (I i)), (4, .a (I k)), (30, .a (opsA' y.ops)), (31, .a (I y.ops.length)), (32, .a (I n))]) (fun _ => []) (fun n => n ≤ y.ops.length ∧ secFrom l i k y 0 = secFrom l i k y n) (y.ops.length - ·) 0 ?_ ?_ ⟨Nat.zero_le _, rfl⟩ ?_
      · simp only [go_sem, simprocAttr, List.length_map]
      · simp only [go_sem, simprocAttr]
      intro n j ⟨hn, hq⟩
      (refine of_gate ?_; repeat' ((first | (with_reducible refine gate_in ?_) | (with_reducible refine spK_intro ?_ ?_ <;> intro hp) | (with_reducible refine brK_intro ?_ ?_ <;> intro hb <;> try rw [hb]) | (with_reducible refine draw_in (by unfold DrawOk; decide +kernel) ?_) | (with_reducible refine And.intro (by first | omega | (simp only [List.length_map, List.length_take]; omega)) ?_) | fail) <;> try simp only [go_sem, simprocAttr]))
      · have hnl : n < y.ops.length := by omega
        have hw := wrap_succ (n := y.ops.length) hnl (by simp only [maxLen]; omega)
        have ho : y.ops[n]? = some y.ops[n] := List.getElem?_eq_getElem hnl
        rw [secFrom, secFrom, range_drop hnl, List.any_cons] at hq
        generalize y.ops[n] = o at ho
        have e0 : secC l i k y n = (!o.w && (decide (¬ (i : Int) = k) && decide (sourceR l k n y o = i))) := by simp only [secC, ho]
        rw [e0] at hq
        (refine of_gate ?_; repeat' ((first | (with_reducible refine gate_in ?_) | (with_reducible refine spK_intro ?_ ?_ <;> intro hp) | (with_reducible refine brK_intro ?_ ?_ <;> intro hb <;> try rw [hb]) | (with_reducible refine draw_in (by unfold DrawOk; decide +kernel) ?_) | (with_reducible refine c68 hf hy ho ?_) | (with_reducible refine And.intro (by first | omega | (simp only [List.length_map, List.length_take]; omega)) ?_) | fail) <;> try simp only [go_sem, simprocAttr, ho, Op.enc_eq, hw]))
        all_goals first
          | (simp only [*, decide_true, decide_false, Bool.not_true, Bool.not_false, Bool.true_and, Bool.false_and, Bool.and_false, Bool.false_or, Bool.or_false, Bool.true_or, not_true_eq_false, not_false_eq_true] at hq; (refine ⟨n + 1, ?_, ?_, ⟨hnl, hq⟩, by dsimp only; omega⟩ <;> simp only [go_sem, simprocAttr, hw]); done)
          | (rw [secFrom, hq]; simp [*]; done)
      · rw [hq, secFrom, List.drop_eq_nil_of_le (by simp; omega), List.any_nil, Bool.false_or]
        (refine of_gate ?_; repeat' ((first | (with_reducible refine gate_in ?_) | (with_reducible refine spK_intro ?_ ?_ <;> intro hp) | (with_reducible refine brK_intro ?_ ?_ <;> intro hb <;> try rw [hb]) | (with_reducible refine draw_in (by unfold DrawOk; decide +kernel) ?_) | (with_reducible refine And.intro (by first | omega | (simp only [List.length_map, List.length_take]; omega)) ?_) | fail) <;> try simp only [go_sem, simprocAttr, List.length_map]))
        refine awp_loopA (fun t : Nat => [(0, .a (txnsA l)), (1, .a (U C)), (2, .a (intsA r)), (3, .a (I i)), (4, .a (I k)), (55, .a (I l.length)), (56, .a (I t))]) (fun _ => []) (fun t => t ≤ l.length ∧ frFrom l C r i k 0 = frFrom l C r i k t) (l.length - ·) 0 ?_ ?_ ⟨Nat.zero_le _, rfl⟩ ?_
        · simp only [go_sem, simprocAttr, List.length_map]
        · simp only [go_sem, simprocAttr]
        intro t j2 ⟨ht, hv⟩
        (refine of_gate ?_; repeat' ((first | (with_reducible refine gate_in ?_) | (with_reducible refine spK_intro ?_ ?_ <;> intro hp) | (with_reducible refine brK_intro ?_ ?_ <;> intro hb <;> try rw [hb]) | (with_reducible refine draw_in (by unfold DrawOk; decide +kernel) ?_) | (with_reducible refine And.intro (by first | omega | (simp only [List.length_map, List.length_take]; omega)) ?_) | fail) <;> try simp only [go_sem, simprocAttr]))
        · have htl : t < l.length := by omega
          have hwt := wrap_succ (n := l.length) htl (by simp only [maxLen]; omega)
          have hz : l[t]? = some l[t] := List.getElem?_eq_getElem htl
          have hsv : frFrom l C r i k t = (fourthFrom l C r t l[t] i k 0 || frFrom l C r i k (t + 1)) := by simp only [frFrom, range_drop htl, List.any_cons, hz]
          rw [hsv] at hv
          generalize l[t] = z at hz hv
          refine c102 hf hl hC hrl hi hz ?_
          cases hF : fourthFrom l C r t z i k 0 with
          | true =>
            rw [hF, Bool.true_or] at hv
            (refine of_gate ?_; repeat' ((first | (with_reducible refine gate_in ?_) | (with_reducible refine spK_intro ?_ ?_ <;> intro hp) | (with_reducible refine brK_intro ?_ ?_ <;> intro hb <;> try rw [hb]) | (with_reducible refine draw_in (by unfold DrawOk; decide +kernel) ?_) | (with_reducible refine And.intro (by first | omega | (simp only [List.length_map, List.length_take]; omega)) ?_) | fail) <;> try simp only [go_sem, simprocAttr, hv]))
          | false =>
            rw [hF, Bool.false_or] at hv
            (refine of_gate ?_; repeat' ((first | (with_reducible refine gate_in ?_) | (with_reducible refine spK_intro ?_ ?_ <;> intro hp) | (with_reducible refine brK_intro ?_ ?_ <;> intro hb <;> try rw [hb]) | (with_reducible refine draw_in (by unfold DrawOk; decide +kernel) ?_) | (with_reducible refine And.intro (by first | omega | (simp only [List.length_map, List.length_take]; omega)) ?_) | fail) <;> try simp only [go_sem, simprocAttr, hwt]))
            (refine ⟨t + 1, ?_, ?_, ⟨htl, hv⟩, by dsimp only; omega⟩ <;> simp only [go_sem, simprocAttr, hwt])
        · rw [hv, frFrom, List.drop_eq_nil_of_le (by simp; omega)]; rfl
theorem c76 {l : List Txn} (hf : FitT l) (hs : StT l) (hl : l.length ≤ 30) {C : Nat} (hC : C < 2 ^ 32) {r : List Int} (hrl : r.length ≤ 1000000) {i k : Nat} (hi : i < l.length) (hk : k < l.length) {dst : Option Tmp} {σ : S} {K : S → Prop} (hK : σ.ret dst [.a (B (behindR l C r i k))] K) : callV Tryd.prog GL 76 [.a (txnsA l), .a (U C), .a (intsA r), .a (I i), .a (I k)] dst σ K := call_dat (t76 l hf hs hl C hC r hrl i k hi hk) hK
def graphR (l : List Txn) (C : Nat) (r : List Int) : List Nat := (List.range l.length).map fun i => bitsN (behindR l C r i) l.length
theorem t41 (l : List Txn) (hf : FitT l) (hs : StT l) (hl : l.length ≤ 30) (C : Nat) (hC : C < 2 ^ 32) (r : List Int) (hrl : r.length ≤ 1000000) : Holds Tryd.prog GL 41 [txnsA l, U C, intsA r] [.a (unsA (graphR l C r))] := by
  refine fn_holds (vs := [.tmp 6]) (by kernel_rfl) Tryd.func41 rfl rfl (by kernel_rfl) (by kernel_rfl) rfl ?_
  (refine of_gate ?_; repeat' ((first | (with_reducible refine gate_in ?_) | (with_reducible refine spK_intro ?_ ?_ <;> intro hp) | (with_reducible refine brK_intro ?_ ?_ <;> intro hb <;> try rw [hb]) | (with_reducible refine draw_in (by unfold DrawOk; decide +kernel) ?_) | (with_reducible refine And.intro (by first | omega | (simp only [List.length_map, List.length_take]; omega)) ?_) | fail) <;> try simp only [go_sem, simprocAttr, List.length_map]))
  refine awp_loopA (fun i : Nat => [(0, .a (txnsA l)), (1, .a (U C)), (2, .a (intsA r)), (7, .own 11), (13, .a (I l.length)), (14, .a (I i))]) (fun i => [(11, .log 28 1 ((((List.range i).map fun q => bitsN (behindR l C r q) l.length)).map uenc))]) (fun i => i ≤ l.length) (l.length - ·) 0 ?_ ?_ (Nat.zero_le _) ?_
  · simp only [go_sem, simprocAttr, List.length_map]
  · simp only [go_sem, simprocAttr]; try rfl
  intro i j hi
  (refine of_gate ?_; repeat' ((first | (with_reducible refine gate_in ?_) | (with_reducible refine spK_intro ?_ ?_ <;> intro hp) | (with_reducible refine brK_intro ?_ ?_ <;> intro hb <;> try rw [hb]) | (with_reducible refine draw_in (by unfold DrawOk; decide +kernel) ?_) | (with_reducible refine And.intro (by first | omega | (simp only [List.length_map, List.length_take]; omega)) ?_) | fail) <;> try simp only [go_sem, simprocAttr]))
  · have hil : i < l.length := by omega
    have hw := wrap_succ (n := l.length) hil (by simp only [maxLen]; omega)
    (refine of_gate ?_; repeat' ((first | (with_reducible refine gate_in ?_) | (with_reducible refine spK_intro ?_ ?_ <;> intro hp) | (with_reducible refine brK_intro ?_ ?_ <;> intro hb <;> try rw [hb]) | (with_reducible refine draw_in (by unfold DrawOk; decide +kernel) ?_) | (with_reducible refine And.intro (by first | omega | (simp only [List.length_map, List.length_take]; omega)) ?_) | fail) <;> try simp only [go_sem, simprocAttr, List.length_map]))
    refine awp_loopA (fun k : Nat => [(0, .a (txnsA l)), (1, .a (U C)), (2, .a (intsA r)), (7, .own 11), (8, .a (I i)), (9, .a (U (bitsN (behindR l C r i) k))), (13, .a (I l.length)), (14, .a (I i)), (18, .a (I l.length)), (19, .a (I k))]) (fun _ => [(11, .log 28 1 ((((List.range i).map fun q => bitsN (behindR l C r q) l.length)).map uenc))]) (fun k => k ≤ l.length) (l.length - ·) 0 ?_ ?_ (Nat.zero_le _) ?_
    · simp only [go_sem, simprocAttr, List.length_map, bitsN]; try rfl
    · simp only [go_sem, simprocAttr]
    intro k j2 hk
    (refine of_gate ?_; repeat' ((first | (with_reducible refine gate_in ?_) | (with_reducible refine spK_intro ?_ ?_ <;> intro hp) | (with_reducible refine brK_intro ?_ ?_ <;> intro hb <;> try rw [hb]) | (with_reducible refine draw_in (by unfold DrawOk; decide +kernel) ?_) | (with_reducible refine And.intro (by first | omega | (simp only [List.length_map, List.length_take]; omega)) ?_) | fail) <;> try simp only [go_sem, simprocAttr]))
    · have hkl : k < l.length := by omega
      have hwk := wrap_succ (n := l.length) hkl (by simp only [maxLen]; omega)
      (refine of_gate ?_; repeat' ((first | (with_reducible refine gate_in ?_) | (with_reducible refine spK_intro ?_ ?_ <;> intro hp) | (with_reducible refine brK_intro ?_ ?_ <;> intro hb <;> try rw [hb]) | (with_reducible refine draw_in (by unfold DrawOk; decide +kernel) ?_) | (with_reducible refine And.intro (by first | omega | (simp only [List.length_map, List.length_take]; omega)) ?_) | fail) <;> try simp only [go_sem, simprocAttr, hwk]))
      refine c76 hf hs hl hC hrl hil hkl ?_
      have hs2 : bitsN (behindR l C r i) (k + 1) = bitsN (behindR l C r i) k + if behindR l C r i k then 2 ^ k else 0 := rfl
      cases hB : behindR l C r i k with
      | true =>
        have hlt := bits32 (behindR l C r i) (n := k + 1) (by omega)
        rw [hs2, hB, if_pos rfl] at hlt
        rw [hB, if_pos rfl] at hs2
        (refine of_gate ?_; repeat' ((first | (with_reducible refine gate_in ?_) | (with_reducible refine spK_intro ?_ ?_ <;> intro hp) | (with_reducible refine brK_intro ?_ ?_ <;> intro hb <;> try rw [hb]) | (with_reducible refine draw_in (by unfold DrawOk; decide +kernel) ?_) | (with_reducible refine And.intro (by first | omega | (simp only [List.length_map, List.length_take]; omega)) ?_) | fail) <;> try simp only [go_sem, simprocAttr, hwk]))
        refine c60 (by omega) ?_
        (refine of_gate ?_; repeat' ((first | (with_reducible refine gate_in ?_) | (with_reducible refine spK_intro ?_ ?_ <;> intro hp) | (with_reducible refine brK_intro ?_ ?_ <;> intro hb <;> try rw [hb]) | (with_reducible refine draw_in (by unfold DrawOk; decide +kernel) ?_) | (with_reducible refine And.intro (by first | omega | (simp only [List.length_map, List.length_take]; omega)) ?_) | fail) <;> try simp only [go_sem, simprocAttr, hwk, u32_add hlt, List.length_map]))
        (refine ⟨k + 1, ?_, ?_, hkl, by dsimp only; omega⟩ <;> simp only [go_sem, simprocAttr, hwk, hs2, u32_add hlt])
      | false =>
        rw [hB] at hs2
        simp only [Bool.false_eq_true, if_false, Nat.add_zero] at hs2
        (refine of_gate ?_; repeat' ((first | (with_reducible refine gate_in ?_) | (with_reducible refine spK_intro ?_ ?_ <;> intro hp) | (with_reducible refine brK_intro ?_ ?_ <;> intro hb <;> try rw [hb]) | (with_reducible refine draw_in (by unfold DrawOk; decide +kernel) ?_) | (with_reducible refine And.intro (by first | omega | (simp only [List.length_map, List.length_take]; omega)) ?_) | fail) <;> try simp only [go_sem, simprocAttr, hwk]))
        (refine ⟨k + 1, ?_, ?_, hkl, by dsimp only; omega⟩ <;> simp only [go_sem, simprocAttr, hwk, hs2])
    · rw [show k = l.length by omega]
      have hs3 : (List.range (i + 1)).map (fun q => bitsN (behindR l C r q) l.length) = (List.range i).map (fun q => bitsN (behindR l C r q) l.length) ++ [bitsN (behindR l C r i) l.length] := by
        rw [List.range_succ, List.map_append]; rfl
      have hll : ((List.range i).map (fun q => bitsN (behindR l C r q) l.length)).length = i := by simp
      (refine of_gate ?_; repeat' ((first | (with_reducible refine gate_in ?_) | (with_reducible refine spK_intro ?_ ?_ <;> intro hp) | (with_reducible refine brK_intro ?_ ?_ <;> intro hb <;> try rw [hb]) | (with_reducible refine draw_in (by unfold DrawOk; decide +kernel) ?_) | (with_reducible refine And.intro (by first | omega | (simp only [List.length_map, List.length_take]; omega)) ?_) | fail) <;> try simp only [go_sem, simprocAttr, hw, List.length_map, hll]))
      (refine ⟨i + 1, ?_, ?_, hil, by dsimp only; omega⟩ <;> simp only [go_sem, simprocAttr, hw, hs3, List.map_append, uenc_eq])
  · rw [show i = l.length by omega]; rfl
end Go.VC
end
section
set_option maxRecDepth 100000
set_option linter.unusedSimpArgs false
set_option linter.unusedVariables false
namespace Go.VC
open Go.RowKit Go.Proofs Go.IntWalk
theorem t30 (h : List Ev) : Holds Tryd.prog GL 30 [evsA h] [.a (I (sourcesE h))] := by
  refine fn_holds (vs := [.tmp 2]) (by kernel_rfl) Tryd.func30 rfl rfl (by kernel_rfl) (by kernel_rfl) rfl ?_
  (refine of_gate ?_; repeat' ((first | (with_reducible refine gate_in ?_) | (with_reducible refine spK_intro ?_ ?_ <;> intro hp) | (with_reducible refine brK_intro ?_ ?_ <;> intro hb <;> try rw [hb]) | (with_reducible refine draw_in (by unfold DrawOk; decide +kernel) ?_) | (with_reducible refine And.intro (by first | omega | (simp only [List.length_map, List.length_take]; omega)) ?_) | fail) <;> try simp only [go_sem, simprocAttr]))
  refine call_inl (look_inl (n := 800000) rfl (fun σ2 kv h0 hw hm hL => ?_) (fun σ2 e he hL => ?_))
  · (refine of_gate ?_; repeat' ((first | (with_reducible refine gate_in ?_) | (with_reducible refine spK_intro ?_ ?_ <;> intro hp) | (with_reducible refine brK_intro ?_ ?_ <;> intro hb <;> try rw [hb]) | (with_reducible refine draw_in (by unfold DrawOk; decide +kernel) ?_) | (with_reducible refine And.intro (by first | omega | (simp only [List.length_map, List.length_take]; omega)) ?_) | fail) <;> try simp only [go_sem, simprocAttr, one]))
    simp [sourcesE, h0, hw]
  · (refine of_gate ?_; repeat' ((first | (with_reducible refine gate_in ?_) | (with_reducible refine spK_intro ?_ ?_ <;> intro hp) | (with_reducible refine brK_intro ?_ ?_ <;> intro hb <;> try rw [hb]) | (with_reducible refine draw_in (by unfold DrawOk; decide +kernel) ?_) | (with_reducible refine And.intro (by first | omega | (simp only [List.length_map, List.length_take]; omega)) ?_) | fail) <;> try simp only [go_sem, simprocAttr, one]))
    rcases he with ⟨h0, rfl⟩ | ⟨h0, hw, rfl⟩
    · simp [sourcesE, h0]
    · simp [sourcesE, h0, hw]
theorem q30 {h : List Ev} {σ : S} {KR : R → Prop} (hK : KR (retR [(I (sourcesE h))])) : callVQ Tryd.prog GL 30 [.a (evsA h)] σ KR :=
  callQ_dat (res := [(I (sourcesE h))]) (t30 h) hK
theorem writes_iff {ops : List Op} {v n : Int} : writesR ops v n = true ↔ ∃ o ∈ ops, o.w = true ∧ (o.var, o.val) = (v, n) := by
  simp only [writesR, List.any_eq_true, Bool.and_eq_true, beq_iff_eq, Prod.mk.injEq, and_assoc]
theorem wr_writes {ks : List Kp} {i : Nat} {p : Int × Int} : Wr ks i p ↔ ∃ x, (ks.map Kp.txn)[i]? = some x ∧ writesR x.ops p.1 p.2 = true := by
  constructor
  · rintro ⟨r, o, h1, h2, h3, rfl⟩
    exact ⟨r.txn, by rw [List.getElem?_map, h1]; rfl, writes_iff.2 ⟨o, h2, h3, rfl⟩⟩
  · rintro ⟨x, hx, hw⟩
    rw [List.getElem?_map] at hx
    obtain ⟨r, hr, rfl⟩ := Option.map_eq_some_iff.1 hx
    obtain ⟨o, h1, h2, h3⟩ := writes_iff.1 hw
    exact ⟨r, o, hr, h1, h2, h3⟩
theorem uniq_iff (ks : List Kp) : uniqTo (ks.map Kp.txn) 0 = true ↔ UniqL ks := by
  simp only [uniqTo, List.drop_zero, List.all_eq_true, List.mem_range, List.length_map]
  constructor
  · intro h i p hp
    obtain ⟨r, o, h1, h2, h3, rfl⟩ := hp
    have hi := (List.getElem?_eq_some_iff.1 h1).1
    have := h i hi
    rw [List.getElem?_map, h1] at this
    simp only [Option.map_some, List.all_eq_true] at this
    have hok := this o h2
    simp only [okOp, h3, Bool.true_and, Bool.not_eq_true', Bool.or_eq_false_iff, beq_eq_false_iff_ne] at hok
    refine ⟨hok.1, fun j hj => Classical.byContradiction fun hne => ?_⟩
    obtain ⟨x, hx, hw⟩ := wr_writes.1 hj
    have hjl : j < ks.length := by have := (List.getElem?_eq_some_iff.1 hx).1; simpa using this
    have hc := hok.2
    simp only [clash, List.drop_zero, List.any_eq_false, List.mem_range, List.length_map] at hc
    have := hc j hjl
    rw [hx] at this
    simp only [Bool.and_eq_true, not_and, Bool.not_eq_true', decide_eq_false_iff_not] at this
    exact this (by omega) hw
  · intro h i hi
    rw [List.getElem?_map, List.getElem?_eq_getElem hi]
    simp only [Option.map_some, List.all_eq_true]
    intro o ho
    simp only [okOp, Bool.not_eq_true', Bool.and_eq_false_iff, Bool.or_eq_false_iff, beq_eq_false_iff_ne]
    by_cases hw : o.w = true
    · right
      obtain ⟨z, u⟩ := h i (o.var, o.val) ⟨ks[i], o, List.getElem?_eq_getElem hi, ho, hw, rfl⟩
      refine ⟨z, ?_⟩
      simp only [clash, List.drop_zero, List.any_eq_false, List.mem_range, List.length_map]
      intro j hj
      rw [List.getElem?_map, List.getElem?_eq_getElem hj]
      simp only [Option.map_some, Bool.and_eq_true, not_and, Bool.not_eq_true', decide_eq_false_iff_not]
      intro hne hw2
      have := u j (wr_writes.2 ⟨(ks[j]).txn, by rw [List.getElem?_map, List.getElem?_eq_getElem hj]; rfl, hw2⟩)
      exact hne (by omega)
    · left; simpa using hw
theorem source_eq {ks : List Kp} {kv : PKv} (hw : wrAll ks 0 [] = some kv) (t i : Nat) (r : Kp) (o : Op) (hr : ks[t]? = some r) (ho : r.ops[i]? = some o) :
    sourceR (ks.map Kp.txn) t i r.txn o = if ownsR (r.ops.take i) o.var || o.w then (t : Int) else srcOf kv t o := by
  obtain ⟨hu, hkv⟩ := wr_some hw
  unfold sourceR
  rw [Bool.or_comm]
  show (if (ownsR (r.ops.take i) o.var || o.w) = true then _ else _) = _
  split
  · rfl
  · unfold srcOf
    split
    · rfl
    · cases hf : othersR (ks.map Kp.txn) t o.var o.val 0 with
      | some v =>
        obtain ⟨j, hj, hjv⟩ := List.exists_of_findSome?_eq_some hf
        split at hjv
        · rename_i x hx
          split at hjv
          · rename_i hc
            cases hjv
            rw [(hkv (o.var, o.val) j).2 ⟨j, rfl, wr_writes.2 ⟨x, hx, hc.2⟩⟩]
            simp [hc.1]
          · cases hjv
        · cases hjv
      | none =>
        have hn := List.findSome?_eq_none_iff.1 hf
        cases hp : pGet kv (o.var, o.val) with
        | none => rfl
        | some v =>
          obtain ⟨j, rfl, hj⟩ := (hkv _ _).1 hp
          obtain ⟨x, hx, hxw⟩ := wr_writes.1 hj
          have hjl := (List.getElem?_eq_some_iff.1 hx).1
          have := hn j (by simpa using hjl)
          rw [hx] at this
          by_cases hjt : (j : Int) = t
          · simp [hjt]
          · exfalso
            dsimp only at this
            rw [if_pos ⟨hjt, hxw⟩] at this; cases this
theorem sourcesTo_eq {ks : List Kp} {kv : PKv} (hw : wrAll ks 0 [] = some kv) : sourcesTo (ks.map Kp.txn) (ks.map Kp.txn).length = srcRows kv ks 0 := by
  refine List.ext_getElem? fun t => ?_
  rw [show (srcRows kv ks 0)[t]? = _ from srcRows_get (kv := kv) ks 0 t]
  simp only [sourcesTo, List.getElem?_map, List.length_map, List.getElem?_range', List.getElem?_range, Nat.zero_add]
  by_cases ht : t < ks.length
  · rw [List.getElem?_eq_getElem (l := List.range ks.length) (by simpa using ht), List.getElem_range]
    simp only [List.getElem?_eq_getElem ht, Option.map_some]
    congr 1
    refine List.ext_getElem? fun i => ?_
    rw [srcRow_get]
    simp only [srcRowR, List.getElem?_map]
    by_cases hi : i < ks[t].ops.length
    · rw [List.getElem?_eq_getElem (l := List.range _) (by simpa [Kp.txn] using hi), List.getElem_range]
      simp only [Option.map_some, Kp.txn, List.getElem?_eq_getElem hi]
      congr 1
      exact source_eq hw t i ks[t] _ (List.getElem?_eq_getElem ht) (List.getElem?_eq_getElem hi)
    · rw [List.getElem?_eq_none (l := List.range _) (by simp [Kp.txn]; omega), List.getElem?_eq_none (l := ks[t].ops) (by omega)]; rfl
  · rw [List.getElem?_eq_none (l := List.range _) (by simp; omega), List.getElem?_eq_none (l := ks) (by omega)]; rfl
theorem why_check (h : List Ev) : whyI h = checkE h := (why_next h).symm
/-- What the program's Sources answers is as the references say. -/
theorem sources_law {h : List Ev} (h0 : checkE h = 0) : (uniqTo (txns h) 0 = false → sourcesE h = 9) ∧ (uniqTo (txns h) 0 = true → sourcesE h = 0 ∧ sourcesR h = sourcesTo (txns h) (txns h).length) := by
  have ht : txns h = (tabOf h).map Kp.txn := by unfold txns; rw [if_pos h0]
  rw [ht]
  have e1 : tabAt h h.length = tabOf h := rfl
  cases hw : wrAll (tabOf h) 0 [] with
  | none =>
    refine ⟨fun _ => by simp [sourcesE, h0, e1, hw], fun hu => absurd ((uniq_iff _).1 hu) (wr_none hw)⟩
  | some kv =>
    refine ⟨fun hu => ?_, fun _ => ⟨by simp [sourcesE, h0, e1, hw], ?_⟩⟩
    · rw [(uniq_iff _).2 (wr_some hw).1] at hu; cases hu
    · rw [sourcesTo_eq hw]; simp [sourcesR, h0, e1, hw]
theorem txns_tab {h : List Ev} (h0 : checkE h = 0) : refTab h = txns h := table_eq h0
end Go.VC
end
section
set_option maxRecDepth 100000
set_option linter.unusedSimpArgs false
set_option linter.unusedVariables false
namespace Go.VC
open Go.RowKit Go.Proofs Go.IntWalk
theorem cutI (N : Nat) (r : List Int) : List.take (min (r.length : Int) N).toNat (r.map ienc) = (r.take N).map ienc := by
  have : (min (r.length : Int) N).toNat = min r.length N := by omega
  rw [this, ← List.map_take]
  congr 1
  rcases Nat.le_total r.length N with hl | hl
  · rw [Nat.min_eq_left hl, List.take_of_length_le (Nat.le_refl _), List.take_of_length_le hl]
  · rw [Nat.min_eq_right hl]
theorem stT (h : List Ev) : StT (txns h) := fun t ht => by
  unfold txns at ht
  split at ht
  · rename_i h0
    obtain ⟨kp, hk, rfl⟩ := List.mem_map.1 ht
    have := ((tabT (check_wfl h0) h.length (Nat.le_refl _)).told kp hk).st
    show kp.st ≤ 3
    rw [this]
    unfold stateOf
    (repeat' split) <;> decide
  · cases ht
theorem t4 (h0 : List Ev) (i k : Int) (r0 : List Int) : Holds Tryd.prog GL 4 [evsA h0, I i, I k, intsA r0] [.a (B true)] := by
  refine fn_holds (vs := [.tmp 8]) (by kernel_rfl) Tryd.func4 rfl rfl (by kernel_rfl) (by kernel_rfl) rfl ?_
  have m0 : (0 : Int) ≤ min (h0.length : Int) 65 := by omega
  have m1 : min (h0.length : Int) 65 ≤ (h0.length : Int) := by omega
  have n0 : (0 : Int) ≤ min (r0.length : Int) 12 := by omega
  have n1 : min (r0.length : Int) 12 ≤ (r0.length : Int) := by omega
  have hc : List.take (min (h0.length : Int) 65).toNat (h0.map Ev.enc) = (h0.take 65).map Ev.enc := cutN 65 h0
  have hd : List.take (min (r0.length : Int) 12).toNat (r0.map ienc) = (r0.take 12).map ienc := cutI 12 r0
  have hl65 : (h0.take 65).length ≤ 65 := by simp; omega
  have hr12 : (r0.take 12).length ≤ 12 := by simp; omega
  generalize h0.take 65 = h at hc hl65
  generalize r0.take 12 = r at hd hr12
  by_cases hE : checkE h = 0
  · have h60 := check60 hE
    have hwhy : whyI h = 0 := by rw [why_check, hE]
    have hS := stT h
    have hV : aftersV h = afterR (txns h) := by simp [aftersV, hE]
    have hl6 := txns_len6 h
    have e1 : befE h i k = if inT (txns h).length i && inT (txns h).length k then 0 else 7 := by simp [befE, hE]
    have e2 : befV h i k = (inT (txns h).length i && inT (txns h).length k && beforeB (txns h) i.toNat k.toNat) := by simp [befV, hE]
    have e3 : kepE h r = if r.all (inT (txns h).length) then 0 else 7 := by simp [kepE, hE]
    have e4 : kepV h r = (r.all (inT (txns h).length) && keepsFrom (txns h) r 0) := by simp [kepV, hE]
    have ht := txns_tab hE
    have hal : (afterR (txns h)).length ≤ 1000000 := by rw [afterR_len]; omega
    generalize txns h = l at *
    have hth : ∀ x y : Int, ([x, y].all (inT l.length)) = (inT l.length x && inT l.length y) := fun x y => by simp
    (refine of_gate ?_; repeat' ((first | (with_reducible refine gate_in ?_) | (with_reducible refine spK_intro ?_ ?_ <;> intro hp) | (with_reducible refine brK_intro ?_ ?_ <;> intro hb <;> try rw [hb]) | (with_reducible refine draw_in (by unfold DrawOk; decide +kernel) ?_) | (with_reducible apply c15) | (with_reducible apply c16) | (with_reducible apply c17) | (with_reducible apply c18) | (with_reducible apply c19) | (with_reducible refine And.intro (by first | omega | (simp only [List.length_map, List.length_take]; omega)) ?_) | fail) <;> try simp only [go_sem, simprocAttr, List.length_map, m0, m1, n0, n1, hc, hd, hwhy, hE, hV, Int.toNat_zero, bne_self_eq_false]))
    refine call_dat (t20 h h60) ?_
    rw [ht]
    (refine of_gate ?_; repeat' ((first | (with_reducible refine gate_in ?_) | (with_reducible refine spK_intro ?_ ?_ <;> intro hp) | (with_reducible refine brK_intro ?_ ?_ <;> intro hb <;> try rw [hb]) | (with_reducible refine draw_in (by unfold DrawOk; decide +kernel) ?_) | (with_reducible apply c16) | (with_reducible refine And.intro (by first | omega | (simp only [List.length_map, List.length_take]; omega)) ?_) | fail) <;> try simp only [go_sem, simprocAttr, bne_self_eq_false]))
    refine call_dat (t22 l hS (by omega)) ?_
    (refine of_gate ?_; repeat' ((first | (with_reducible refine gate_in ?_) | (with_reducible refine spK_intro ?_ ?_ <;> intro hp) | (with_reducible refine brK_intro ?_ ?_ <;> intro hb <;> try rw [hb]) | (with_reducible refine draw_in (by unfold DrawOk; decide +kernel) ?_) | (with_reducible apply c16) | (with_reducible refine And.intro (by first | omega | (simp only [List.length_map, List.length_take]; omega)) ?_) | fail) <;> try simp only [go_sem, simprocAttr, bne_self_eq_false]))
    refine call_dat (t21 _ _ hal) ?_
    (refine of_gate ?_; repeat' ((first | (with_reducible refine gate_in ?_) | (with_reducible refine spK_intro ?_ ?_ <;> intro hp) | (with_reducible refine brK_intro ?_ ?_ <;> intro hb <;> try rw [hb]) | (with_reducible refine draw_in (by unfold DrawOk; decide +kernel) ?_) | (with_reducible apply c16) | (with_reducible refine And.intro (by first | omega | (simp only [List.length_map, List.length_take]; omega)) ?_) | fail) <;> try simp only [go_sem, simprocAttr, beq_self_eq_true]))
    refine call_own _ (t23 l [i, k] (by simp)) (by simp only [go_sem, simprocAttr, argsA, argA, ienc_eq] <;> rfl) rfl ?_
    rw [hth]
    by_cases hin : (inT l.length i && inT l.length k) = true
    · rw [hin] at e1 e2
      obtain ⟨hi, hk⟩ := Bool.and_eq_true_iff.1 hin
      obtain ⟨i, rfl, hi2⟩ := inT_iff.1 hi
      obtain ⟨k, rfl, hk2⟩ := inT_iff.1 hk
      simp only [Bool.true_and, if_true, Int.toNat_natCast] at e1 e2
      (refine of_gate ?_; repeat' ((first | (with_reducible refine gate_in ?_) | (with_reducible refine spK_intro ?_ ?_ <;> intro hp) | (with_reducible refine brK_intro ?_ ?_ <;> intro hb <;> try rw [hb]) | (with_reducible refine draw_in (by unfold DrawOk; decide +kernel) ?_) | (with_reducible apply c16) | (with_reducible refine And.intro (by first | omega | (simp only [List.length_map, List.length_take]; omega)) ?_) | fail) <;> try simp only [go_sem, simprocAttr, hin, e1, e2, bne_self_eq_false]))
      refine call_own _ (t23 l [(i : Int), (k : Int)] (by simp)) (by simp only [go_sem, simprocAttr, argsA, argA, ienc_eq] <;> rfl) rfl ?_
      rw [hth]
      (refine of_gate ?_; repeat' ((first | (with_reducible refine gate_in ?_) | (with_reducible refine spK_intro ?_ ?_ <;> intro hp) | (with_reducible refine brK_intro ?_ ?_ <;> intro hb <;> try rw [hb]) | (with_reducible refine draw_in (by unfold DrawOk; decide +kernel) ?_) | (with_reducible apply c16) | (with_reducible refine And.intro (by first | omega | (simp only [List.length_map, List.length_take]; omega)) ?_) | fail) <;> try simp only [go_sem, simprocAttr, hin, e1, e2, bne_self_eq_false]))
      refine c24 hS hi2 hk2 ?_
      (refine of_gate ?_; repeat' ((first | (with_reducible refine gate_in ?_) | (with_reducible refine spK_intro ?_ ?_ <;> intro hp) | (with_reducible refine brK_intro ?_ ?_ <;> intro hb <;> try rw [hb]) | (with_reducible refine draw_in (by unfold DrawOk; decide +kernel) ?_) | (with_reducible apply c16) | (with_reducible refine And.intro (by first | omega | (simp only [List.length_map, List.length_take]; omega)) ?_) | fail) <;> try simp only [go_sem, simprocAttr, hin, e1, e2, bne_self_eq_false]))
      refine call_dat (t23 l r (by omega)) ?_
      cases hr : r.all (inT l.length) with
      | true =>
        rw [hr] at e3 e4
        simp only [Bool.true_and, if_true] at e3 e4
        (refine of_gate ?_; repeat' ((first | (with_reducible refine gate_in ?_) | (with_reducible refine spK_intro ?_ ?_ <;> intro hp) | (with_reducible refine brK_intro ?_ ?_ <;> intro hb <;> try rw [hb]) | (with_reducible refine draw_in (by unfold DrawOk; decide +kernel) ?_) | (with_reducible refine And.intro (by first | omega | (simp only [List.length_map, List.length_take]; omega)) ?_) | fail) <;> try simp only [go_sem, simprocAttr, e3, e4, bne_self_eq_false, beq_self_eq_true]))
        refine call_dat (t25 l hS r (by omega) hr) ?_
        (refine of_gate ?_; repeat' ((first | (with_reducible refine gate_in ?_) | (with_reducible refine spK_intro ?_ ?_ <;> intro hp) | (with_reducible refine brK_intro ?_ ?_ <;> intro hb <;> try rw [hb]) | (with_reducible refine draw_in (by unfold DrawOk; decide +kernel) ?_) | (with_reducible refine And.intro (by first | omega | (simp only [List.length_map, List.length_take]; omega)) ?_) | fail) <;> try simp only [go_sem, simprocAttr, e3, e4, bne_self_eq_false, beq_self_eq_true]))
      | false =>
        rw [hr] at e3 e4
        simp only [Bool.false_and, Bool.false_eq_true, if_false] at e3 e4
        (refine of_gate ?_; repeat' ((first | (with_reducible refine gate_in ?_) | (with_reducible refine spK_intro ?_ ?_ <;> intro hp) | (with_reducible refine brK_intro ?_ ?_ <;> intro hb <;> try rw [hb]) | (with_reducible refine draw_in (by unfold DrawOk; decide +kernel) ?_) | (with_reducible refine And.intro (by first | omega | (simp only [List.length_map, List.length_take]; omega)) ?_) | fail) <;> try simp only [go_sem, simprocAttr, e3, e4, bne_self_eq_false, beq_self_eq_true]))
    · have hin : (inT l.length i && inT l.length k) = false := by simpa using hin
      rw [hin] at e1 e2
      simp only [Bool.false_and, Bool.false_eq_true, if_false] at e1 e2
      (refine of_gate ?_; repeat' ((first | (with_reducible refine gate_in ?_) | (with_reducible refine spK_intro ?_ ?_ <;> intro hp) | (with_reducible refine brK_intro ?_ ?_ <;> intro hb <;> try rw [hb]) | (with_reducible refine draw_in (by unfold DrawOk; decide +kernel) ?_) | (with_reducible apply c16) | (with_reducible refine And.intro (by first | omega | (simp only [List.length_map, List.length_take]; omega)) ?_) | fail) <;> try simp only [go_sem, simprocAttr, hin, e1, e2, bne_self_eq_false]))
      refine call_own _ (t23 l [i, k] (by simp)) (by simp only [go_sem, simprocAttr, argsA, argA, ienc_eq] <;> rfl) rfl ?_
      rw [hth]
      (refine of_gate ?_; repeat' ((first | (with_reducible refine gate_in ?_) | (with_reducible refine spK_intro ?_ ?_ <;> intro hp) | (with_reducible refine brK_intro ?_ ?_ <;> intro hb <;> try rw [hb]) | (with_reducible refine draw_in (by unfold DrawOk; decide +kernel) ?_) | (with_reducible apply c16) | (with_reducible refine And.intro (by first | omega | (simp only [List.length_map, List.length_take]; omega)) ?_) | fail) <;> try simp only [go_sem, simprocAttr, hin, e1, e2, bne_self_eq_false]))
      refine call_dat (t23 l r (by omega)) ?_
      cases hr : r.all (inT l.length) with
      | true =>
        rw [hr] at e3 e4
        simp only [Bool.true_and, if_true] at e3 e4
        (refine of_gate ?_; repeat' ((first | (with_reducible refine gate_in ?_) | (with_reducible refine spK_intro ?_ ?_ <;> intro hp) | (with_reducible refine brK_intro ?_ ?_ <;> intro hb <;> try rw [hb]) | (with_reducible refine draw_in (by unfold DrawOk; decide +kernel) ?_) | (with_reducible refine And.intro (by first | omega | (simp only [List.length_map, List.length_take]; omega)) ?_) | fail) <;> try simp only [go_sem, simprocAttr, e3, e4, bne_self_eq_false, beq_self_eq_true]))
        refine call_dat (t25 l hS r (by omega) hr) ?_
        (refine of_gate ?_; repeat' ((first | (with_reducible refine gate_in ?_) | (with_reducible refine spK_intro ?_ ?_ <;> intro hp) | (with_reducible refine brK_intro ?_ ?_ <;> intro hb <;> try rw [hb]) | (with_reducible refine draw_in (by unfold DrawOk; decide +kernel) ?_) | (with_reducible refine And.intro (by first | omega | (simp only [List.length_map, List.length_take]; omega)) ?_) | fail) <;> try simp only [go_sem, simprocAttr, e3, e4, bne_self_eq_false, beq_self_eq_true]))
      | false =>
        rw [hr] at e3 e4
        simp only [Bool.false_and, Bool.false_eq_true, if_false] at e3 e4
        (refine of_gate ?_; repeat' ((first | (with_reducible refine gate_in ?_) | (with_reducible refine spK_intro ?_ ?_ <;> intro hp) | (with_reducible refine brK_intro ?_ ?_ <;> intro hb <;> try rw [hb]) | (with_reducible refine draw_in (by unfold DrawOk; decide +kernel) ?_) | (with_reducible refine And.intro (by first | omega | (simp only [List.length_map, List.length_take]; omega)) ?_) | fail) <;> try simp only [go_sem, simprocAttr, e3, e4, bne_self_eq_false, beq_self_eq_true]))
  · have hV : aftersV h = [] := by simp [aftersV, hE]
    have e1 : befE h i k = checkE h := by simp [befE, hE]
    have e2 : befV h i k = false := by simp [befV, hE]
    have e3 : kepE h r = checkE h := by simp [kepE, hE]
    have e4 : kepV h r = false := by simp [kepV, hE]
    have hwhy : whyI h = checkE h := why_check h
    generalize hcE : checkE h = c at *
    (refine of_gate ?_; repeat' ((first | (with_reducible refine gate_in ?_) | (with_reducible refine spK_intro ?_ ?_ <;> intro hp) | (with_reducible refine brK_intro ?_ ?_ <;> intro hb <;> try rw [hb]) | (with_reducible refine draw_in (by unfold DrawOk; decide +kernel) ?_) | (with_reducible apply c15) | (with_reducible apply c16) | (with_reducible apply c17) | (with_reducible apply c18) | (with_reducible apply c19) | (with_reducible refine And.intro (by first | omega | (simp only [List.length_map, List.length_take]; omega)) ?_) | fail) <;> try simp only [go_sem, simprocAttr, List.length_map, m0, m1, n0, n1, hc, hd, hwhy, hcE, hE, hV, e1, e2, e3, e4, Int.toNat_zero, bne_self_eq_false, beq_self_eq_true]))
end Go.VC
end
section
set_option maxRecDepth 100000
set_option linter.unusedSimpArgs false
set_option linter.unusedVariables false
set_option linter.unnecessarySimpa false
namespace Go.VC
open Go.RowKit Go.Proofs Go.IntWalk
theorem lastW_gen (v n : Int) : ∀ (ops : List Op) (r : Option Int) (b : Bool), b = (match r with | some m => m == n | none => false) →
    ops.foldl (fun r o => if o.w && o.var == v then o.val == n else r) b = (match ops.foldl (fun r o => if o.w && o.var == v then some o.val else r) r with | some m => m == n | none => false)
  | [], r, b, h => h
  | o :: ops, r, b, h => by
    rw [List.foldl_cons, List.foldl_cons]
    refine lastW_gen v n ops _ _ ?_
    split
    · rfl
    · exact h
theorem final_last (ops : List Op) (v n : Int) : finalR ops v n = (match lastW ops v with | some m => m == n | none => false) := lastW_gen v n ops none false rfl
theorem lastW_owns_gen (v : Int) : ∀ (ops : List Op) (r : Option Int), (ops.foldl (fun r o => if o.w && o.var == v then some o.val else r) r).isSome = (r.isSome || ownsR ops v)
  | [], r => by simp [ownsR]
  | o :: ops, r => by
    rw [List.foldl_cons, lastW_owns_gen v ops]
    simp only [ownsR, List.any_cons]
    split
    · rename_i h; rw [h]; simp
    · rename_i h; rw [Bool.not_eq_true] at h; rw [h]; simp
theorem last_owns (ops : List Op) (v : Int) : (lastW ops v).isSome = ownsR ops v := by rw [lastW, lastW_owns_gen]; rfl
theorem last_final {ops : List Op} {v n : Int} (h : ownsR ops v = true) : ((lastW ops v).getD 0 == n) = finalR ops v n := by
  rw [final_last]
  rw [← last_owns] at h
  cases hl : lastW ops v with
  | some m => rfl
  | none => rw [hl] at h; cases h
theorem writes_owns {ops : List Op} {v n : Int} (h : writesR ops v n = true) : ownsR ops v = true := by
  simp only [writesR, ownsR, List.any_eq_true, Bool.and_eq_true] at h ⊢
  obtain ⟨o, ho, h1⟩ := h
  exact ⟨o, ho, h1.1⟩
theorem source_other {l : List Txn} {t i : Nat} {x : Txn} {o : Op} {k : Nat} (ho : o.w = false) (hs : sourceR l t i x o = k) (hk : (k : Int) ≠ t) : ∃ y, l[k]? = some y ∧ writesR y.ops o.var o.val = true := by
  unfold sourceR at hs
  split at hs
  · exact absurd hs.symm hk
  · split at hs
    · omega
    · cases hf : othersR l t o.var o.val 0 with
      | none => rw [hf] at hs; simp at hs <;> omega
      | some v =>
        rw [hf] at hs
        simp only [Option.getD_some] at hs
        obtain ⟨j, hj, hjv⟩ := List.exists_of_findSome?_eq_some hf
        cases hy : l[j]? with
        | none => rw [hy] at hjv; cases hjv
        | some y =>
          rw [hy] at hjv
          dsimp only at hjv
          split at hjv
          · rename_i h
            cases hjv
            obtain rfl : j = k := by omega
            exact ⟨y, hy, h.2⟩
          · cases hjv
theorem source_own {l : List Txn} {t i : Nat} {x : Txn} {o : Op} (ho : o.w = false) (hs : sourceR l t i x o = t) : ownsR (x.ops.take i) o.var = true := by
  by_cases h : ownsR (x.ops.take i) o.var = true
  · exact h
  · unfold sourceR at hs
    rw [if_neg (by simp [ho, h])] at hs
    split at hs
    · omega
    · cases hf : othersR l t o.var o.val 0 with
      | none => rw [hf] at hs; simp at hs <;> omega
      | some v =>
        rw [hf] at hs
        simp only [Option.getD_some] at hs
        obtain ⟨j, hj, hjv⟩ := List.exists_of_findSome?_eq_some hf
        cases hy : l[j]? with
        | none => rw [hy] at hjv; cases hjv
        | some y =>
          rw [hy] at hjv
          dsimp only at hjv
          split at hjv
          · rename_i h
            cases hjv
            exact absurd hs h.1
          · cases hjv
theorem sourcesTo_at {l : List Txn} {t i : Nat} {x : Txn} {o : Op} (hx : l[t]? = some x) (ho : x.ops[i]? = some o) : (sourcesTo l l.length)[t]?.bind (·[i]?) = some (sourceR l t i x o) := by
  have ht := (List.getElem?_eq_some_iff.1 hx).1
  have hi := (List.getElem?_eq_some_iff.1 ho).1
  obtain ⟨_, rfl⟩ := List.getElem?_eq_some_iff.1 hx
  simp only [sourcesTo, List.getElem?_map, List.getElem?_range ht, Option.map_some, Option.bind_some, srcRowR, hx, List.getElem?_range hi, ho]
theorem rd_ex (l : List Txn) (C t i : Nat) : rdOk l (sourcesTo l l.length) C t i = exR l C t i := by
  unfold rdOk exR
  cases hx : l[t]? with
  | none => rfl
  | some x =>
    dsimp only
    cases ho : x.ops[i]? with
    | none => rfl
    | some o =>
      dsimp only
      rw [sourcesTo_at hx ho]
      dsimp only
      by_cases hw : o.w = true
      · simp [hw]
      · have hw : o.w = false := by simpa using hw
        rw [hw]
        simp only [Bool.false_or, Bool.false_eq_true, if_false]
        rcases source_cases l t i x o with h | h | h | ⟨k, h, hk⟩
        · rw [if_neg (by rw [h]; simp <;> omega), if_neg (by rw [h]; omega), if_pos h, if_pos h]
          exact last_final (source_own hw h)
        · rw [if_pos (by rw [h]; rfl), if_neg (by omega), if_pos (by omega), h]; rfl
        · rw [if_neg (by rw [h]; simp), if_pos h, if_neg (by omega), if_pos (by omega), h]; rfl
        · rw [if_neg (by rw [h]; simp <;> omega), if_neg (by rw [h]; omega)]
          by_cases hkt : (k : Int) = t
          · rw [if_pos (h.trans hkt), if_pos (h.trans hkt)]
            exact last_final (source_own hw (h.trans hkt))
          · rw [if_neg (by rw [h]; exact hkt), if_neg (by rw [h]; exact hkt), if_neg (by omega)]
            obtain ⟨y, hy, hwy⟩ := source_other hw h hkt
            rw [h, Int.toNat_natCast, hy]
            dsimp only
            rw [last_final (writes_owns hwy)]
theorem all_ex (l : List Txn) (C : Nat) : allRFrom l (sourcesTo l l.length) C 0 = exFrom l C 0 := by
  unfold allRFrom exFrom
  congr 1
  funext t
  cases hx : l[t]? with
  | none => rfl
  | some x =>
    dsimp only
    congr 1
    funext i
    exact rd_ex l C t i
def whyG (h : List Ev) (C : Nat) : Int := if checkE h = 0 then (if uniqTo (txns h) 0 = true then (if C / 2 ^ (txns h).length = 0 then 0 else 1) else 9) else checkE h
theorem look_why (h : List Ev) (C : Nat) : lookE h C = whyG h C := by
  unfold whyG lookE
  by_cases h0 : checkE h = 0
  · obtain ⟨k1, k2⟩ := sources_law h0
    rw [if_pos h0]
    by_cases hu : uniqTo (txns h) 0 = true
    · obtain ⟨e1, e2⟩ := k2 hu
      rw [if_pos hu, if_pos e1, e2]
      simp [sourcesTo]
    · have e := k1 (by simpa using hu)
      rw [if_neg hu, e]; rfl
  · have e : sourcesE h = checkE h := by rw [sourcesE, if_neg h0]
    rw [if_neg h0, e, if_neg h0]
theorem why_ok {h : List Ev} {C : Nat} (h0 : whyG h C = 0) : checkE h = 0 ∧ sourcesE h = 0 ∧ sourcesR h = sourcesTo (txns h) (txns h).length := by
  unfold whyG at h0
  split at h0
  · rename_i hc
    split at h0
    · rename_i hu
      obtain ⟨k1, k2⟩ := sources_law hc
      exact ⟨hc, k2 hu⟩
    · omega
  · rename_i hc; exact absurd h0 hc
theorem read_law {h : List Ev} {C : Nat} (h0 : whyG h C = 0) : readV h C = exFrom (txns h) C 0 := by
  rw [readV, look_why, h0, (why_ok h0).2.2, all_ex]; simp
theorem cnt_count (r : List Int) (i : Int) : cntR r i = r.countP (fun x => decide (x = i)) := by
  have g : ∀ (r : List Int) (n : Nat), r.foldl (fun n x => if x = i then n + 1 else n) n = n + r.countP (fun x => decide (x = i)) := by
    intro r
    induction r with
    | nil => intro n; rfl
    | cons x r ih =>
      intro n
      rw [List.foldl_cons, ih, List.countP_cons]
      by_cases h : x = i <;> simp [h]; omega
  rw [cntR, g, Nat.zero_add]
theorem sum_one (x : Int) : ∀ n : Nat, ((List.range n).map fun (i : Nat) => if x = (i : Int) then 1 else 0).sum ≤ if 0 ≤ x ∧ x < n then 1 else 0
  | 0 => by simp
  | n + 1 => by
    have ih := sum_one x n
    rw [List.range_succ, List.map_append, List.sum_append]
    simp only [List.map_cons, List.map_nil, List.sum_cons, List.sum_nil, Nat.add_zero]
    split at ih <;> split <;> split <;> omega
theorem sum_zero : ∀ L : List Nat, (L.map fun _ => 0).sum = 0
  | [] => rfl
  | _ :: L => by rw [List.map_cons, List.sum_cons, sum_zero L]
theorem sum_cnt (n : Nat) : ∀ r : List Int, ((List.range n).map fun (i : Nat) => r.countP (fun x => decide (x = (i : Int)))).sum ≤ r.length
  | [] => by simp [sum_zero]
  | x :: r => by
    have ih := sum_cnt n r
    have h1 := sum_one x n
    have h2 : ((List.range n).map fun (i : Nat) => (x :: r).countP (fun x => decide (x = (i : Int)))).sum = ((List.range n).map fun (i : Nat) => r.countP (fun x => decide (x = (i : Int)))).sum + ((List.range n).map fun (i : Nat) => if x = (i : Int) then 1 else 0).sum := by
      generalize List.range n = L
      induction L with
      | nil => rfl
      | cons a L ihL =>
        simp only [List.map_cons, List.sum_cons, List.countP_cons, decide_eq_true_eq] at ihL ⊢
        rw [ihL]; omega
    rw [h2, List.length_cons]
    split at h1 <;> omega
theorem sum_ones {f : Nat → Nat} : ∀ n : Nat, (∀ i, i < n → 1 ≤ f i) → n ≤ ((List.range n).map f).sum
  | 0, _ => by simp
  | n + 1, h => by
    have ih := sum_ones n fun i hi => h i (by omega)
    have h1 := h n (by omega)
    rw [List.range_succ, List.map_append, List.sum_append]
    simp only [List.map_cons, List.map_nil, List.sum_cons, List.sum_nil, Nat.add_zero]
    omega
theorem sum_each {f : Nat → Nat} : ∀ n : Nat, (∀ i, i < n → 1 ≤ f i) → ((List.range n).map f).sum ≤ n → ∀ i, i < n → f i = 1
  | 0, _, _, i, hi => absurd hi (by omega)
  | n + 1, h, hs, i, hi => by
    have g := sum_ones (f := f) n fun i hi => h i (by omega)
    have h1 := h n (by omega)
    rw [List.range_succ, List.map_append, List.sum_append] at hs
    simp only [List.map_cons, List.map_nil, List.sum_cons, List.sum_nil, Nat.add_zero] at hs
    by_cases hin : i = n
    · subst hin; omega
    · exact sum_each n (fun i hi => h i (by omega)) (by omega) i (by omega)
theorem in_cnt {r : List Int} {i : Int} : 0 ≤ idxOf (fun y => i == y) r ↔ 1 ≤ cntR r i := by
  have h := idx_ge (p := fun y => i == y) (l := r)
  rw [cnt_count]
  have h2 : (1 ≤ r.countP fun x => decide (x = i)) ↔ ∃ a ∈ r, a = i := by
    rw [Nat.one_le_iff_ne_zero, ← Nat.pos_iff_ne_zero, List.countP_pos_iff]; simp
  rw [h2]
  by_cases hi : 0 ≤ idxOf (fun y => i == y) r
  · rw [decide_eq_true hi] at h
    obtain ⟨a, ha, hb⟩ := List.any_eq_true.1 h.symm
    exact ⟨fun _ => ⟨a, ha, (by simpa using hb : i = a).symm⟩, fun _ => hi⟩
  · rw [decide_eq_false hi] at h
    refine ⟨fun k => absurd k hi, fun ⟨a, ha, hb⟩ => ?_⟩
    have := List.any_eq_false.1 h.symm a ha
    exact absurd (by simp [hb]) this
theorem whole_law (r : List Int) (n : Nat) : wholeB r n = (whFrom r n 0 && decide (r.length = n)) := by
  unfold wholeB wholeTo whFrom
  rw [List.drop_zero]
  by_cases hl : r.length = n
  · rw [decide_eq_true hl, Bool.true_and, Bool.and_true]
    rw [Bool.eq_iff_iff, List.all_eq_true, List.all_eq_true]
    simp only [List.mem_range, Bool.and_true, decide_eq_true_eq]
    constructor
    · intro h i hi
      have h1 : ∀ i : Nat, i < n → 1 ≤ cntR r (i : Int) := fun i hi => in_cnt.1 (h i hi)
      have hs := sum_cnt n r
      rw [hl] at hs
      refine sum_each (f := fun i : Nat => cntR r (i : Int)) n h1 ?_ i hi
      simpa only [cnt_count] using hs
    · intro h i hi
      exact in_cnt.2 (by rw [h i hi]; exact Nat.le_refl _)
  · rw [decide_eq_false hl, Bool.false_and, Bool.and_false]
theorem ahead_idx {a b : Int} (hab : a ≠ b) : ∀ r : List Int, a ∈ r → b ∈ r → (aheadR r a b = true ↔ idxOf (fun y => a == y) r < idxOf (fun y => b == y) r)
  | [], h, _ => by simp at h
  | x :: r, ha, hb => by
    rw [aheadR]
    have e : ∀ c : Int, c ∈ (x :: r) → c ≠ x → idxOf (fun y => c == y) (x :: r) = idxOf (fun y => c == y) r + 1 ∧ c ∈ r ∧ 0 ≤ idxOf (fun y => c == y) r := by
      intro c hc hcx
      have hcr : c ∈ r := by
        rcases List.mem_cons.1 hc with h | h
        · exact absurd h hcx
        · exact h
      have h0 : 0 ≤ idxOf (fun y => c == y) r := by
        have h := idx_ge (p := fun y => c == y) (l := r)
        rw [List.any_eq_true.2 ⟨c, hcr, by simp⟩] at h
        simpa using h
      refine ⟨?_, hcr, h0⟩
      have hcb : (c == x) = false := by simpa using hcx
      unfold idxOf at h0 ⊢
      rw [List.findIdx?_cons, hcb]
      cases hf : r.findIdx? (fun y => c == y) with
      | none => rw [hf] at h0; simp at h0
      | some i => simp
    have z : ∀ c : Int, c = x → idxOf (fun y => c == y) (x :: r) = 0 := by
      intro c hc
      unfold idxOf
      rw [List.findIdx?_cons]; simp [hc]
    by_cases hxb : x = b
    · rw [if_pos hxb]
      have := e a ha (fun h => hab (h.trans hxb))
      rw [z b hxb.symm, this.1]
      constructor
      · intro h; cases h
      · intro h; omega
    · rw [if_neg hxb]
      have hb' := e b hb (fun h => hxb h.symm)
      by_cases hxa : x = a
      · rw [if_pos hxa, z a hxa.symm, hb'.1]
        exact ⟨fun _ => by omega, fun _ => rfl⟩
      · rw [if_neg hxa]
        have ha' := e a ha (fun h => hxa h.symm)
        rw [ahead_idx hab r ha'.2.1 hb'.2.1, ha'.1, hb'.1]
        omega
def has (rows : List Nat) (i k : Nat) : Prop := ∃ b, rows[i]? = some b ∧ b.testBit k = true
theorem addE_has {rows : List Nat} {a b i k : Nat} (ha : a < rows.length) : has (addE rows a b) i k ↔ has rows i k ∨ (i = a ∧ k = b) := by
  unfold addE has
  rw [List.getElem?_eq_getElem ha]
  dsimp only
  by_cases hi : i = a
  · subst hi
    rw [List.getElem?_set_self ha, List.getElem?_eq_getElem ha]
    constructor
    · rintro ⟨c, hc, ht⟩
      cases hc
      rw [Nat.testBit_or, Nat.testBit_two_pow, Bool.or_eq_true] at ht
      rcases ht with ht | ht
      · exact .inl ⟨_, rfl, ht⟩
      · exact .inr ⟨rfl, (by simpa using ht : b = k).symm⟩
    · rintro (⟨c, hc, ht⟩ | ⟨_, rfl⟩)
      · cases hc
        exact ⟨_, rfl, by rw [Nat.testBit_or, ht]; rfl⟩
      · exact ⟨_, rfl, by rw [Nat.testBit_or, Nat.testBit_two_pow]; simp⟩
  · rw [List.getElem?_set_ne (fun h => hi h.symm)]
    constructor
    · exact fun h => .inl h
    · rintro (h | ⟨h, _⟩)
      · exact h
      · exact absurd h hi
theorem fold_has {n : Nat} {f : List Nat → Nat → List Nat} {P : Nat → Nat → Nat → Prop} : ∀ (xs : List Nat) (rows : List Nat), (∀ rows x, rows.length = n → x ∈ xs → (f rows x).length = n ∧ ∀ i k, has (f rows x) i k ↔ has rows i k ∨ P x i k) → rows.length = n →
    (xs.foldl f rows).length = n ∧ ∀ i k, has (xs.foldl f rows) i k ↔ has rows i k ∨ ∃ x ∈ xs, P x i k
  | [], rows, _, h => ⟨h, fun i k => by simp⟩
  | x :: xs, rows, hf, h => by
    obtain ⟨h1, h2⟩ := hf rows x h (by simp)
    obtain ⟨h3, h4⟩ := fold_has xs (f rows x) (fun rows y hr hy => hf rows y hr (by simp [hy])) h1
    refine ⟨h3, fun i k => ?_⟩
    rw [List.foldl_cons, h4, h2]
    simp only [List.mem_cons, exists_eq_or_imp, or_assoc]
/-- What a read of t of another one's, w, sets by c. -/
def EdP (l : List Txn) (C : Nat) (pl : List Int) (t : Nat) (w v : Int) (c i k : Nat) : Prop :=
  ¬ (c = t ∨ (c : Int) = w ∨ wrC l C c v = false) ∧ (((w < 0 ∨ pl.getD w.toNat 0 < pl.getD c 0) ∧ i = t ∧ k = c) ∨ (¬ (w < 0 ∨ pl.getD w.toNat 0 < pl.getD c 0) ∧ i = c ∧ k = w.toNat))
def EdQ (l : List Txn) (sr : List (List Int)) (C : Nat) (pl : List Int) (t : Nat) (n i k : Nat) : Prop := ∃ x o w, l[t]? = some x ∧ x.ops[n]? = some o ∧ sr[t]?.bind (·[n]?) = some w ∧ ¬ (o.w = true ∨ w = t) ∧ ((0 ≤ w ∧ i = w.toNat ∧ k = t) ∨ ∃ c, c < l.length ∧ EdP l C pl t w o.var c i k)
theorem stepC_has {l : List Txn} {C : Nat} {pl : List Int} {t : Nat} {w v : Int} (ht : t < l.length) {rows : List Nat} {c : Nat} (hc : c < l.length) (hr : rows.length = l.length) : (stepC l C pl t w v rows c).length = l.length ∧ ∀ i k, has (stepC l C pl t w v rows c) i k ↔ has rows i k ∨ EdP l C pl t w v c i k := by
  unfold stepC EdP
  by_cases h : c = t ∨ (c : Int) = w ∨ wrC l C c v = false
  · rw [if_pos h]; exact ⟨hr, fun i k => by simp [h]⟩
  · rw [if_neg h]
    by_cases h2 : w < 0 ∨ pl.getD w.toNat 0 < pl.getD c 0
    · rw [if_pos h2]
      refine ⟨addE_len.trans hr, fun i k => ?_⟩
      rw [addE_has (by omega)]
      simp only [h, h2, not_false_eq_true, true_and, not_true_eq_false, false_and, or_false]
    · rw [if_neg h2]
      refine ⟨addE_len.trans hr, fun i k => ?_⟩
      rw [addE_has (by omega)]
      simp only [h, h2, not_false_eq_true, true_and, not_true_eq_false, false_and, false_or]
theorem stepI_has {l : List Txn} {sr : List (List Int)} {C : Nat} {pl : List Int} {t : Nat} (hS : SrcT l sr) {x : Txn} (hx : l[t]? = some x) {rows : List Nat} {n : Nat} (hr : rows.length = l.length) : (stepI l sr C pl t rows n).length = l.length ∧ ∀ i k, has (stepI l sr C pl t rows n) i k ↔ has rows i k ∨ EdQ l sr C pl t n i k := by
  have ht := (List.getElem?_eq_some_iff.1 hx).1
  unfold stepI
  rw [hx, Option.bind_some]
  cases ho : x.ops[n]? with
  | none =>
    refine ⟨hr, fun i k => ⟨.inl, ?_⟩⟩
    rintro (h | ⟨x', o, w, h1, h2, _⟩)
    · exact h
    · rw [hx] at h1; cases h1; rw [ho] at h2; cases h2
  | some o =>
    cases hs : sr[t]?.bind (·[n]?) with
    | none =>
      refine ⟨hr, fun i k => ⟨.inl, ?_⟩⟩
      rintro (h | ⟨x', o, w, h1, h2, h3, _⟩)
      · exact h
      · rw [hs] at h3; cases h3
    | some w =>
      dsimp only
      have hP : ∀ i k, EdQ l sr C pl t n i k ↔ ¬ (o.w = true ∨ w = t) ∧ ((0 ≤ w ∧ i = w.toNat ∧ k = t) ∨ ∃ c, c < l.length ∧ EdP l C pl t w o.var c i k) := by
        intro i k
        constructor
        · rintro ⟨x', o', w', h1, h2, h3, h4⟩
          rw [hx] at h1; cases h1; rw [ho] at h2; cases h2; rw [hs] at h3; cases h3
          exact h4
        · exact fun h => ⟨x, o, w, hx, ho, hs, h⟩
      by_cases h : o.w = true ∨ w = t
      · rw [if_pos h]; exact ⟨hr, fun i k => by rw [hP]; simp [h]⟩
      · rw [if_neg h]
        have hw : 0 ≤ w → w.toNat < l.length := by
          intro h0
          cases hq : sr[t]? with
          | none => rw [hq] at hs; cases hs
          | some q =>
            rw [hq, Option.bind_some] at hs
            rcases hS.src t q w hq (List.mem_of_getElem? hs) with e | e | ⟨k, e, hk⟩ <;> omega
        have h1 : (if 0 ≤ w then addE rows w.toNat t else rows).length = l.length ∧ ∀ i k, has (if 0 ≤ w then addE rows w.toNat t else rows) i k ↔ has rows i k ∨ (0 ≤ w ∧ i = w.toNat ∧ k = t) := by
          by_cases h0 : 0 ≤ w
          · rw [if_pos h0]
            refine ⟨addE_len.trans hr, fun i k => ?_⟩
            rw [addE_has (by have := hw h0; omega)]; simp [h0]
          · rw [if_neg h0]; exact ⟨hr, fun i k => by simp [h0]⟩
        obtain ⟨g1, g2⟩ := fold_has (n := l.length) (P := EdP l C pl t w o.var) (List.range l.length) _ (fun rows c hr hc => stepC_has ht (by simpa using hc) hr) h1.1
        refine ⟨g1, fun i k => ?_⟩
        rw [g2, h1.2, hP]
        simp only [h, not_false_eq_true, true_and, List.mem_range, or_assoc]
theorem edges_has {l : List Txn} {sr : List (List Int)} {C : Nat} {pl : List Int} (hS : SrcT l sr) {rows : List Nat} (hr : rows.length = l.length) : (edgesF l sr C pl rows).length = l.length ∧ ∀ i k, has (edgesF l sr C pl rows) i k ↔ has rows i k ∨ ∃ t n, EdQ l sr C pl t n i k := by
  unfold edgesF
  obtain ⟨g1, g2⟩ := fold_has (n := l.length) (f := stepT l sr C pl) (P := fun t i k => ∃ n, EdQ l sr C pl t n i k) (List.range l.length) rows (fun rows t hr ht => by
    have ht : t < l.length := by simpa using ht
    have hx : l[t]? = some l[t] := List.getElem?_eq_getElem ht
    unfold stepT
    rw [hx]
    obtain ⟨k1, k2⟩ := fold_has (n := l.length) (P := EdQ l sr C pl t) (List.range l[t].ops.length) rows (fun rows n hr _ => stepI_has hS hx hr) hr
    refine ⟨k1, fun i k => ?_⟩
    rw [k2]
    refine or_congr Iff.rfl ⟨fun ⟨n, _, h⟩ => ⟨n, h⟩, fun ⟨n, h⟩ => ⟨n, ?_, h⟩⟩
    obtain ⟨x', o, w, h1, h2, _⟩ := h
    rw [hx] at h1; cases h1
    simpa using (List.getElem?_eq_some_iff.1 h2).1) hr
  refine ⟨g1, fun i k => ?_⟩
  rw [g2]
  refine or_congr Iff.rfl ⟨fun ⟨t, _, h⟩ => ⟨t, h⟩, fun ⟨t, n, h⟩ => ⟨t, ?_, n, h⟩⟩
  obtain ⟨x, o, w, h1, _⟩ := h
  simpa using (List.getElem?_eq_some_iff.1 h1).1
theorem bits_has {n : Nat} {p : Nat → Nat → Bool} {i k : Nat} : has ((List.range n).map fun i => bitsN (p i) n) i k ↔ i < n ∧ k < n ∧ p i k = true := by
  unfold has
  rw [List.getElem?_map]
  by_cases hi : i < n
  · rw [List.getElem?_range hi, Option.map_some]
    constructor
    · rintro ⟨b, hb, ht⟩
      cases hb
      rw [bitsN_test, Bool.and_eq_true, decide_eq_true_eq] at ht
      exact ⟨hi, ht⟩
    · rintro ⟨_, hk, h⟩
      exact ⟨_, rfl, by rw [bitsN_test, decide_eq_true hk, h]; rfl⟩
  · rw [List.getElem?_eq_none (by simpa using hi)]
    exact ⟨fun ⟨b, hb, _⟩ => (by cases hb), fun h => absurd h.1 hi⟩
theorem has_ext {a b : List Nat} (hl : a.length = b.length) (h : ∀ i k, has a i k ↔ has b i k) : a = b := by
  refine List.ext_getElem hl fun i h1 h2 => ?_
  refine Nat.eq_of_testBit_eq fun k => ?_
  have hk := h i k
  unfold has at hk
  rw [List.getElem?_eq_getElem h1, List.getElem?_eq_getElem h2] at hk
  simp only [Option.some.injEq, exists_eq_left'] at hk
  exact Bool.eq_iff_iff.2 hk
theorem wr_writesC (l : List Txn) (C c : Nat) (v : Int) : wrC l C c v = writesC l C c v := by
  unfold wrC writesC
  cases l[c]? with
  | none => rfl
  | some y => dsimp only; rw [last_owns, Bool.and_comm]
/-- The graph is as the document says. -/
theorem graph_law {l : List Txn} {C : Nat} {r : List Int} (hS : SrcT l (sourcesTo l l.length)) (hw : wholeB r l.length = true) : edgesF l (sourcesTo l l.length) C (placeF r l.length) (afterR l) = graphR l C r := by
  have hal : (afterR l).length = l.length := by simp [afterR]
  obtain ⟨g1, g2⟩ := edges_has (C := C) (pl := placeF r l.length) hS hal
  refine has_ext (by rw [g1]; simp [graphR]) fun i k => ?_
  rw [g2]
  have hmem : ∀ c : Nat, c < l.length → (c : Int) ∈ r := by
    intro c hc
    unfold wholeB wholeTo at hw
    rw [Bool.and_eq_true, List.all_eq_true] at hw
    have := hw.2 c (by simpa using hc)
    rw [Bool.and_eq_true, decide_eq_true_eq, in_cnt, cnt_count] at this
    have h2 := List.countP_pos_iff.1 (show 0 < _ from this.1)
    obtain ⟨a, ha, hb⟩ := h2
    rw [decide_eq_true_eq] at hb
    rw [← hb]; exact ha
  have hpl : ∀ c : Nat, c < l.length → (placeF r l.length).getD c 0 = idxOf (fun y => (c : Int) == y) r := by
    intro c hc
    simp [placeF, List.getD, List.getElem?_range hc]
  have hah : ∀ w c : Nat, w < l.length → c < l.length → w ≠ c → ((placeF r l.length).getD w 0 < (placeF r l.length).getD c 0 ↔ aheadR r w c = true) := by
    intro w c hw hc hne
    rw [hpl w hw, hpl c hc]
    exact (ahead_idx (by omega) r (hmem w hw) (hmem c hc)).symm
  have hlt : ∀ w c : Nat, w < l.length → c < l.length → w ≠ c → ((placeF r l.length).getD w 0 < (placeF r l.length).getD c 0 ∨ (placeF r l.length).getD c 0 < (placeF r l.length).getD w 0) ∧ ¬ ((placeF r l.length).getD w 0 < (placeF r l.length).getD c 0 ∧ (placeF r l.length).getD c 0 < (placeF r l.length).getD w 0) := by
    intro w c hw hc hne
    refine ⟨?_, fun h => by omega⟩
    rw [hpl w hw, hpl c hc]
    have e : idxOf (fun y => (w : Int) == y) r ≠ idxOf (fun y => (c : Int) == y) r := by
      intro e
      have h1 := in_cnt (r := r) (i := w)
      have hne1 : ¬ idxOf (fun y => (w : Int) == y) r = -1 := by
        have h2 := idx_ge (p := fun y => (w : Int) == y) (l := r)
        rw [List.any_eq_true.2 ⟨_, hmem w hw, by simp⟩] at h2
        have := of_decide_eq_true h2
        omega
      obtain ⟨q, hq, e1, _, p1⟩ := idx_some hne1
      obtain ⟨q2, hq2, e2, _, p2⟩ := idx_some (show ¬ idxOf (fun y => (c : Int) == y) r = -1 by rw [← e]; exact hne1)
      obtain rfl : q = q2 := by omega
      simp only [beq_iff_eq] at p1 p2
      omega
    omega
  rw [show afterR l = (List.range l.length).map fun i => bitsN (beforeB l i) l.length from rfl, bits_has, graphR, bits_has]
  constructor
  · rintro (⟨hi, hk, h⟩ | ⟨t, n, x, o, w, hx, ho, hs, hno, h⟩)
    · refine ⟨hi, hk, ?_⟩
      unfold behindR
      rw [List.getElem?_eq_getElem hi, List.getElem?_eq_getElem hk]
      simp [h]
    · have ht := (List.getElem?_eq_some_iff.1 hx).1
      have hn := (List.getElem?_eq_some_iff.1 ho).1
      rw [sourcesTo_at hx ho] at hs
      cases hs
      have how : o.w = false := by cases hq : o.w with | false => rfl | true => exact absurd (.inl hq) hno
      have hwt : ¬ sourceR l t n x o = t := fun h => hno (.inr h)
      have hsb : 0 ≤ sourceR l t n x o → (sourceR l t n x o).toNat < l.length := by
        intro h0; rcases source_cases l t n x o with e | e | e | ⟨q, e, hq⟩ <;> omega
      rcases h with ⟨h0, rfl, rfl⟩ | ⟨c, hc, hcond, h | h⟩
      · refine ⟨hsb h0, ht, ?_⟩
        unfold behindR
        rw [List.getElem?_eq_getElem (hsb h0), hx]
        have : secFrom l (sourceR l k n x o).toNat k x 0 = true := by
          unfold secFrom
          rw [List.drop_zero, List.any_eq_true]
          refine ⟨n, by simpa using hn, ?_⟩
          unfold secC; rw [ho]
          dsimp only
          rw [how, decide_eq_true (by omega), decide_eq_true (by omega)]; rfl
        simp [this]
      · obtain ⟨h1, rfl, rfl⟩ := h
        refine ⟨ht, hc, ?_⟩
        unfold behindR
        rw [hx, List.getElem?_eq_getElem hc]
        have hwc : writesC l C k o.var = true := by
          rw [← wr_writesC]; cases hq : wrC l C k o.var with | true => rfl | false => exact absurd (.inr (.inr hq)) hcond
        have hkt : ¬ (k : Int) = i := fun e => hcond (.inl (by omega))
        have hkw : ¬ (k : Int) = sourceR l i n x o := fun e => hcond (.inr (.inl e))
        have : thirdFrom l C r i x k 0 = true := by
          unfold thirdFrom
          rw [List.drop_zero, List.any_eq_true]
          refine ⟨n, by simpa using hn, ?_⟩
          unfold thirdC; rw [ho]
          dsimp only
          rw [how, hwc, decide_eq_true hwt, decide_eq_true hkt, decide_eq_true hkw]
          simp only [Bool.not_false, Bool.true_and, Bool.or_eq_true, decide_eq_true_eq]
          rcases h1 with h1 | h1
          · exact .inl h1
          · by_cases h0 : sourceR l i n x o < 0
            · exact .inl h0
            · have h2 := (hah _ k (hsb (by omega)) hc (by omega)).1 h1
              rw [Int.toNat_of_nonneg (by omega)] at h2
              exact .inr h2
        simp [this]
      · obtain ⟨h1, rfl, rfl⟩ := h
        have h0 : 0 ≤ sourceR l t n x o := by omega
        refine ⟨hc, hsb h0, ?_⟩
        unfold behindR
        rw [List.getElem?_eq_getElem hc, List.getElem?_eq_getElem (hsb h0)]
        have hwc : writesC l C i o.var = true := by
          rw [← wr_writesC]; cases hq : wrC l C i o.var with | true => rfl | false => exact absurd (.inr (.inr hq)) hcond
        have hkt : ¬ (i : Int) = t := fun e => hcond (.inl (by omega))
        have hkw : ¬ (i : Int) = sourceR l t n x o := fun e => hcond (.inr (.inl e))
        have hnw : i ≠ (sourceR l t n x o).toNat := by omega
        have hl1 := (hlt _ i (hsb h0) hc (by omega)).1
        have h2 := (hah i _ hc (hsb h0) hnw).1 (by
          rcases hl1 with h | h
          · exact absurd (.inr h) h1
          · exact h)
        have : frFrom l C r i (sourceR l t n x o).toNat 0 = true := by
          unfold frFrom
          rw [List.drop_zero, List.any_eq_true]
          refine ⟨t, by simpa using ht, ?_⟩
          rw [hx]
          dsimp only
          unfold fourthFrom
          rw [List.drop_zero, List.any_eq_true]
          refine ⟨n, by simpa using hn, ?_⟩
          unfold fourthC; rw [ho]
          dsimp only
          rw [how, hwc, h2, decide_eq_true hwt, decide_eq_true (by omega), decide_eq_true hkt, decide_eq_true (by omega)]; rfl
        simp [this]
  · rintro ⟨hi, hk, h⟩
    unfold behindR at h
    have hx : l[i]? = some l[i] := List.getElem?_eq_getElem hi
    have hy : l[k]? = some l[k] := List.getElem?_eq_getElem hk
    rw [hx, hy] at h
    simp only [Bool.or_eq_true] at h
    rcases h with h | h | h | h
    · exact .inl ⟨hi, hk, h⟩
    · right
      unfold thirdFrom at h
      rw [List.drop_zero, List.any_eq_true] at h
      obtain ⟨n, hn, h⟩ := h
      have hn : n < l[i].ops.length := by simpa using hn
      have ho : l[i].ops[n]? = some l[i].ops[n] := List.getElem?_eq_getElem hn
      unfold thirdC at h; rw [ho] at h
      simp only [Bool.and_eq_true, Bool.or_eq_true, decide_eq_true_eq, Bool.not_eq_true'] at h
      obtain ⟨how, hsi, hki, hks, hwc, h6⟩ := h
      refine ⟨i, n, l[i], _, _, hx, ho, sourcesTo_at hx ho, fun h => by rcases h with h | h; (rw [how] at h; cases h); exact hsi h, .inr ⟨k, hk, fun h => ?_, .inl ⟨?_, rfl, rfl⟩⟩⟩
      · rcases h with h | h | h
        · exact hki (by omega)
        · exact hks h
        · rw [wr_writesC, hwc] at h; cases h
      · rcases h6 with h6 | h6
        · exact .inl h6
        · by_cases h0 : sourceR l i n l[i] l[i].ops[n] < 0
          · exact .inl h0
          · refine .inr ((hah _ k ?_ hk (by omega)).2 (by rw [Int.toNat_of_nonneg (by omega)]; exact h6))
            rcases source_cases l i n l[i] l[i].ops[n] with e | e | e | ⟨q, e, hq⟩ <;> omega
    · right
      unfold secFrom at h
      rw [List.drop_zero, List.any_eq_true] at h
      obtain ⟨n, hn, h⟩ := h
      have hn : n < l[k].ops.length := by simpa using hn
      have ho : l[k].ops[n]? = some l[k].ops[n] := List.getElem?_eq_getElem hn
      unfold secC at h; rw [ho] at h
      simp only [Bool.and_eq_true, decide_eq_true_eq, Bool.not_eq_true'] at h
      obtain ⟨how, hik, hsi⟩ := h
      exact ⟨k, n, l[k], _, _, hy, ho, sourcesTo_at hy ho, fun h => by rcases h with h | h; (rw [how] at h; cases h); (rw [hsi] at h; exact hik h), .inl ⟨by omega, by omega, rfl⟩⟩
    · right
      unfold frFrom at h
      rw [List.drop_zero, List.any_eq_true] at h
      obtain ⟨t, ht, h⟩ := h
      have ht : t < l.length := by simpa using ht
      have hz : l[t]? = some l[t] := List.getElem?_eq_getElem ht
      rw [hz] at h
      dsimp only at h
      unfold fourthFrom at h
      rw [List.drop_zero, List.any_eq_true] at h
      obtain ⟨n, hn, h⟩ := h
      have hn : n < l[t].ops.length := by simpa using hn
      have ho : l[t].ops[n]? = some l[t].ops[n] := List.getElem?_eq_getElem hn
      unfold fourthC at h; rw [ho] at h
      simp only [Bool.and_eq_true, decide_eq_true_eq, Bool.not_eq_true'] at h
      obtain ⟨how, hst, hsk, hit, hik, hwc, h6⟩ := h
      refine ⟨t, n, l[t], _, _, hz, ho, sourcesTo_at hz ho, fun h => by rcases h with h | h; (rw [how] at h; cases h); exact hst h, .inr ⟨i, hi, fun h => ?_, .inr ⟨?_, rfl, by omega⟩⟩⟩
      · rcases h with h | h | h
        · exact hit (by omega)
        · exact hik (by omega)
        · rw [wr_writesC, hwc] at h; cases h
      · rintro (h | h)
        · omega
        · have e : (sourceR l t n l[t] l[t].ops[n]).toNat = k := by omega
          rw [e] at h
          have h7 := (hah i k hi hk (by omega)).2 h6
          omega
end Go.VC
end
section
set_option maxRecDepth 100000
set_option linter.unusedSimpArgs false
set_option linter.unusedVariables false
set_option linter.unnecessarySimpa false
namespace Go.VC
open Go.RowKit Go.Proofs Go.IntWalk
theorem t38 (h : List Ev) (C : Nat) (hC : C < 2 ^ 32) : Holds Tryd.prog GL 38 [evsA h, U C] [.a (I (whyG h C))] := by
  refine fn_holds (vs := [.tmp 4]) (by kernel_rfl) Tryd.func38 rfl rfl (by kernel_rfl) (by kernel_rfl) rfl ?_
  (refine of_gate ?_; repeat' ((first | (with_reducible refine gate_in ?_) | (with_reducible refine spK_intro ?_ ?_ <;> intro hp) | (with_reducible refine brK_intro ?_ ?_ <;> intro hb <;> try rw [hb]) | (with_reducible refine draw_in (by unfold DrawOk; decide +kernel) ?_) | (with_reducible refine And.intro (by first | omega | (simp only [List.length_map, List.length_take]; omega)) ?_) | fail) <;> try simp only [go_sem, simprocAttr]))
  refine call_dat (t19 h) ?_
  rw [why_check]
  unfold whyG
  by_cases h0 : checkE h = 0
  · have h60 := check60 h0
    have hfit := tab_fit2 h (by omega)
    have hl6 := txns_len6 h
    have hT := txns_tab h0
    rw [h0, if_pos rfl]
    (refine of_gate ?_; repeat' ((first | (with_reducible refine gate_in ?_) | (with_reducible refine spK_intro ?_ ?_ <;> intro hp) | (with_reducible refine brK_intro ?_ ?_ <;> intro hb <;> try rw [hb]) | (with_reducible refine draw_in (by unfold DrawOk; decide +kernel) ?_) | (with_reducible refine And.intro (by first | omega | (simp only [List.length_map, List.length_take]; omega)) ?_) | fail) <;> try simp only [go_sem, simprocAttr]))
    refine call_dat (t32 h h60) ?_
    rw [hT]
    generalize txns h = T at *
    (refine of_gate ?_; repeat' ((first | (with_reducible refine gate_in ?_) | (with_reducible refine spK_intro ?_ ?_ <;> intro hp) | (with_reducible refine brK_intro ?_ ?_ <;> intro hb <;> try rw [hb]) | (with_reducible refine draw_in (by unfold DrawOk; decide +kernel) ?_) | (with_reducible refine And.intro (by first | omega | (simp only [List.length_map, List.length_take]; omega)) ?_) | fail) <;> try simp only [go_sem, simprocAttr]))
    refine call_dat (t31 T hfit) ?_
    cases hu : uniqTo T 0 with
    | false => (refine of_gate ?_; repeat' ((first | (with_reducible refine gate_in ?_) | (with_reducible refine spK_intro ?_ ?_ <;> intro hp) | (with_reducible refine brK_intro ?_ ?_ <;> intro hb <;> try rw [hb]) | (with_reducible refine draw_in (by unfold DrawOk; decide +kernel) ?_) | (with_reducible refine And.intro (by first | omega | (simp only [List.length_map, List.length_take]; omega)) ?_) | fail) <;> try simp only [go_sem, simprocAttr]))
    | true =>
      rw [if_pos rfl]
      (refine of_gate ?_; repeat' ((first | (with_reducible refine gate_in ?_) | (with_reducible refine spK_intro ?_ ?_ <;> intro hp) | (with_reducible refine brK_intro ?_ ?_ <;> intro hb <;> try rw [hb]) | (with_reducible refine draw_in (by unfold DrawOk; decide +kernel) ?_) | (with_reducible refine And.intro (by first | omega | (simp only [List.length_map, List.length_take]; omega)) ?_) | fail) <;> try simp only [go_sem, simprocAttr]))
      refine call_dat (t32 h h60) ?_
      rw [hT]
      (refine of_gate ?_; repeat' ((first | (with_reducible refine gate_in ?_) | (with_reducible refine spK_intro ?_ ?_ <;> intro hp) | (with_reducible refine brK_intro ?_ ?_ <;> intro hb <;> try rw [hb]) | (with_reducible refine draw_in (by unfold DrawOk; decide +kernel) ?_) | (with_reducible refine And.intro (by first | omega | (simp only [List.length_map, List.length_take]; omega)) ?_) | fail) <;> try simp only [go_sem, simprocAttr]))
      refine call_dat (t74 T (by omega) C hC) ?_
      by_cases hq : C / 2 ^ T.length = 0
      · rw [decide_eq_true hq, if_pos hq]
        (refine of_gate ?_; repeat' ((first | (with_reducible refine gate_in ?_) | (with_reducible refine spK_intro ?_ ?_ <;> intro hp) | (with_reducible refine brK_intro ?_ ?_ <;> intro hb <;> try rw [hb]) | (with_reducible refine draw_in (by unfold DrawOk; decide +kernel) ?_) | (with_reducible refine And.intro (by first | omega | (simp only [List.length_map, List.length_take]; omega)) ?_) | fail) <;> try simp only [go_sem, simprocAttr]))
      · rw [decide_eq_false hq, if_neg hq]
        (refine of_gate ?_; repeat' ((first | (with_reducible refine gate_in ?_) | (with_reducible refine spK_intro ?_ ?_ <;> intro hp) | (with_reducible refine brK_intro ?_ ?_ <;> intro hb <;> try rw [hb]) | (with_reducible refine draw_in (by unfold DrawOk; decide +kernel) ?_) | (with_reducible refine And.intro (by first | omega | (simp only [List.length_map, List.length_take]; omega)) ?_) | fail) <;> try simp only [go_sem, simprocAttr]))
  · rw [if_neg h0]
    generalize checkE h = c at h0
    (refine of_gate ?_; repeat' ((first | (with_reducible refine gate_in ?_) | (with_reducible refine spK_intro ?_ ?_ <;> intro hp) | (with_reducible refine brK_intro ?_ ?_ <;> intro hb <;> try rw [hb]) | (with_reducible refine draw_in (by unfold DrawOk; decide +kernel) ?_) | (with_reducible refine And.intro (by first | omega | (simp only [List.length_map, List.length_take]; omega)) ?_) | fail) <;> try simp only [go_sem, simprocAttr, h0]))
theorem c38 {h : List Ev} {C : Nat} (hC : C < 2 ^ 32) {dst : Option Tmp} {σ : S} {K : S → Prop} (hK : σ.ret dst [.a (I (whyG h C))] K) : callV Tryd.prog GL 38 [.a (evsA h), .a (U C)] dst σ K := call_dat (t38 h C hC) hK
theorem c37 {h : List Ev} {C : Nat} (hC : C < 2 ^ 32) {dst : Option Tmp} {σ : S} {K : S → Prop} (hK : σ.ret dst [.a (B (readV h C)), .a (I (lookE h C))] K) : callV Tryd.prog GL 37 [.a (evsA h), .a (U C)] dst σ K := call_dat (t37 h C hC) hK
theorem build_bad {h : List Ev} {C : Nat} {r : List Int} {e : Int} (he : buildE h C r = e) (h0 : ¬ e = 0) : buildV h C r = [] := by rw [buildV, he, if_neg h0]
set_option maxHeartbeats 1000000 in
theorem t9 (h0 : List Ev) (C : Nat) (hC : C < 2 ^ 32) (r0 : List Int) : Holds Tryd.prog GL 9 [evsA h0, U C, intsA r0] [.a (B true)] := by
  refine fn_holds (vs := [.tmp 6]) (by kernel_rfl) Tryd.func9 rfl rfl (by kernel_rfl) (by kernel_rfl) rfl ?_
  have m0 : (0 : Int) ≤ min (h0.length : Int) 65 := by omega
  have m1 : min (h0.length : Int) 65 ≤ (h0.length : Int) := by omega
  have n0 : (0 : Int) ≤ min (r0.length : Int) 12 := by omega
  have n1 : min (r0.length : Int) 12 ≤ (r0.length : Int) := by omega
  have hc : List.take (min (h0.length : Int) 65).toNat (h0.map Ev.enc) = (h0.take 65).map Ev.enc := cutN 65 h0
  have hd : List.take (min (r0.length : Int) 12).toNat (r0.map ienc) = (r0.take 12).map ienc := cutJ 12 r0
  have hl65 : (h0.take 65).length ≤ 65 := by simp; omega
  have hr12 : (r0.take 12).length ≤ 12 := by simp; omega
  generalize h0.take 65 = h at hc hl65
  generalize r0.take 12 = r at hd hr12
  have hlk := look_why h C
  by_cases hW : whyG h C = 0
  · obtain ⟨hcE, hsE, hsr⟩ := why_ok hW
    have h60 := check60 hcE
    have hfit := tab_fit2 h (by omega)
    have hst := stT h
    have hl6 := txns_len6 h
    have hT := txns_tab hcE
    have hrd := read_law hW
    have hS := srcT hsE
    rw [hsr] at hS
    have hwl := whole_law r (txns h).length
    have hbE : buildE h C r = if wholeB r (txns h).length then (if exFrom (txns h) C 0 then 0 else 7) else 1 := by
      rw [buildE, hlk, hW, if_pos rfl, hsr, all_ex]
    rw [hW] at hlk
    have hbV : wholeB r (txns h).length = true → exFrom (txns h) C 0 = true → buildV h C r = graphR (txns h) C r := by
      intro h1 h2
      rw [buildV, hbE, h1, h2, if_pos rfl, if_pos rfl, if_pos rfl, hsr]
      exact graph_law hS h1
    generalize txns h = T at *
    (refine of_gate ?_; repeat' ((first | (with_reducible refine gate_in ?_) | (with_reducible refine spK_intro ?_ ?_ <;> intro hp) | (with_reducible refine brK_intro ?_ ?_ <;> intro hb <;> try rw [hb]) | (with_reducible refine draw_in (by unfold DrawOk; decide +kernel) ?_) | (with_reducible refine And.intro (by first | omega | (simp only [List.length_map, List.length_take]; omega)) ?_) | fail) <;> try simp only [go_sem, simprocAttr, List.length_map, m0, m1, n0, n1, hc, hd, Int.toNat_zero, bne_self_eq_false]))
    refine c37 hC ?_
    rw [hrd, hlk]
    cases hX : exFrom T C 0 with
    | false =>
      cases hWh : wholeB r T.length with
      | false =>
        rw [hWh] at hbE hwl
        simp only [Bool.false_eq_true, if_false] at hbE
        have hV := build_bad hbE (by decide)
        (refine of_gate ?_; repeat' ((first | (with_reducible refine gate_in ?_) | (with_reducible refine spK_intro ?_ ?_ <;> intro hp) | (with_reducible refine brK_intro ?_ ?_ <;> intro hb <;> try rw [hb]) | (with_reducible refine draw_in (by unfold DrawOk; decide +kernel) ?_) | (with_reducible refine And.intro (by first | omega | (simp only [List.length_map, List.length_take]; omega)) ?_) | fail) <;> try simp only [go_sem, simprocAttr, hc, hd]))
        refine c35 (r := r) hC (by omega) ?_
        rw [hbE, hV]
        (refine of_gate ?_; repeat' ((first | (with_reducible refine gate_in ?_) | (with_reducible refine spK_intro ?_ ?_ <;> intro hp) | (with_reducible refine brK_intro ?_ ?_ <;> intro hb <;> try rw [hb]) | (with_reducible refine draw_in (by unfold DrawOk; decide +kernel) ?_) | (with_reducible refine c38 hC ?_) | (with_reducible refine And.intro (by first | omega | (simp only [List.length_map, List.length_take]; omega)) ?_) | fail) <;> try simp only [go_sem, simprocAttr, hc, hd, hW]))
        refine call_dat (t32 h h60) ?_
        rw [hT]
        (refine of_gate ?_; repeat' ((first | (with_reducible refine gate_in ?_) | (with_reducible refine spK_intro ?_ ?_ <;> intro hp) | (with_reducible refine brK_intro ?_ ?_ <;> intro hb <;> try rw [hb]) | (with_reducible refine draw_in (by unfold DrawOk; decide +kernel) ?_) | (with_reducible refine And.intro (by first | omega | (simp only [List.length_map, List.length_take]; omega)) ?_) | fail) <;> try simp only [go_sem, simprocAttr]))
        refine call_dat (t39 T hfit (by omega) C hC) ?_
        rw [hX]
        (refine of_gate ?_; repeat' ((first | (with_reducible refine gate_in ?_) | (with_reducible refine spK_intro ?_ ?_ <;> intro hp) | (with_reducible refine brK_intro ?_ ?_ <;> intro hb <;> try rw [hb]) | (with_reducible refine draw_in (by unfold DrawOk; decide +kernel) ?_) | (with_reducible apply c36) | (with_reducible refine And.intro (by first | omega | (simp only [List.length_map, List.length_take]; omega)) ?_) | fail) <;> try simp only [go_sem, simprocAttr, bne_self_eq_false, hd]))
        refine call_dat (t40 T (by omega) r (by omega)) ?_
        rw [← hwl]
        (refine of_gate ?_; repeat' ((first | (with_reducible refine gate_in ?_) | (with_reducible refine spK_intro ?_ ?_ <;> intro hp) | (with_reducible refine brK_intro ?_ ?_ <;> intro hb <;> try rw [hb]) | (with_reducible refine draw_in (by unfold DrawOk; decide +kernel) ?_) | (with_reducible refine And.intro (by first | omega | (simp only [List.length_map, List.length_take]; omega)) ?_) | fail) <;> try simp only [go_sem, simprocAttr]))
      | true =>
        rw [hWh] at hbE hwl
        simp only [if_true, Bool.false_eq_true, if_false, hX] at hbE
        have hV := build_bad hbE (by decide)
        (refine of_gate ?_; repeat' ((first | (with_reducible refine gate_in ?_) | (with_reducible refine spK_intro ?_ ?_ <;> intro hp) | (with_reducible refine brK_intro ?_ ?_ <;> intro hb <;> try rw [hb]) | (with_reducible refine draw_in (by unfold DrawOk; decide +kernel) ?_) | (with_reducible refine And.intro (by first | omega | (simp only [List.length_map, List.length_take]; omega)) ?_) | fail) <;> try simp only [go_sem, simprocAttr, hc, hd]))
        refine c35 (r := r) hC (by omega) ?_
        rw [hbE, hV]
        (refine of_gate ?_; repeat' ((first | (with_reducible refine gate_in ?_) | (with_reducible refine spK_intro ?_ ?_ <;> intro hp) | (with_reducible refine brK_intro ?_ ?_ <;> intro hb <;> try rw [hb]) | (with_reducible refine draw_in (by unfold DrawOk; decide +kernel) ?_) | (with_reducible refine c38 hC ?_) | (with_reducible refine And.intro (by first | omega | (simp only [List.length_map, List.length_take]; omega)) ?_) | fail) <;> try simp only [go_sem, simprocAttr, hc, hd, hW]))
        refine call_dat (t32 h h60) ?_
        rw [hT]
        (refine of_gate ?_; repeat' ((first | (with_reducible refine gate_in ?_) | (with_reducible refine spK_intro ?_ ?_ <;> intro hp) | (with_reducible refine brK_intro ?_ ?_ <;> intro hb <;> try rw [hb]) | (with_reducible refine draw_in (by unfold DrawOk; decide +kernel) ?_) | (with_reducible refine And.intro (by first | omega | (simp only [List.length_map, List.length_take]; omega)) ?_) | fail) <;> try simp only [go_sem, simprocAttr]))
        refine call_dat (t39 T hfit (by omega) C hC) ?_
        rw [hX]
        (refine of_gate ?_; repeat' ((first | (with_reducible refine gate_in ?_) | (with_reducible refine spK_intro ?_ ?_ <;> intro hp) | (with_reducible refine brK_intro ?_ ?_ <;> intro hb <;> try rw [hb]) | (with_reducible refine draw_in (by unfold DrawOk; decide +kernel) ?_) | (with_reducible apply c36) | (with_reducible refine And.intro (by first | omega | (simp only [List.length_map, List.length_take]; omega)) ?_) | fail) <;> try simp only [go_sem, simprocAttr, bne_self_eq_false, hd]))
        refine call_dat (t40 T (by omega) r (by omega)) ?_
        rw [← hwl]
        (refine of_gate ?_; repeat' ((first | (with_reducible refine gate_in ?_) | (with_reducible refine spK_intro ?_ ?_ <;> intro hp) | (with_reducible refine brK_intro ?_ ?_ <;> intro hb <;> try rw [hb]) | (with_reducible refine draw_in (by unfold DrawOk; decide +kernel) ?_) | (with_reducible refine And.intro (by first | omega | (simp only [List.length_map, List.length_take]; omega)) ?_) | fail) <;> try simp only [go_sem, simprocAttr]))
    | true =>
      cases hWh : wholeB r T.length with
      | false =>
        rw [hWh] at hbE hwl
        simp only [Bool.false_eq_true, if_false] at hbE
        have hV := build_bad hbE (by decide)
        (refine of_gate ?_; repeat' ((first | (with_reducible refine gate_in ?_) | (with_reducible refine spK_intro ?_ ?_ <;> intro hp) | (with_reducible refine brK_intro ?_ ?_ <;> intro hb <;> try rw [hb]) | (with_reducible refine draw_in (by unfold DrawOk; decide +kernel) ?_) | (with_reducible refine And.intro (by first | omega | (simp only [List.length_map, List.length_take]; omega)) ?_) | fail) <;> try simp only [go_sem, simprocAttr, hc, hd]))
        refine c35 (r := r) hC (by omega) ?_
        rw [hbE, hV]
        (refine of_gate ?_; repeat' ((first | (with_reducible refine gate_in ?_) | (with_reducible refine spK_intro ?_ ?_ <;> intro hp) | (with_reducible refine brK_intro ?_ ?_ <;> intro hb <;> try rw [hb]) | (with_reducible refine draw_in (by unfold DrawOk; decide +kernel) ?_) | (with_reducible refine c38 hC ?_) | (with_reducible refine And.intro (by first | omega | (simp only [List.length_map, List.length_take]; omega)) ?_) | fail) <;> try simp only [go_sem, simprocAttr, hc, hd, hW]))
        refine call_dat (t32 h h60) ?_
        rw [hT]
        (refine of_gate ?_; repeat' ((first | (with_reducible refine gate_in ?_) | (with_reducible refine spK_intro ?_ ?_ <;> intro hp) | (with_reducible refine brK_intro ?_ ?_ <;> intro hb <;> try rw [hb]) | (with_reducible refine draw_in (by unfold DrawOk; decide +kernel) ?_) | (with_reducible refine And.intro (by first | omega | (simp only [List.length_map, List.length_take]; omega)) ?_) | fail) <;> try simp only [go_sem, simprocAttr]))
        refine call_dat (t39 T hfit (by omega) C hC) ?_
        rw [hX]
        (refine of_gate ?_; repeat' ((first | (with_reducible refine gate_in ?_) | (with_reducible refine spK_intro ?_ ?_ <;> intro hp) | (with_reducible refine brK_intro ?_ ?_ <;> intro hb <;> try rw [hb]) | (with_reducible refine draw_in (by unfold DrawOk; decide +kernel) ?_) | (with_reducible apply c36) | (with_reducible refine And.intro (by first | omega | (simp only [List.length_map, List.length_take]; omega)) ?_) | fail) <;> try simp only [go_sem, simprocAttr, bne_self_eq_false, hd]))
        refine call_dat (t40 T (by omega) r (by omega)) ?_
        rw [← hwl]
        (refine of_gate ?_; repeat' ((first | (with_reducible refine gate_in ?_) | (with_reducible refine spK_intro ?_ ?_ <;> intro hp) | (with_reducible refine brK_intro ?_ ?_ <;> intro hb <;> try rw [hb]) | (with_reducible refine draw_in (by unfold DrawOk; decide +kernel) ?_) | (with_reducible refine And.intro (by first | omega | (simp only [List.length_map, List.length_take]; omega)) ?_) | fail) <;> try simp only [go_sem, simprocAttr]))
      | true =>
        have hV := hbV hWh hX
        rw [hWh] at hbE hwl
        simp only [if_true, hX] at hbE
        have hgl : (graphR T C r).length ≤ 1000000 := by simp [graphR]; omega
        (refine of_gate ?_; repeat' ((first | (with_reducible refine gate_in ?_) | (with_reducible refine spK_intro ?_ ?_ <;> intro hp) | (with_reducible refine brK_intro ?_ ?_ <;> intro hb <;> try rw [hb]) | (with_reducible refine draw_in (by unfold DrawOk; decide +kernel) ?_) | (with_reducible refine And.intro (by first | omega | (simp only [List.length_map, List.length_take]; omega)) ?_) | fail) <;> try simp only [go_sem, simprocAttr, hc, hd]))
        refine c35 (r := r) hC (by omega) ?_
        rw [hbE, hV]
        (refine of_gate ?_; repeat' ((first | (with_reducible refine gate_in ?_) | (with_reducible refine spK_intro ?_ ?_ <;> intro hp) | (with_reducible refine brK_intro ?_ ?_ <;> intro hb <;> try rw [hb]) | (with_reducible refine draw_in (by unfold DrawOk; decide +kernel) ?_) | (with_reducible refine c38 hC ?_) | (with_reducible refine And.intro (by first | omega | (simp only [List.length_map, List.length_take]; omega)) ?_) | fail) <;> try simp only [go_sem, simprocAttr, hc, hd, hW]))
        refine call_dat (t32 h h60) ?_
        rw [hT]
        (refine of_gate ?_; repeat' ((first | (with_reducible refine gate_in ?_) | (with_reducible refine spK_intro ?_ ?_ <;> intro hp) | (with_reducible refine brK_intro ?_ ?_ <;> intro hb <;> try rw [hb]) | (with_reducible refine draw_in (by unfold DrawOk; decide +kernel) ?_) | (with_reducible refine And.intro (by first | omega | (simp only [List.length_map, List.length_take]; omega)) ?_) | fail) <;> try simp only [go_sem, simprocAttr]))
        refine call_dat (t39 T hfit (by omega) C hC) ?_
        rw [hX]
        (refine of_gate ?_; repeat' ((first | (with_reducible refine gate_in ?_) | (with_reducible refine spK_intro ?_ ?_ <;> intro hp) | (with_reducible refine brK_intro ?_ ?_ <;> intro hb <;> try rw [hb]) | (with_reducible refine draw_in (by unfold DrawOk; decide +kernel) ?_) | (with_reducible apply c36) | (with_reducible refine And.intro (by first | omega | (simp only [List.length_map, List.length_take]; omega)) ?_) | fail) <;> try simp only [go_sem, simprocAttr, bne_self_eq_false, hd]))
        refine call_dat (t40 T (by omega) r (by omega)) ?_
        rw [← hwl]
        (refine of_gate ?_; repeat' ((first | (with_reducible refine gate_in ?_) | (with_reducible refine spK_intro ?_ ?_ <;> intro hp) | (with_reducible refine brK_intro ?_ ?_ <;> intro hb <;> try rw [hb]) | (with_reducible refine draw_in (by unfold DrawOk; decide +kernel) ?_) | (with_reducible refine And.intro (by first | omega | (simp only [List.length_map, List.length_take]; omega)) ?_) | fail) <;> try simp only [go_sem, simprocAttr]))
        refine call_dat (t41 T hfit hst (by omega) C hC r (by omega)) ?_
        (refine of_gate ?_; repeat' ((first | (with_reducible refine gate_in ?_) | (with_reducible refine spK_intro ?_ ?_ <;> intro hp) | (with_reducible refine brK_intro ?_ ?_ <;> intro hb <;> try rw [hb]) | (with_reducible refine draw_in (by unfold DrawOk; decide +kernel) ?_) | (with_reducible refine And.intro (by first | omega | (simp only [List.length_map, List.length_take]; omega)) ?_) | fail) <;> try simp only [go_sem, simprocAttr]))
        refine call_dat (t21 (graphR T C r) (graphR T C r) hgl) ?_
        rw [beq_self_eq_true]
        (refine of_gate ?_; repeat' ((first | (with_reducible refine gate_in ?_) | (with_reducible refine spK_intro ?_ ?_ <;> intro hp) | (with_reducible refine brK_intro ?_ ?_ <;> intro hb <;> try rw [hb]) | (with_reducible refine draw_in (by unfold DrawOk; decide +kernel) ?_) | (with_reducible refine And.intro (by first | omega | (simp only [List.length_map, List.length_take]; omega)) ?_) | fail) <;> try simp only [go_sem, simprocAttr]))
  · have hlk2 : ¬ lookE h C = 0 := by rw [hlk]; exact hW
    have hrd : readV h C = false := by simp [readV, hlk2]
    have hbE : buildE h C r = whyG h C := by rw [buildE, if_neg hlk2, hlk]
    have hV := build_bad hbE hW
    have h38 := t38 h C hC
    generalize whyG h C = W at *
    (refine of_gate ?_; repeat' ((first | (with_reducible refine gate_in ?_) | (with_reducible refine spK_intro ?_ ?_ <;> intro hp) | (with_reducible refine brK_intro ?_ ?_ <;> intro hb <;> try rw [hb]) | (with_reducible refine draw_in (by unfold DrawOk; decide +kernel) ?_) | (with_reducible refine And.intro (by first | omega | (simp only [List.length_map, List.length_take]; omega)) ?_) | fail) <;> try simp only [go_sem, simprocAttr, List.length_map, m0, m1, n0, n1, hc, hd, Int.toNat_zero, bne_self_eq_false]))
    refine c37 hC ?_
    rw [hrd, hlk]
    (refine of_gate ?_; repeat' ((first | (with_reducible refine gate_in ?_) | (with_reducible refine spK_intro ?_ ?_ <;> intro hp) | (with_reducible refine brK_intro ?_ ?_ <;> intro hb <;> try rw [hb]) | (with_reducible refine draw_in (by unfold DrawOk; decide +kernel) ?_) | (with_reducible refine And.intro (by first | omega | (simp only [List.length_map, List.length_take]; omega)) ?_) | fail) <;> try simp only [go_sem, simprocAttr, hc, hd]))
    refine c35 (r := r) hC (by omega) ?_
    rw [hbE, hV]
    (refine of_gate ?_; repeat' ((first | (with_reducible refine gate_in ?_) | (with_reducible refine spK_intro ?_ ?_ <;> intro hp) | (with_reducible refine brK_intro ?_ ?_ <;> intro hb <;> try rw [hb]) | (with_reducible refine draw_in (by unfold DrawOk; decide +kernel) ?_) | (with_reducible refine And.intro (by first | omega | (simp only [List.length_map, List.length_take]; omega)) ?_) | fail) <;> try simp only [go_sem, simprocAttr, hc, hd]))
    refine call_dat h38 ?_
    (refine of_gate ?_; repeat' ((first | (with_reducible refine gate_in ?_) | (with_reducible refine spK_intro ?_ ?_ <;> intro hp) | (with_reducible refine brK_intro ?_ ?_ <;> intro hb <;> try rw [hb]) | (with_reducible refine draw_in (by unfold DrawOk; decide +kernel) ?_) | (with_reducible apply c36) | (with_reducible refine And.intro (by first | omega | (simp only [List.length_map, List.length_take]; omega)) ?_) | fail) <;> try simp only [go_sem, simprocAttr, hW, bne_self_eq_false, beq_self_eq_true]))
theorem t9r (h0 : List Ev) (C : Int) (wC : (Lit.int .u32 C).wf = true) (r0 : List Int) : Holds Tryd.prog GL 9 [evsA h0, .d (.v (.int .u32 C)), intsA r0] [.a (B true)] := by
  obtain ⟨C, rfl, hC⟩ := u32_nat wC
  exact t9 h0 C hC r0
end Go.VC
end
