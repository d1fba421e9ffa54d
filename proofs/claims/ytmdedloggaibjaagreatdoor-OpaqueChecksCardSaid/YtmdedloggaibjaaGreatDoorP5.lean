/- Part 5 of the texts that stand behind the row: what the statement's functions do, and plain laws. -/
import Derived.RecoverIn
import Derived.Test.YtmdedloggaibjaaGreatDoorP4
set_option maxRecDepth 100000
set_option linter.unusedSimpArgs false
set_option linter.unusedVariables false
set_option linter.unnecessarySimpa false
set_option linter.defProp false
section
set_option maxRecDepth 100000
set_option linter.unusedSimpArgs false
set_option linter.unusedVariables false
set_option linter.unnecessarySimpa false
namespace Go.VC
open Go.RowKit Go.Proofs Go.IntWalk
def opsAt (l : List Txn) (i : Int) : List Op := match l[i.toNat]? with
  | some t => t.ops
  | none => []
def memTo (l : List Txn) (C : Nat) (r : List Int) : Nat → List Int
  | 0 => [0, 0, 0, 0, 0, 0, 0, 0]
  | k + 1 => match r[k]? with
    | some i => if C.testBit i.toNat = true then withF (memTo l C r k) (opsAt l i) else memTo l C r k
    | none => memTo l C r k
theorem memTo_len (l : List Txn) (C : Nat) (r : List Int) : ∀ k, (memTo l C r k).length = 8
  | 0 => rfl
  | k + 1 => by
    have ih := memTo_len l C r k
    simp only [memTo]
    split
    · split
      · rw [withF_len, ih]
      · exact ih
    · exact ih
def legBad (l : List Txn) (C : Nat) (r : List Int) (k : Nat) : Bool := match r[k]? with
  | some i => decide (ownF (opsAt l i) (memTo l C r k) < (opsAt l i).length)
  | none => false
def legalN (l : List Txn) (C : Nat) (r : List Int) : Nat := firstB (legBad l C r) r.length
def legV (h : List Ev) (r : List Int) (C : Nat) : Int := if mayE h r = 0 then (legalN (txns h) C r : Int) else 0
theorem may_in {h : List Ev} {r : List Int} (h0 : mayE h r = 0) : checkE h = 0 ∧ r.all (inT (txns h).length) = true ∧ noDup r 0 = true := by
  unfold mayE at h0
  split at h0
  · split at h0
    · split at h0
      · exact ⟨‹_›, ‹_›, ‹_›⟩
      · cases h0
    · cases h0
  · exact absurd h0 ‹_›
theorem t48 (h : List Ev) (r : List Int) (C : Nat) (hC : C < 2 ^ 32) : Holds Tryz.prog GL 51 [evsA h, intsA r, U C] [.a (I (legV h r C)), .a (I (mayE h r))] := by
  refine fn_holds_is (vs := [.tmp 6, .tmp 7]) (by kernel_rfl) Tryz.func51 rfl rfl (by kernel_rfl) (by kernel_rfl) rfl fun his => ?_
  have hlen := his.2.1.len
  rw [List.length_map] at hlen
  have h83 := t83 h r
  have hm0 : memTo (txns h) C r 0 = [0, 0, 0, 0, 0, 0, 0, 0] := rfl
  by_cases hM : mayE h r = 0
  · obtain ⟨hE, hin, _⟩ := may_in hM
    have hops := txns_ops hE
    have hl6 := txns_len6 h
    rw [hM, mayV, if_pos hM] at h83
    rw [hM, legV, if_pos hM]
    generalize txns h = l at *
    (refine rO ?_; repeat' ((with_reducible first | refine rG ?_ | (refine rS ?_ ?_ <;> intro hp) | (refine rB ?_ ?_ <;> intro hb <;> try rw [hb]) | refine rD ?_ | refine rA ?_ | fail) <;> try simp only [go_sem, simprocAttr]))
    refine call_dat h83 ?_
    (refine rO ?_; repeat' ((with_reducible first | refine rG ?_ | (refine rS ?_ ?_ <;> intro hp) | (refine rB ?_ ?_ <;> intro hb <;> try rw [hb]) | refine rD ?_ | refine rA ?_ | fail) <;> try simp only [go_sem, simprocAttr, List.length_map]))
    have hz : (List.map (fun d => R.a (.d d)) [dI 0, dI 0, dI 0, dI 0, dI 0, dI 0, dI 0, dI 0]) = memC (memTo l C r 0) := rfl
    refine awp_loopA (fun k : Nat => [(1, .a (intsA r)), (2, .a (U C)), (8, .a (txnsA l)), (10, .ref 10 0), (23, .a (intsA r)), (24, .a (I r.length)), (25, .a (I k))]) (fun k => [(10, .box (memC (memTo l C r k)))]) (fun k => k ≤ r.length ∧ ∀ i, i < k → legBad l C r i = false) (r.length - ·) 0 ?_ ?_ ⟨Nat.zero_le _, fun i hi => by omega⟩ ?_
    · simp only [go_sem, simprocAttr, List.length_map]
    · simp only [go_sem, simprocAttr, hm0]; try rfl
    intro k j ⟨hk, hq⟩
    (refine rO ?_; repeat' ((with_reducible first | refine rG ?_ | (refine rS ?_ ?_ <;> intro hp) | (refine rB ?_ ?_ <;> intro hb <;> try rw [hb]) | refine rD ?_ | refine rA ?_ | fail) <;> try simp only [go_sem, simprocAttr]))
    · have hkl : k < r.length := by omega
      have hw := wrap_succ hkl hlen
      obtain ⟨x, hx, hxl⟩ := inT_iff.1 (List.all_eq_true.1 hin r[k] (List.getElem_mem hkl))
      have hy : r[k]? = some (x : Int) := by rw [List.getElem?_eq_getElem hkl, hx]
      have ht : l[x]? = some l[x] := List.getElem?_eq_getElem hxl
      have ho := hops _ (List.getElem_mem hxl)
      have hoa : opsAt l (x : Int) = l[x].ops := by simp only [opsAt, Int.toNat_natCast, ht]
      have hml := memTo_len l C r k
      have hb : legBad l C r k = decide (ownF l[x].ops (memTo l C r k) < l[x].ops.length) := by simp only [legBad, hy, hoa]
      have hs : memTo l C r (k + 1) = if C.testBit x = true then withF (memTo l C r k) l[x].ops else memTo l C r k := by simp only [memTo, hy, hoa, Int.toNat_natCast]
      generalize l[x] = t at ht ho hb hs
      generalize memTo l C r k = M at hml hb hs
      have hwl : (withF M t.ops).length = 8 := by rw [withF_len, hml]
      have hbit := u32_bit (k := x) hC
      have hspl := memC_spl (Z := M) (M := withF M t.ops) hml hwl
      generalize C.testBit x = cb at hbit hs
      cases cb with
      | true =>
        simp only [if_true] at hbit hs
        (refine rO ?_; repeat' ((with_reducible first | refine rG ?_ | (refine rS ?_ ?_ <;> intro hp) | (refine rB ?_ ?_ <;> intro hb <;> try rw [hb]) | refine rD ?_ | refine rA ?_ | fail) <;> try simp only [go_sem, simprocAttr, hy, ienc_eq, ht, Txn.enc_eq, hw, memC_kill, memC_len, hml, memC_take hml, memC_all, Nat.zero_add, List.drop_zero]))
        refine call_dat (t84 t.ops M ho hml) ?_
        (refine rO ?_; repeat' ((with_reducible first | refine rG ?_ | (refine rS ?_ ?_ <;> intro hp) | (refine rB ?_ ?_ <;> intro hb <;> try rw [hb]) | refine rD ?_ | refine rA ?_ | fail) <;> try simp only [go_sem, simprocAttr, List.length_map, u32_shr (b := C) (k := x) (by omega), hbit, memC_len, hml, memC_take hml, memC_all, Nat.zero_add, List.drop_zero]))
        · rw [decide_eq_true (by omega)] at hb
          rw [legalN, firstB_hit hkl hq hb]
        · rw [decide_eq_false (by omega)] at hb
          refine call_dat (t85 t.ops M ho hml) ?_
          (refine rO ?_; repeat' ((with_reducible first | refine rG ?_ | (refine rS ?_ ?_ <;> intro hp) | (refine rB ?_ ?_ <;> intro hb <;> try rw [hb]) | refine rD ?_ | refine rA ?_ | fail) <;> try simp only [go_sem, simprocAttr, memC_len, hml, hwl, memC_fold, hspl]))
          (refine ⟨k + 1, ?_, ?_, ⟨hkl, nx_none hq hb⟩, by dsimp only; omega⟩ <;> simp only [go_sem, simprocAttr, hw, hs, memC_kill])
      | false =>
        simp only [Bool.false_eq_true, if_false] at hbit hs
        (refine rO ?_; repeat' ((with_reducible first | refine rG ?_ | (refine rS ?_ ?_ <;> intro hp) | (refine rB ?_ ?_ <;> intro hb <;> try rw [hb]) | refine rD ?_ | refine rA ?_ | fail) <;> try simp only [go_sem, simprocAttr, hy, ienc_eq, ht, Txn.enc_eq, hw, memC_kill, memC_len, hml, memC_take hml, memC_all, Nat.zero_add, List.drop_zero]))
        refine call_dat (t84 t.ops M ho hml) ?_
        (refine rO ?_; repeat' ((with_reducible first | refine rG ?_ | (refine rS ?_ ?_ <;> intro hp) | (refine rB ?_ ?_ <;> intro hb <;> try rw [hb]) | refine rD ?_ | refine rA ?_ | fail) <;> try simp only [go_sem, simprocAttr, List.length_map, u32_shr (b := C) (k := x) (by omega), hbit, memC_len, hml, memC_take hml, memC_all, Nat.zero_add, List.drop_zero]))
        · rw [decide_eq_true (by omega)] at hb
          rw [legalN, firstB_hit hkl hq hb]
        · rw [decide_eq_false (by omega)] at hb
          (refine ⟨k + 1, ?_, ?_, ⟨hkl, nx_none hq hb⟩, by dsimp only; omega⟩ <;> simp only [go_sem, simprocAttr, hw, hs, memC_kill])
    · have hN : legalN l C r = r.length := firstB_none (p := legBad l C r) (n := r.length) (fun i hi => hq i (by omega))
      rw [hN]
      (refine rO ?_; repeat' ((with_reducible first | refine rG ?_ | (refine rS ?_ ?_ <;> intro hp) | (refine rB ?_ ?_ <;> intro hb <;> try rw [hb]) | refine rD ?_ | refine rA ?_ | fail) <;> try simp only [go_sem, simprocAttr, List.length_map]))
  · rw [mayV, if_neg hM] at h83
    rw [legV, if_neg hM]
    generalize mayE h r = c at *
    generalize txns h = T at *
    (refine rO ?_; repeat' ((with_reducible first | refine rG ?_ | (refine rS ?_ ?_ <;> intro hp) | (refine rB ?_ ?_ <;> intro hb <;> try rw [hb]) | refine rD ?_ | refine rA ?_ | fail) <;> try simp only [go_sem, simprocAttr]))
    refine call_dat h83 ?_
    (refine rO ?_; repeat' ((with_reducible first | refine rG ?_ | (refine rS ?_ ?_ <;> intro hp) | (refine rB ?_ ?_ <;> intro hb <;> try rw [hb]) | refine rD ?_ | refine rA ?_ | fail) <;> try simp only [go_sem, simprocAttr, hM]))
end Go.VC
end
section
set_option maxRecDepth 100000
set_option linter.unusedSimpArgs false
set_option linter.unusedVariables false
set_option linter.unnecessarySimpa false
namespace Go.VC
open Go.RowKit Go.Proofs Go.IntWalk
abbrev Op.a (o : Op) : A := .ag [dB o.w, dI o.var, dI o.val]
abbrev memM (m : List Op) : A := .ag [.sl (m.map Op.enc)]
def withM (m : List Op) (ops : List Op) : List Op := ops.foldl (fun m o => if o.w then o :: m else m) m
def getM : List Op → Int → Int
  | [], _ => 0
  | o :: m, v => if o.var = v then o.val else getM m v
theorem withM_s {m ops : List Op} {k : Nat} (hk : k < ops.length) : withM m (ops.take (k + 1)) = if ops[k].w then ops[k] :: withM m (ops.take k) else withM m (ops.take k) := by
  rw [List.take_succ_eq_append_getElem hk, withM, List.foldl_append]; rfl
theorem withM_len : ∀ (ops m : List Op), (withM m ops).length ≤ m.length + ops.length
  | [], m => by simp [withM]
  | o :: ops, m => by
    show (withM (if o.w then o :: m else m) ops).length ≤ _
    have := withM_len ops (if o.w then o :: m else m)
    split at this
    · simp only [List.length_cons] at this ⊢; rename_i h; rw [if_pos h]; omega
    · simp only [List.length_cons] at this ⊢; rename_i h; rw [if_neg h]; omega
/-- Two memories are the same. -/
def MemRel (m : List Op) (ms : List Int) : Prop := ms.length = 8 ∧ ∀ v : Nat, v < 8 → ms.getD v 0 = getM m v
theorem MemRel.wrt {m : List Op} {ms : List Int} (h : MemRel m ms) (o : Op) (hv : 0 ≤ o.var ∧ o.var < 8) : MemRel (if o.w then o :: m else m) (wrt ms o) := by
  unfold VC.wrt
  split
  · refine ⟨by rw [List.length_set]; exact h.1, fun v hv8 => ?_⟩
    have := h.1
    rw [List.getD_eq_getElem?_getD, List.getElem?_set]
    by_cases e : o.var.toNat = v
    · rw [if_pos e, if_pos (by omega)]
      simp only [getM, Option.getD_some]
      rw [if_pos (by omega)]
    · rw [if_neg e, ← List.getD_eq_getElem?_getD, h.2 v hv8]
      simp only [getM]
      rw [if_neg (by omega)]
  · exact h
theorem MemRel.with_ : ∀ {ops m : List Op} {ms : List Int}, MemRel m ms → (∀ o ∈ ops, 0 ≤ o.var ∧ o.var < 8) → MemRel (withM m ops) (withF ms ops)
  | [], m, ms, h, _ => h
  | o :: ops, m, ms, h, ho => by
    show MemRel (withM (if o.w then o :: m else m) ops) (withF (VC.wrt ms o) ops)
    exact (h.wrt o (ho o (by simp))).with_ fun x hx => ho x (by simp [hx])
theorem t1233 (m : List Op) (o : Op) (hm : m.length ≤ 1000000000) : Holds Tryz.prog GL 95 [memM m, o.a] [.a (memM (o :: m))] := by
  refine fn_holds (vs := [.cell 4 105]) (by kernel_rfl) Tryz.func95 rfl rfl (by kernel_rfl) (by kernel_rfl) rfl ?_
  have hb : (1 + m.length) * 24 ≤ 140737488355328 := by omega
  (refine rO ?_; repeat' ((with_reducible first | refine rG ?_ | (refine rS ?_ ?_ <;> intro hp) | (refine rB ?_ ?_ <;> intro hb <;> try rw [hb]) | refine rD ?_ | refine rA ?_ | fail) <;> try simp only [go_sem, simprocAttr, List.length_map, ops_lenT, hb, Op.enc_eq]))
  refine SemOp.old ?_
  (refine rO ?_; repeat' ((with_reducible first | refine rG ?_ | (refine rS ?_ ?_ <;> intro hp) | (refine rB ?_ ?_ <;> intro hb <;> try rw [hb]) | refine rD ?_ | refine rA ?_ | fail) <;> try simp only [go_sem, simprocAttr, y_build0, List.map_cons, Op.enc_eq]))
theorem getM_drop {m : List Op} {k : Nat} {v : Int} (hk : k < m.length) : getM (m.drop k) v = if m[k].var = v then m[k].val else getM (m.drop (k + 1)) v := by
  rw [List.drop_eq_getElem_cons hk]; rfl
theorem t1207 (m : List Op) (v : Int) (hm : m.length ≤ 1000000000) : Holds Tryz.prog GL 73 [memM m, I v] [.a (I (getM m v))] := by
  refine fn_holds (vs := [.tmp 4]) (by kernel_rfl) Tryz.func73 rfl rfl (by kernel_rfl) (by kernel_rfl) rfl ?_
  (refine rO ?_; repeat' ((with_reducible first | refine rG ?_ | (refine rS ?_ ?_ <;> intro hp) | (refine rB ?_ ?_ <;> intro hb <;> try rw [hb]) | refine rD ?_ | refine rA ?_ | fail) <;> try simp only [go_sem, simprocAttr, List.length_map]))
  refine awp_loopA (fun k : Nat => [(1, .a (I v)), (8, .a (opsA' m)), (9, .a (I m.length)), (10, .a (I k))]) (fun _ => []) (fun k => k ≤ m.length ∧ getM m v = getM (m.drop k) v) (m.length - ·) 0 ?_ ?_ ⟨Nat.zero_le _, rfl⟩ ?_
  · simp only [go_sem, simprocAttr, List.length_map]
  · simp only [go_sem, simprocAttr]
  intro k j ⟨hk, hq⟩
  (refine rO ?_; repeat' ((with_reducible first | refine rG ?_ | (refine rS ?_ ?_ <;> intro hp) | (refine rB ?_ ?_ <;> intro hb <;> try rw [hb]) | refine rD ?_ | refine rA ?_ | fail) <;> try simp only [go_sem, simprocAttr]))
  · have hkl : k < m.length := by omega
    have hx : m[k]? = some m[k] := List.getElem?_eq_getElem hkl
    have hw := wrap_succ (n := m.length) hkl (by simp only [maxLen]; omega)
    rw [getM_drop hkl] at hq
    generalize m[k] = o at hx hq
    (refine rO ?_; repeat' ((with_reducible first | refine rG ?_ | (refine rS ?_ ?_ <;> intro hp) | (refine rB ?_ ?_ <;> intro hb <;> try rw [hb]) | refine rD ?_ | refine rA ?_ | fail) <;> try simp only [go_sem, simprocAttr, hx, Op.enc_eq, hw]))
    · rw [hq, if_pos ‹_›]
    · rw [if_neg ‹_›] at hq
      (refine ⟨k + 1, ?_, ?_, ⟨hkl, hq⟩, by dsimp only; omega⟩ <;> simp only [go_sem, simprocAttr, hw])
  · rw [hq, List.drop_eq_nil_of_le (by omega)]; rfl
theorem q1207 {m : List Op} {v : Int} {hm : m.length ≤ 1000000000} {σ : S} {KR : R → Prop} (hK : KR (retR [(I (getM m v))])) : callVQ Tryz.prog GL 73 [.a (memM m), .a (I v)] σ KR :=
  callQ_dat (res := [(I (getM m v))]) (t1207 m v hm) hK
theorem t1208 (m ops : List Op) (hm : m.length ≤ 100000000) (ho : ops.length ≤ 1000000) : Holds Tryz.prog GL 74 [memM m, opsA' ops] [.a (memM (withM m ops))] := by
  refine fn_holds (vs := [.cell 4 105]) (by kernel_rfl) Tryz.func74 rfl rfl (by kernel_rfl) (by kernel_rfl) rfl ?_
  (refine rO ?_; repeat' ((with_reducible first | refine rG ?_ | (refine rS ?_ ?_ <;> intro hp) | (refine rB ?_ ?_ <;> intro hb <;> try rw [hb]) | refine rD ?_ | refine rA ?_ | fail) <;> try simp only [go_sem, simprocAttr, List.length_map]))
  refine awp_loopA (fun k : Nat => [(2, .ref 2 0), (4, .ref 4 0), (7, .a (opsA' ops)), (8, .a (I ops.length)), (9, .a (I k))]) (fun k => [(2, .box [.a (opsA' (withM m (ops.take k)))]), (4, .box [.a (.d (.sl []))])]) (fun k => k ≤ ops.length) (ops.length - ·) 0 ?_ ?_ (Nat.zero_le _) ?_
  · simp only [go_sem, simprocAttr, List.length_map]
  · simp only [go_sem, simprocAttr, List.take_zero]; try rfl
  intro k j hk
  (refine rO ?_; repeat' ((with_reducible first | refine rG ?_ | (refine rS ?_ ?_ <;> intro hp) | (refine rB ?_ ?_ <;> intro hb <;> try rw [hb]) | refine rD ?_ | refine rA ?_ | fail) <;> try simp only [go_sem, simprocAttr, List.length_map]))
  · have hkl : k < ops.length := by omega
    have hx : ops[k]? = some ops[k] := List.getElem?_eq_getElem hkl
    have hw := wrap_succ (n := ops.length) hkl (by simp only [maxLen]; omega)
    have hs := withM_s (m := m) hkl
    have hl := withM_len (ops.take k) m
    rw [List.length_take] at hl
    generalize ops[k] = o at hx hs
    generalize withM m (ops.take k) = M at hs hl
    cases how : o.w with
    | true =>
      rw [how, if_pos rfl] at hs
      (refine rO ?_; repeat' ((with_reducible first | refine rG ?_ | (refine rS ?_ ?_ <;> intro hp) | (refine rB ?_ ?_ <;> intro hb <;> try rw [hb]) | refine rD ?_ | refine rA ?_ | fail) <;> try simp only [go_sem, simprocAttr, hx, Op.enc_eq, how, hw]))
      have h33 := t1233 M o (by omega)
      rw [show o.a = .ag [dB true, dI o.var, dI o.val] by rw [Op.a, how]] at h33
      refine call_dat h33 ?_
      (refine rO ?_; repeat' ((with_reducible first | refine rG ?_ | (refine rS ?_ ?_ <;> intro hp) | (refine rB ?_ ?_ <;> intro hb <;> try rw [hb]) | refine rD ?_ | refine rA ?_ | fail) <;> try simp only [go_sem, simprocAttr, hw]))
      refine ⟨k + 1, ?_, ?_, hkl, by dsimp only; omega⟩
      · simp only [go_sem, simprocAttr, hw]
      · simp only [go_sem, simprocAttr, hs]; rfl
    | false =>
      rw [how] at hs
      simp only [Bool.false_eq_true, if_false] at hs
      (refine rO ?_; repeat' ((with_reducible first | refine rG ?_ | (refine rS ?_ ?_ <;> intro hp) | (refine rB ?_ ?_ <;> intro hb <;> try rw [hb]) | refine rD ?_ | refine rA ?_ | fail) <;> try simp only [go_sem, simprocAttr, hx, Op.enc_eq, how, hw]))
      (refine ⟨k + 1, ?_, ?_, hkl, by dsimp only; omega⟩ <;> simp only [go_sem, simprocAttr, hw, hs])
  · rw [List.take_of_length_le (by omega)]
theorem q1208 {m : List Op} {ops : List Op} {hm : m.length ≤ 100000000} {ho : ops.length ≤ 1000000} {σ : S} {KR : R → Prop} (hK : KR (retR [(memM (withM m ops))])) : callVQ Tryz.prog GL 74 [.a (memM m), .a (opsA' ops)] σ KR :=
  callQ_dat (res := [(memM (withM m ops))]) (t1208 m ops hm ho) hK
theorem t1163 (ops m : List Op) (ms : List Int) (hR : MemRel m ms) (ho : OpsIn ops) (hm : m.length ≤ 10000000) : Holds Tryz.prog GL 62 [opsA' ops, memM m] [.a (I (ownF ops ms))] := by
  refine fn_holds (vs := [.tmp 4]) (by kernel_rfl) Tryz.func62 rfl rfl (by kernel_rfl) (by kernel_rfl) rfl ?_
  have hlo := ho.1
  (refine rO ?_; repeat' ((with_reducible first | refine rG ?_ | (refine rS ?_ ?_ <;> intro hp) | (refine rB ?_ ?_ <;> intro hb <;> try rw [hb]) | refine rD ?_ | refine rA ?_ | fail) <;> try simp only [go_sem, simprocAttr, List.length_map]))
  refine awp_loopA (fun k : Nat => [(0, .a (opsA' ops)), (3, .ref 3 0), (7, .a (opsA' ops)), (8, .a (I ops.length)), (9, .a (I k))]) (fun k => [(3, .box [.a (opsA' m)])]) (fun k => k ≤ ops.length ∧ ∀ i, i < k → badOp ms ops i = false) (ops.length - ·) 0 ?_ ?_ ⟨Nat.zero_le _, fun i hi => by omega⟩ ?_
  · simp only [go_sem, simprocAttr, List.length_map]
  · simp only [go_sem, simprocAttr]; try rfl
  intro k j ⟨hk, hl⟩
  (refine rO ?_; repeat' ((with_reducible first | refine rG ?_ | (refine rS ?_ ?_ <;> intro hp) | (refine rB ?_ ?_ <;> intro hb <;> try rw [hb]) | refine rD ?_ | refine rA ?_ | fail) <;> try simp only [go_sem, simprocAttr, List.length_map]))
  · have hkl : k < ops.length := by omega
    have hx : ops[k]? = some ops[k] := List.getElem?_eq_getElem hkl
    have hw := wrap_succ (n := ops.length) hkl (by simp only [maxLen]; omega)
    have hv := ho.2 _ (List.getElem_mem hkl)
    have hb : badOp ms ops k = (!ops[k].w && !decide ((withF ms (ops.take k)).getD ops[k].var.toNat 0 = ops[k].val)) := by simp only [badOp, hx]
    have hRk := hR.with_ (ops := ops.take k) fun o ho' => ho.2 o (List.mem_of_mem_take ho')
    have hg := hRk.2 ops[k].var.toNat (by omega)
    rw [show ((ops[k].var.toNat : Nat) : Int) = ops[k].var by omega] at hg
    rw [hg] at hb
    have hwl := withM_len (ops.take k) m
    rw [List.length_take] at hwl
    have htl : (ops.take k).length ≤ 1000000 := by rw [List.length_take]; omega
    have htk : List.take k (ops.map Op.enc) = (ops.take k).map Op.enc := by rw [List.map_take]
    have hkI : (k : Int) ≤ (ops.length : Int) := by omega
    generalize ops[k] = o at hx hv hb
    have h08 := fun {σ : S} {KR : R → Prop} => @q1208 m (ops.take k) (by omega) htl σ KR
    generalize withM m (ops.take k) = M at hb hwl h08
    cases how : o.w with
    | true =>
      rw [how, Bool.not_true, Bool.false_and] at hb
      (refine rO ?_; repeat' ((with_reducible first | refine rG ?_ | (refine rS ?_ ?_ <;> intro hp) | (refine rB ?_ ?_ <;> intro hb <;> try rw [hb]) | refine rD ?_ | refine rA ?_ | fail) <;> try simp only [go_sem, simprocAttr, hx, Op.enc_eq, how, hw]))
      (refine ⟨k + 1, ?_, ?_, ⟨hkl, nx_none hl hb⟩, by dsimp only; omega⟩ <;> simp only [go_sem, simprocAttr, hw])
    | false =>
      (refine rO ?_; repeat' ((with_reducible first | refine rG ?_ | (refine rS ?_ ?_ <;> intro hp) | (refine rB ?_ ?_ <;> intro hb <;> try rw [hb]) | refine rD ?_ | refine rA ?_ | fail) <;> try simp only [go_sem, simprocAttr, hx, Op.enc_eq, how, hw, htk, hkI, List.length_map, Int.toNat_zero, List.drop_zero, ops_lenT]))
      refine h08 ?_
      (refine rO ?_; repeat' ((with_reducible first | refine rG ?_ | (refine rS ?_ ?_ <;> intro hp) | (refine rB ?_ ?_ <;> intro hb <;> try rw [hb]) | refine rD ?_ | refine rA ?_ | fail) <;> try simp only [go_sem, simprocAttr, hx, Op.enc_eq, how, hw]))
      refine q1207 (hm := by omega) ?_
      generalize getM M o.var = y at hb
      (refine rO ?_; repeat' ((with_reducible first | refine rG ?_ | (refine rS ?_ ?_ <;> intro hp) | (refine rB ?_ ?_ <;> intro hb <;> try rw [hb]) | refine rD ?_ | refine rA ?_ | fail) <;> try simp only [go_sem, simprocAttr, hx, Op.enc_eq, how, hw]))
      · rw [how, decide_eq_true ‹y = o.val›] at hb
        (refine ⟨k + 1, ?_, ?_, ⟨hkl, nx_none hl hb⟩, by dsimp only; omega⟩ <;> simp only [go_sem, simprocAttr, hw])
      · rw [how, decide_eq_false ‹¬ y = o.val›] at hb
        rw [ownF, firstB_hit hkl hl hb]
  · rw [ownF, firstB_none (p := badOp ms ops) (n := ops.length) (fun i hi => hl i (by omega))]
theorem q1163 {ops : List Op} {m : List Op} {ms : List Int} {hR : MemRel m ms} {ho : OpsIn ops} {hm : m.length ≤ 10000000} {σ : S} {KR : R → Prop} (hK : KR (retR [(I (ownF ops ms))])) : callVQ Tryz.prog GL 62 [.a (opsA' ops), .a (memM m)] σ KR :=
  callQ_dat (res := [(I (ownF ops ms))]) (t1163 ops m ms hR ho hm) hK
def behTo (l : List Txn) (C : Nat) (r : List Int) : Nat → List Op
  | 0 => []
  | k + 1 => match r[k]? with
    | some i => if C.testBit i.toNat = true then withM (behTo l C r k) (opsAt l i) else behTo l C r k
    | none => behTo l C r k
theorem opsAt_len {l : List Txn} (hl : ∀ t ∈ l, OpsIn t.ops) (i : Int) : OpsIn (opsAt l i) := by
  unfold opsAt
  split
  · rename_i t ht; exact hl t (List.mem_of_getElem? ht)
  · exact ⟨by simp, fun o ho => by cases ho⟩
theorem behTo_len {l : List Txn} (hl : ∀ t ∈ l, OpsIn t.ops) (C : Nat) (r : List Int) : ∀ k, (behTo l C r k).length ≤ k * 1000000
  | 0 => by simp [behTo]
  | k + 1 => by
    have ih := behTo_len hl C r k
    have hk : (k + 1) * 1000000 = k * 1000000 + 1000000 := Nat.succ_mul _ _
    rw [hk]
    generalize k * 1000000 = N at ih
    simp only [behTo]
    cases r[k]? with
    | none => exact Nat.le_trans ih (Nat.le_add_right _ _)
    | some i =>
      have h1 := withM_len (opsAt l i) (behTo l C r k)
      have h2 : (opsAt l i).length ≤ 1000000 := (opsAt_len hl i).1
      simp only []
      by_cases hc : C.testBit i.toNat = true
      · rw [if_pos hc]; exact Nat.le_trans h1 (Nat.add_le_add ih h2)
      · rw [if_neg hc]; exact Nat.le_trans ih (Nat.le_add_right _ _)
theorem behTo_take {l : List Txn} {C : Nat} {r : List Int} {n : Nat} : ∀ k, k ≤ n → behTo l C (r.take n) k = behTo l C r k
  | 0, _ => rfl
  | k + 1, hk => by
    simp only [behTo, behTo_take (l := l) (C := C) (r := r) (n := n) k (by omega), List.getElem?_take]
    rw [if_pos (by omega)]
theorem beh_rel {l : List Txn} (hl : ∀ t ∈ l, OpsIn t.ops) (C : Nat) (r : List Int) : ∀ k, MemRel (behTo l C r k) (memTo l C r k)
  | 0 => ⟨rfl, fun v hv => by
    have : v = 0 ∨ v = 1 ∨ v = 2 ∨ v = 3 ∨ v = 4 ∨ v = 5 ∨ v = 6 ∨ v = 7 := by omega
    rcases this with rfl | rfl | rfl | rfl | rfl | rfl | rfl | rfl <;> rfl⟩
  | k + 1 => by
    have ih := beh_rel hl C r k
    simp only [behTo, memTo]
    cases r[k]? with
    | none => exact ih
    | some i =>
      simp only []
      by_cases hc : C.testBit i.toNat = true
      · rw [if_pos hc, if_pos hc]; exact ih.with_ (opsAt_len hl _).2
      · rw [if_neg hc, if_neg hc]; exact ih
theorem t1164 (l : List Txn) (r : List Int) (C : Nat) (hC : C < 2 ^ 32) (hl : ∀ t ∈ l, OpsIn t.ops) (hin : r.all (inT l.length) = true) (hr : r.length ≤ 9) (hl1 : l.length ≤ 1000) : Holds Tryz.prog GL 63 [txnsA l, intsA r, U C] [.a (memM (behTo l C r r.length))] := by
  refine fn_holds (vs := [.cell 6 105]) (by kernel_rfl) Tryz.func63 rfl rfl (by kernel_rfl) (by kernel_rfl) rfl ?_
  (refine rO ?_; repeat' ((with_reducible first | refine rG ?_ | (refine rS ?_ ?_ <;> intro hp) | (refine rB ?_ ?_ <;> intro hb <;> try rw [hb]) | refine rD ?_ | refine rA ?_ | fail) <;> try simp only [go_sem, simprocAttr, List.length_map]))
  refine SemOp.old ?_
  (refine rO ?_; repeat' ((with_reducible first | refine rG ?_ | (refine rS ?_ ?_ <;> intro hp) | (refine rB ?_ ?_ <;> intro hb <;> try rw [hb]) | refine rD ?_ | refine rA ?_ | fail) <;> try simp only [go_sem, simprocAttr, y_build0]))
  refine awp_loopA (fun k : Nat => [(0, .a (txnsA l)), (2, .a (U C)), (6, .ref 6 0), (7, .ref 7 0), (11, .a (intsA r)), (12, .a (I r.length)), (13, .a (I k))]) (fun k => [(6, .box [.a (.d (.sl []))]), (7, .box [.a (opsA' (behTo l C r k))])]) (fun k => k ≤ r.length) (r.length - ·) 0 ?_ ?_ (Nat.zero_le _) ?_
  · simp only [go_sem, simprocAttr, List.length_map]
  · simp only [go_sem, simprocAttr]; try rfl
  intro k j hk
  (refine rO ?_; repeat' ((with_reducible first | refine rG ?_ | (refine rS ?_ ?_ <;> intro hp) | (refine rB ?_ ?_ <;> intro hb <;> try rw [hb]) | refine rD ?_ | refine rA ?_ | fail) <;> try simp only [go_sem, simprocAttr, List.length_map]))
  · have hkl : k < r.length := by omega
    have hw := wrap_succ (n := r.length) hkl (by simp only [maxLen]; omega)
    obtain ⟨x, hx, hxl⟩ := inT_iff.1 (List.all_eq_true.1 hin r[k] (List.getElem_mem hkl))
    have hy : r[k]? = some (x : Int) := by rw [List.getElem?_eq_getElem hkl, hx]
    have ht : l[x]? = some l[x] := List.getElem?_eq_getElem hxl
    have hoa : opsAt l (x : Int) = l[x].ops := by simp only [opsAt, Int.toNat_natCast, ht]
    have hs : behTo l C r (k + 1) = if C.testBit x = true then withM (behTo l C r k) l[x].ops else behTo l C r k := by simp only [behTo, hy, hoa, Int.toNat_natCast]
    have hbl := behTo_len hl C r k
    have hol := (hl _ (List.getElem_mem hxl)).1
    generalize l[x] = t at ht hs hol
    generalize behTo l C r k = M at hs hbl
    (refine rO ?_; repeat' ((with_reducible first | refine rG ?_ | (refine rS ?_ ?_ <;> intro hp) | (refine rB ?_ ?_ <;> intro hb <;> try rw [hb]) | refine rD ?_ | refine rA ?_ | fail) <;> try simp only [go_sem, simprocAttr, hy, ienc_eq, hw]))
    refine call_dat (t100 C x hC (by omega)) ?_
    generalize C.testBit x = cb at hs
    cases cb with
    | true =>
      simp only [if_true] at hs
      (refine rO ?_; repeat' ((with_reducible first | refine rG ?_ | (refine rS ?_ ?_ <;> intro hp) | (refine rB ?_ ?_ <;> intro hb <;> try rw [hb]) | refine rD ?_ | refine rA ?_ | fail) <;> try simp only [go_sem, simprocAttr, hy, ht, Txn.enc_eq, hw]))
      refine q1208 (hm := by omega) (ho := hol) ?_
      (refine rO ?_; repeat' ((with_reducible first | refine rG ?_ | (refine rS ?_ ?_ <;> intro hp) | (refine rB ?_ ?_ <;> intro hb <;> try rw [hb]) | refine rD ?_ | refine rA ?_ | fail) <;> try simp only [go_sem, simprocAttr, hw]))
      (refine ⟨k + 1, ?_, ?_, hkl, by dsimp only; omega⟩ <;> simp only [go_sem, simprocAttr, hw, hs])
    | false =>
      simp only [Bool.false_eq_true, if_false] at hs
      (refine rO ?_; repeat' ((with_reducible first | refine rG ?_ | (refine rS ?_ ?_ <;> intro hp) | (refine rB ?_ ?_ <;> intro hb <;> try rw [hb]) | refine rD ?_ | refine rA ?_ | fail) <;> try simp only [go_sem, simprocAttr, hw]))
      (refine ⟨k + 1, ?_, ?_, hkl, by dsimp only; omega⟩ <;> simp only [go_sem, simprocAttr, hw, hs])
  · obtain rfl : k = r.length := by omega
    rfl
theorem q1164 {l : List Txn} {r : List Int} {C : Nat} {hC : C < 2 ^ 32} {hl : ∀ t ∈ l, OpsIn t.ops} {hin : r.all (inT l.length) = true} {hr : r.length ≤ 9} {hl1 : l.length ≤ 1000} {σ : S} {KR : R → Prop} (hK : KR (retR [(memM (behTo l C r r.length))])) : callVQ Tryz.prog GL 63 [.a (txnsA l), .a (intsA r), .a (U C)] σ KR :=
  callQ_dat (res := [(memM (behTo l C r r.length))]) (t1164 l r C hC hl hin hr hl1) hK
theorem t1102 (l : List Txn) (r : List Int) (C : Nat) (hC : C < 2 ^ 32) (hl : ∀ t ∈ l, OpsIn t.ops) (hin : r.all (inT l.length) = true) (hr : r.length ≤ 9) (hl1 : l.length ≤ 1000) : Holds Tryz.prog GL 42 [txnsA l, intsA r, U C] [.a (I (legalN l C r))] := by
  refine fn_holds (vs := [.tmp 6]) (by kernel_rfl) Tryz.func42 rfl rfl (by kernel_rfl) (by kernel_rfl) rfl ?_
  (refine rO ?_; repeat' ((with_reducible first | refine rG ?_ | (refine rS ?_ ?_ <;> intro hp) | (refine rB ?_ ?_ <;> intro hb <;> try rw [hb]) | refine rD ?_ | refine rA ?_ | fail) <;> try simp only [go_sem, simprocAttr, List.length_map]))
  refine awp_loopA (fun k : Nat => [(0, .a (txnsA l)), (1, .a (intsA r)), (2, .a (U C)), (9, .a (intsA r)), (10, .a (I r.length)), (11, .a (I k))]) (fun _ => []) (fun k => k ≤ r.length ∧ ∀ i, i < k → legBad l C r i = false) (r.length - ·) 0 ?_ ?_ ⟨Nat.zero_le _, fun i hi => by omega⟩ ?_
  · simp only [go_sem, simprocAttr, List.length_map]
  · simp only [go_sem, simprocAttr]
  intro k j ⟨hk, hq⟩
  (refine rO ?_; repeat' ((with_reducible first | refine rG ?_ | (refine rS ?_ ?_ <;> intro hp) | (refine rB ?_ ?_ <;> intro hb <;> try rw [hb]) | refine rD ?_ | refine rA ?_ | fail) <;> try simp only [go_sem, simprocAttr, List.length_map]))
  · have hkl : k < r.length := by omega
    have hw := wrap_succ (n := r.length) hkl (by simp only [maxLen]; omega)
    obtain ⟨x, hx, hxl⟩ := inT_iff.1 (List.all_eq_true.1 hin r[k] (List.getElem_mem hkl))
    have hy : r[k]? = some (x : Int) := by rw [List.getElem?_eq_getElem hkl, hx]
    have ht : l[x]? = some l[x] := List.getElem?_eq_getElem hxl
    have ho := hl _ (List.getElem_mem hxl)
    have hoa : opsAt l (x : Int) = l[x].ops := by simp only [opsAt, Int.toNat_natCast, ht]
    have hb : legBad l C r k = decide (ownF l[x].ops (memTo l C r k) < l[x].ops.length) := by simp only [legBad, hy, hoa]
    have hrel := beh_rel hl C r k
    have hbl := behTo_len hl C r k
    have htl : (r.take k).length = k := by rw [List.length_take]; omega
    have htin : (r.take k).all (inT l.length) = true := by
      rw [List.all_eq_true] at hin ⊢
      exact fun y hy => hin y (List.mem_of_mem_take hy)
    have hbt : behTo l C (r.take k) (r.take k).length = behTo l C r k := by rw [htl]; exact behTo_take k (Nat.le_refl _)
    have h64 := fun {σ : S} {KR : R → Prop} => @q1164 l (r.take k) C hC hl htin (by omega) hl1 σ KR
    rw [hbt] at h64
    have htk : List.take k (r.map ienc) = (r.take k).map ienc := by rw [List.map_take]
    have hkI : (k : Int) ≤ (r.length : Int) := by omega
    generalize l[x] = t at ht hb ho
    generalize behTo l C r k = M at hrel hbl h64
    generalize memTo l C r k = ms at hb hrel
    (refine rO ?_; repeat' ((with_reducible first | refine rG ?_ | (refine rS ?_ ?_ <;> intro hp) | (refine rB ?_ ?_ <;> intro hb <;> try rw [hb]) | refine rD ?_ | refine rA ?_ | fail) <;> try simp only [go_sem, simprocAttr, hy, ienc_eq, hw, ht, Txn.enc_eq, htk, hkI, List.length_map, Int.toNat_zero, List.drop_zero]))
    refine h64 ?_
    (refine rO ?_; repeat' ((with_reducible first | refine rG ?_ | (refine rS ?_ ?_ <;> intro hp) | (refine rB ?_ ?_ <;> intro hb <;> try rw [hb]) | refine rD ?_ | refine rA ?_ | fail) <;> try simp only [go_sem, simprocAttr, hy, ht, Txn.enc_eq]))
    refine q1163 (hR := hrel) (ho := ho) (hm := by omega) ?_
    (refine rO ?_; repeat' ((with_reducible first | refine rG ?_ | (refine rS ?_ ?_ <;> intro hp) | (refine rB ?_ ?_ <;> intro hb <;> try rw [hb]) | refine rD ?_ | refine rA ?_ | fail) <;> try simp only [go_sem, simprocAttr, hy, ht, Txn.enc_eq, List.length_map, hw]))
    · rw [decide_eq_true (by omega)] at hb
      rw [legalN, firstB_hit hkl hq hb]
    · rw [decide_eq_false (by omega)] at hb
      (refine ⟨k + 1, ?_, ?_, ⟨hkl, nx_none hq hb⟩, by dsimp only; omega⟩ <;> simp only [go_sem, simprocAttr, hw])
  · rw [legalN, firstB_none (p := legBad l C r) (n := r.length) (fun i hi => hq i (by omega))]
end Go.VC
end
section
set_option maxRecDepth 100000
set_option linter.unusedSimpArgs false
set_option linter.unusedVariables false
namespace Go.VC
open Go.RowKit Go.Proofs
/-- What a call does that may turn the caller's objects, or panic. -/
def InlP (P : Program) (gl : Nat → Option (List D)) (f : FuncId) (rs : List R) (σ : S) (K : S → List R → Prop) (KP : TypeId → R → S → Prop) : Prop :=
  FnOk P f ∧ ∀ (c : Cx) (β : Nat → Value) (a : Act) (w : World) (vs : List Value), c.P = P → c.gl = gl → Sim c σ β a w → F2 (RelR β (stF c σ β w) w) vs rs →
    Calls P f vs.toArray w fun e w' => (∃ (us : List Value) (rs' : List R) (σ' : S) (β' : Nat → Value), e = .returned (retV us) ∧ Sim c σ' β' a w' ∧ F2 (RelR β' (stF c σ' β' w') w') us rs' ∧ K σ' rs') ∨
      (∃ (t : TypeId) (v : Value) (r : R) (σ' : S) (β' : Nat → Value), e = .panicked [{ v := .iface t v, recovered := false }] ∧ Sim c σ' β' a w' ∧ RelR β' (stF c σ' β' w') w' v r ∧ KP t r σ')
section
variable {P : Program} {gl : Nat → Option (List D)} {σ : S} {Q : Ex → S → Prop}
theorem sc_awp {code : Code} (h : awp P gl code Q σ) : SemCode P gl code Q σ := fun c β a w ρ n hP hgl hm hd hp hs => by
  subst hP; subst hgl; exact awp_sound hm code hd hp h hs
theorem sc_seq {x y : Code} (h : SemCode P gl x (Ex.then (SemCode P gl y Q) Q) σ) : SemCode P gl (.seq x y) Q σ := fun c β a w ρ n hP hgl hm hd hp hs => by
  simp only [dstOK, Bool.and_eq_true] at hd
  refine wpIn_seq (wpIn_mono (h c β a w ρ n hP hgl hm hd.1 (np_l hp) hs) fun e a w he => ?_)
  cases e with
  | normal => obtain ⟨σ', β', hs', hk⟩ := he; exact hk c β' a w ρ n hP hgl hm hd.2 (np_r hp) hs'
  | exit id => exact he
  | ret => exact he
  | goto l => exact he
  | panic ch => exact he
  | outgrown => exact he
theorem sc_cond {x : Operand} {y z : Code} {b : Bool} (hb : σ.eval gl x = .a (.d (.v (.bool b)))) (hy : b = true → SemCode P gl y Q σ) (hz : b = false → SemCode P gl z Q σ) : SemCode P gl (.cond x y z) Q σ := fun c β a w ρ n hP hgl hm hd hp hs => by
  simp only [dstOK, Bool.and_eq_true] at hd
  have hv := hs.eval x
  rw [hgl, hb] at hv
  exact wpIn_cond_split hv.inv_v (fun e => hy e c β a w ρ n hP hgl hm hd.1 (np_l hp) hs) (fun e => hz e c β a w ρ n hP hgl hm hd.2 (np_r hp) hs)
theorem sc_block {id : Nat} {x : Code} (h : SemCode P gl x (Ex.inBlock id Q) σ) : SemCode P gl (.block id x) Q σ := fun c β a w ρ n hP hgl hm hd hp hs => by
  refine wpIn_block (wpIn_mono (h c β a w ρ n hP hgl hm hd hp hs) fun e a w he => ?_)
  cases e with
  | normal => exact he
  | exit id' =>
    obtain ⟨σ', β', hs', hk⟩ := he
    simp only [Ex.inBlock] at hk
    simp only [Exit.inBlock]
    split at hk
    · rw [if_pos ‹_›]; exact ⟨σ', β', hs', hk⟩
    · rw [if_neg ‹_›]; exact ⟨σ', β', hs', hk⟩
  | ret => exact he
  | goto l => exact he
  | panic ch => exact he
  | outgrown => exact he
theorem sc_loop {α : Type} (Inv : α → S → Prop) (m : α → Nat) {x : Code} (a0 : α) (h0 : ∃ σ', Ghost σ σ' ∧ Inv a0 σ')
    (h : ∀ a τ, Inv a τ → SemCode P gl x (Ex.then (fun σ' => ∃ σ'' a', Ghost σ' σ'' ∧ Inv a' σ'' ∧ m a' < m a) Q) τ) : SemCode P gl (.loop x) Q σ := by
  intro c β a w ρ n hP hgl hm hd hp hs b k cs hro hb hr
  have key : ∀ (N : Nat) (a0 : α) (τ : S) (β : Nat → Value) (a : Act) (w : World), m a0 = N → Inv a0 τ → Sim c τ β a w →
      ∃ e a' w', Qh c Q e a' w' ∧ ArrivesIn (Machine.fenced c.P (WF ρ)) c.P (lone (b.atR a (.code x :: .inLoop x :: k)) cs w) b k cs e a' w' := by
    intro N
    induction N using Nat.strongRecOn with
    | _ N ih =>
      intro a0 τ β a w hN hI hs
      obtain ⟨e, a₁, w₁, hq, harr⟩ := h a0 τ hI c β a w ρ n hP hgl hm hd hp hs b (.inLoop x :: k) cs hro hb hr
      cases e with
      | normal =>
        obtain ⟨σ', β', hs', σ'', a', hg, hI', hlt⟩ := hq
        obtain ⟨β'', hs''⟩ := hg c β' a₁ w₁ hs'
        obtain ⟨e₂, a₂, w₂, hq₂, harr₂⟩ := ih (m a') (by omega) a' σ'' β'' a₁ w₁ rfl hI' hs''
        exact ⟨e₂, a₂, w₂, hq₂, .of_steps (StepsIn.trans harr (.one (fenced_calm hb hr rfl) stepR_inLoop)) harr₂⟩
      | exit id => exact ⟨.exit id, a₁, w₁, hq, .pass (x := .inLoop x) rfl (fun _ _ => .inl (by simp)) harr⟩
      | ret => exact ⟨.ret, a₁, w₁, hq, .pass (x := .inLoop x) rfl (fun _ _ => .inl (by simp)) harr⟩
      | goto l => exact hq.elim
      | panic ch => exact ⟨.panic ch, a₁, w₁, hq, .pass (x := .inLoop x) rfl (fun _ _ => .inl (by simp)) harr⟩
      | outgrown => exact hq.elim
  obtain ⟨σ', hg, hI⟩ := h0
  obtain ⟨β', hs'⟩ := hg c β a w hs
  obtain ⟨e, a', w', hq, harr⟩ := key _ a0 σ' β' a w rfl hI hs'
  exact ⟨e, a', w', hq, .of_steps (.one (fenced_calm hb hr rfl) stepR_loop) harr⟩
/-- At some point of a piece of code the same memory may be told otherwise. -/
theorem sc_ghost {code : Code} {σ' : S} (g : Ghost σ σ') (h : SemCode P gl code Q σ') : SemCode P gl code Q σ := fun c β a w ρ n hP hgl hm hd hp hs =>
  let ⟨β', hs'⟩ := g c β a w hs; h c β' a w ρ n hP hgl hm hd hp hs'
/-- The rest of a region, by what it does. -/
def RawL (P : Program) (gl : Nat → Option (List D)) (l : List Oper) (Q : Ex → S → Prop) (σ : S) : Prop :=
  ∀ (c : Cx) (β : Nat → Value) (a : Act) (w : World) (ρ : Option Nat) (n : Nat) (ops : Array Oper), c.P = P → c.gl = gl → (∀ o ∈ l, ∀ d, o.dst = some d → d < c.N) → Sim c σ β a w → wpListIn (WF ρ) n c.P ops (Qh c Q) l a w
theorem sc_region {id : Nat} {l : List Oper} (h : RawL P gl l Q σ) : SemCode P gl (.region id l.toArray false) Q σ := fun c β a w ρ n hP hgl hm hd hp hs =>
  wpIn_region_list (by
    have hdst : ∀ o ∈ l, ∀ d, o.dst = some d → d < c.N := fun o ho d hod => by
      have := List.all_eq_true.1 hd o (by simpa using ho)
      rw [hod] at this
      simpa using this
    simpa using h c β a w ρ n _ hP hgl hdst hs)
theorem wanted_none {o : Oper} {t : Nat → Option Bool} (h : o.guard = none) : Region.wanted o t = true := by unfold Region.wanted; rw [h]
theorem raw_cons {o : Oper} {rest : List Oper} (hg : o.guard = none) (h : opA P gl o σ (RawL P gl rest Q)) : RawL P gl (o :: rest) Q σ := fun c β a w ρ n ops hP hgl hd hs => by
  subst hP; subst hgl
  simp only [wpListIn, wanted_none hg, if_true]
  refine opA_sound hs (hd o (by simp)) h ρ n _ _ ?_
  rintro v w' ⟨σ', β', hk', h'⟩
  exact hk' c β' _ w' ρ n ops rfl rfl (fun o ho => hd o (by simp [ho])) h'
/-- A call that may panic, at a region's end. -/
theorem raw_call {dst : Option Tmp} {k : Call} {f : Operand} {g : FuncId} {ty : TypeId} {pos : String} {after : Array Edge} {rs : List R} (hc : k.callee = .value f) (hf : σ.eval gl f = .a (.d (.fn g []))) (hrs : k.args.toList.map (σ.eval gl) = rs)
    (h : InlP P gl g rs σ (fun σ' rs' => Q .normal (σ'.put dst (one rs'))) (fun t r σ' => Q (.panic t r) σ')) : RawL P gl [⟨dst, .call k, ty, pos, after, none⟩] Q σ := fun c β a w ρ n ops hP hgl hd hs => by
  subst hP; subst hgl
  have hd' := hd _ (List.mem_singleton.2 rfl)
  have hfv := hs.eval f
  rw [hf] at hfv
  have hcv : a.eval f = .func (.func g) #[] ([] : List Value).toArray := by
    have hfd := hfv.inv_d
    generalize a.eval f = v at hfd
    cases hfd with
    | @fn _ _ vs hl _ => obtain rfl : vs = [] := List.eq_nil_of_length_eq_zero (by simpa using hl); rfl
  have hvs : F2 (RelR β (stF c σ β w) w) (k.args.toList.map a.eval ++ []) rs := by
    rw [← hrs, List.append_nil]
    refine ⟨by simp, fun i u r hu hr => ?_⟩
    simp only [List.getElem?_map, Option.map_eq_some_iff] at hu hr
    obtain ⟨x, hx, rfl⟩ := hu
    obtain ⟨y, hy, rfl⟩ := hr
    rw [hx] at hy; cases hy
    exact hs.eval x
  obtain ⟨hok, hh⟩ := h
  have hrun := call_run (o := ⟨dst, .call k, ty, pos, after, none⟩) hc rfl hcv hok (a := a) (w := w)
  have hcall := hh c β a w _ rfl rfl hs hvs
  have hdf : ∀ c : Call, (⟨dst, .call k, ty, pos, after, none⟩ : Oper).op ≠ .defer c := fun _ e => by cases e
  simp only [wpListIn, wanted_none (o := ⟨dst, .call k, ty, pos, after, none⟩) rfl, if_true]
  refine ⟨fun _ _ => trivial, ?_⟩
  rw [Oper.semAt_eq _ _ _ hdf, hrun]
  refine ⟨fun hs => by simp [WF, Fence.wide] at hs, callsW (hcall.mono ?_)⟩
  rintro e w' (⟨us, rs', σ', β', rfl, hs2, hres, hk⟩ | ⟨t, v, r, σ', β', rfl, hs2, hr, hk⟩)
  · refine ⟨σ'.put dst (one rs'), β', hs2.put hd' ?_, hk⟩
    rcases rs' with _ | ⟨r, _ | ⟨r2, rs⟩⟩
    · obtain rfl := hres.of_nil
      exact .tp (vs := []) rfl fun j v r hv => by simp at hv
    · obtain ⟨u, s, rfl, hr, hs'⟩ := hres.of_cons
      obtain rfl := hs'.of_nil
      exact hr
    · obtain ⟨u, s, rfl, hr, hs'⟩ := hres.of_cons
      obtain ⟨u2, s2, rfl, hr2, hs2⟩ := hs'.of_cons
      exact .tp hres.1 fun j v r hv hr => hres.2 j v r hv hr
  · exact ⟨σ', β', t, v, r, rfl, hs2, hr, hk⟩
/-- A value of a type is panicked, at a region's end. -/
theorem raw_panic {d : Tmp} {dst : Option Tmp} {T ty ty' : TypeId} {x : Operand} {pos pos' : String} {after after' : Array Edge} {offs : List (Nat × Nat × Bool)} {r : R} (hT : tk P T = .struct offs) (hx : σ.eval gl x = r)
    (hk : Q (.panic T r) (σ.put (some d) .any)) : RawL P gl [⟨some d, .makeInterface T x, ty, pos, after, none⟩, ⟨dst, .panic (.tmp d), ty', pos', after', none⟩] Q σ := fun c β a w ρ n ops hP hgl hd hs => by
  subst hP; subst hgl
  have hdl : d < c.N := hd _ (List.mem_cons_self) d rfl
  obtain ⟨fs, hu, _⟩ := tk_struct hT
  have hm : (Instr.makeInterface T (a.eval x)).run c.P w = .ok (.iface T (a.eval x)) w := by
    simp only [Instr.makeInterface, Sem.run_bind, run_under hu, Result.andThen_ok]
    rfl
  have hrun : (execOp a.eval ⟨some d, .makeInterface T x, ty, pos, after, none⟩).run c.P w = .ok (.value (.iface T (a.eval x))) w := by
    simp [execOp, hm]
  have hdf : ∀ c : Call, (⟨some d, .makeInterface T x, ty, pos, after, none⟩ : Oper).op ≠ .defer c := fun _ e => by cases e
  have hdf2 : ∀ c : Call, (⟨dst, .panic (.tmp d), ty', pos', after', none⟩ : Oper).op ≠ .defer c := fun _ e => by cases e
  have hev : (a.put (some d) (.iface T (a.eval x))).eval (.tmp d) = .iface T (a.eval x) := by
    simp [Act.eval, Act.put, hs.size, hdl]
  simp only [wpListIn, wanted_none (o := ⟨some d, .makeInterface T x, ty, pos, after, none⟩) rfl, if_true]
  refine ⟨fun _ _ => trivial, ?_⟩
  rw [Oper.semAt_eq _ _ _ hdf, hrun]
  show wpListIn (WF ρ) n c.P ops (Qh c Q) [⟨dst, .panic (.tmp d), ty', pos', after', none⟩] (a.put (some d) (.iface T (a.eval x))) w
  simp only [wpListIn, wanted_none (o := ⟨dst, .panic (.tmp d), ty', pos', after', none⟩) rfl, if_true]
  refine ⟨fun _ _ => trivial, ?_⟩
  have hrun2 : (execOp (a.put (some d) (.iface T (a.eval x))).eval ⟨dst, .panic (.tmp d), ty', pos', after', none⟩).run c.P w = .halt (.panic (.iface T (a.eval x))) w := by
    have hp : (Instr.panic (.iface T (a.eval x))).run c.P w = .halt (.panic (.iface T (a.eval x))) w := rfl
    simp [execOp, hev, hp, Result.andThen]
  rw [Oper.semAt_eq _ _ _ hdf2]
  show Oper.uponIn _ _ _ _ (a.put (some d) (.iface T (a.eval x))) _ _ _
  rw [hrun2]
  have hr := hs.eval x
  rw [hx] at hr
  exact ⟨σ.put (some d) .any, β, T, a.eval x, r, rfl, hs.put (fun d' e => by cases e; exact hdl) .any, hr, hk⟩
end
/-- A frame leaves by its marks, whether it returns or panics. -/
theorem marks_outU {c : Cx} {n : Nat} {fn : Func} {R : Ending → World → Prop} {u : FrameMode} {σ : S} {β : Nat → Value} (hu : u ≠ .run) (hdf : c.df = []) : ∀ (Ds : List Nat) {a : Act} {w : World}, Sim c σ β a w → a.defers = Ds.map markD → MarksOk c σ β w (Ds ++ c.M) →
    (∀ a' w', a'.tmps = a.tmps → a'.defers = [] → Sim c σ β a' w' → (∀ b, stF c σ β w b → stF c σ β w' b ∧ w'.heap[b]? = w.heap[b]?) → LeavesInM Fence.wide n c.P fn a'.tmps R [] u w') → LeavesInM Fence.wide n c.P fn a.tmps R (Ds.map markD) u w
  | [], a, w, hs, hd, hm, hR => hR a w rfl hd hs fun b hb => ⟨hb, rfl⟩
  | D :: Ds, a, w, hs, hd, hm, hR => by
    obtain ⟨h1, h2, h3⟩ := hm.ok D (by simp)
    have hlt := lt_of_some h2
    have hnd := hm.nd
    simp only [List.cons_append, List.nodup_cons] at hnd
    refine ⟨hu, .inl ⟨D, w.putObj D (.deferred none), rfl, run_takeDeferred h2, ?_⟩⟩
    have ho : ∀ k, k ≠ D → (w.putObj D (.deferred none)).heap[k]? = w.heap[k]? := fun k hk => World.putObj_heap_other hk
    have hk : Keep (fun b => b = D) w (w.putObj D (.deferred none)) := ⟨rfl, rfl, rfl, by simp [World.putObj], fun k _ hk => ho k hk⟩
    have H : ∀ b, stF c σ β w b → stF c σ β (w.putObj D (.deferred none)) b ∧ (w.putObj D (.deferred none)).heap[b]? = w.heap[b]? := fun b hb => by
      have hne : b ≠ D := fun e => hb.2.2.2 _ (e ▸ h2)
      exact ⟨⟨Nat.lt_of_lt_of_le hb.1 hk.size, hb.2.1, hb.2.2.1, hb.2.2.2.same (ho b hne)⟩, ho b hne⟩
    have hm' : MarksOk c σ β (w.putObj D (.deferred none)) (Ds ++ c.M) := ⟨hnd.2, fun D' hD' => by
      obtain ⟨g1, g2, g3⟩ := hm.ok D' (by simp only [List.cons_append, List.mem_cons]; exact .inr hD')
      exact ⟨g1, (ho D' fun e => hnd.1 (e ▸ hD')).trans g2, g3⟩⟩
    exact marks_outU hu hdf Ds (a := { a with defers := Ds.map markD }) (w := w.putObj D (.deferred none))
      ⟨hs.keep.trans hk (fun j e hj => by omega), hs.size, ⟨Ds, by rw [hdf]; simp, hm'⟩, c.hE H hs.ext, fun o x hx => (hs.obj o x hx).mono H fun b hb => ho b fun e => h3 o x hx (e ▸ hb), hs.blk, hs.dis, fun t => (hs.reg t).mono H, hs.env.mono H⟩
      rfl hm' fun a' w' h1 h2 h3 h4 => hR a' w' h1 h2 h3 fun b hb => ⟨(h4 b (H b hb).1).1, (h4 b (H b hb).1).2.trans (H b hb).2⟩
/-- The end of a body that may panic. -/
noncomputable def postP (vs : List Value) (ts : List Tmp) (K : S → List R → Prop) (KP : TypeId → R → S → Prop) : Ex → S → Prop
  | .normal, σ | .ret, σ => ∃ σ', Ghost σ σ' ∧ fvOf (σ'.mem 999999) = some vs ∧ K σ'.leave (ts.map fun t => (σ'.regs t).down)
  | .panic t r, σ => fvOf (σ.mem 999999) = some vs ∧ KP t r.down σ.leave
  | _, _ => False
theorem inlP_body {P : Program} {gl : Nat → Option (List D)} {f : FuncId} {fn : Func} {body : Code} {rs : List R} {ts : List Tmp} {σ : S} {K : S → List R → Prop} {KP : TypeId → R → S → Prop} (hm : P.follows .mixedOrders = true)
    (hf : P.funcs[f]? = some fn) (hb : fn.body = some body) (hr : resT fn.results.toList = some ts) (hname : (fn.name == "runtime.NumGoroutine") = false) (hd : dstOK fn.ntmps body = true) (hN : decide (rs.length ≤ fn.ntmps) = true)
    (h : ∀ vs, SemCode P gl body (postP vs ts K KP) (S.enter vs rs σ)) : InlP P gl f rs σ K KP := by
  refine ⟨⟨fn, hf, by rw [hb]; rfl, hname⟩, fun c β a w vs hP hgl hs hv => ?_⟩
  subst hP; subst hgl
  have h := h a.tmps.toList
  rw [← callsIn_wide (n := 0)]
  refine callsIn_of_wp_marks hf hb trivial ?_
  have hwf : Fence.wide = WF none := rfl
  obtain ⟨Ds, hds, hM⟩ := hs.df
  refine wpIn_mono (h (cxIn c fn.ntmps Ds) _ _ _ none 0 rfl rfl hm hd (.inl rfl) (enter_sim hs hM hv (by simpa using hN))) fun e a' w' hq => ?_
  have hfr : ∀ {σ' : S}, fvOf (σ'.mem 999999) = some a.tmps.toList → ∃ rs', σ'.mem 999999 = some (.frame a.tmps.toList rs') := by
    intro σ' hfv
    unfold fvOf at hfv
    split at hfv
    · rename_i vs' rs' e; cases hfv; exact ⟨rs', e⟩
    · cases hfv
  have fin : ∀ σ' β' a' w', Sim (cxIn c fn.ntmps Ds) σ' β' a' w' → fvOf (σ'.mem 999999) = some a.tmps.toList → K σ'.leave (ts.map fun t => (σ'.regs t).down) → ∃ v, (results fn a'.tmps).run c.P w' = .ok v w' ∧
      ∃ (us : List Value) (rs' : List R) (σ'' : S) (β'' : Nat → Value), Ending.returned v = .returned (retV us) ∧ Sim c σ'' β'' a w' ∧ F2 (RelR β'' (stF c σ'' β'' w') w') us rs' ∧ K σ'' rs' := by
    intro σ' β' a' w' hs' hfv hk
    obtain ⟨rs', hfr⟩ := hfr hfv
    obtain ⟨hl, hst⟩ := leave_sim (a := a) hs' hfr hs.size hds
    have hβ : ∀ o, 1000000 ≤ o → (fun o => β' (upId o)) (o - 1000000) = β' o := fun o ho => congrArg β' (upId_of ho)
    refine ⟨retV (ts.map fun t => a'.tmps.getD t undef), ?_, ts.map fun t => a'.tmps.getD t undef, _, _, _, rfl, hl, ⟨by simp, fun i u r hu hr' => ?_⟩, hk⟩
    · have hrun : (fn.results.mapM (resG a'.tmps)).run c.P w' = .ok (ts.map fun t => a'.tmps.getD t undef).toArray w' := by
        have e1 : (ts.map fun t => a'.tmps.getD t undef) = fn.results.toList.map (resV c.P a'.tmps w') := by
          rw [resT_at hr, List.map_map]; rfl
        rw [e1]
        exact run_mapM_arr _ (resV c.P a'.tmps w') fun v hv => by
          have : v ∈ fn.results.toList := by simpa using hv
          rw [resT_at hr] at this
          obtain ⟨t, _, rfl⟩ := List.mem_map.1 this
          rfl
      have : results fn a'.tmps = (do let vs ← fn.results.mapM (resG a'.tmps); pure (if h : vs.size = 1 then vs[0] else .tuple vs)) := rfl
      rw [this, Sem.run_bind, hrun, Result.andThen_ok]
      show Result.ok _ _ = _
      congr 1
      match ts with
      | [] => rfl
      | [_] => rfl
      | _ :: _ :: _ => simp [retV]
    · simp only [List.getElem?_map, Option.map_eq_some_iff] at hu hr'
      obtain ⟨t, ht, rfl⟩ := hu
      obtain ⟨t', ht', rfl⟩ := hr'
      rw [ht] at ht'; cases ht'
      exact RelR.down (β' := fun o => β' (upId o)) hβ ((hs'.reg t).mono hst)
  have out : ∀ σ' β', Sim (cxIn c fn.ntmps Ds) σ' β' a' w' → postP a.tmps.toList ts K KP .ret σ' → LeavesInM Fence.wide 0 c.P fn a'.tmps (fun e w' => (∃ (us : List Value) (rs' : List R) (σ' : S) (β' : Nat → Value), e = .returned (retV us) ∧ Sim c σ' β' a w' ∧ F2 (RelR β' (stF c σ' β' w') w') us rs' ∧ K σ' rs') ∨
      (∃ (t : TypeId) (v : Value) (r : R) (σ' : S) (β' : Nat → Value), e = .panicked [{ v := .iface t v, recovered := false }] ∧ Sim c σ' β' a w' ∧ RelR β' (stF c σ' β' w') w' v r ∧ KP t r σ')) a'.defers .returning w' := by
    rintro σ' β' hs' ⟨σ'', hg, hk⟩
    obtain ⟨β'', hs''⟩ := hg _ _ _ _ hs'
    obtain ⟨Ds', hd', hm'⟩ := hs''.df
    rw [show (cxIn c fn.ntmps Ds).df = [] from rfl, List.append_nil] at hd'
    rw [hd']
    exact marks_outU (by simp) (c := cxIn c fn.ntmps Ds) rfl Ds' hs'' hd' hm' fun a2 w2 _ _ hs2 _ => by
      obtain ⟨v, h1, h2⟩ := fin σ'' β'' a2 w2 hs2 hk.1 hk.2
      exact ⟨v, h1, .inl h2⟩
  cases e with
  | normal => obtain ⟨σ', β', hs', hk⟩ := hq; exact out σ' β' hs' hk
  | ret => obtain ⟨σ', β', hs', hk⟩ := hq; exact out σ' β' hs' hk
  | exit id => obtain ⟨σ', β', hs', hk⟩ := hq; exact hk.elim
  | goto l => exact hq.elim
  | panic ch =>
    obtain ⟨σ', β', t, v, r, rfl, hs', hv', hfv, hk⟩ := hq
    obtain ⟨Ds', hd', hm'⟩ := hs'.df
    rw [show (cxIn c fn.ntmps Ds).df = [] from rfl, List.append_nil] at hd'
    show LeavesInM Fence.wide 0 c.P fn a'.tmps _ a'.defers (.panicking _) w'
    rw [hd']
    refine marks_outU (by simp) (c := cxIn c fn.ntmps Ds) rfl Ds' hs' hd' hm' fun a2 w2 _ _ hs2 hH => ?_
    obtain ⟨rs', hfr⟩ := hfr hfv
    obtain ⟨hl, hst⟩ := leave_sim (a := a) hs2 hfr hs.size hds
    have hβ : ∀ o, 1000000 ≤ o → (fun o => β' (upId o)) (o - 1000000) = β' o := fun o ho => congrArg β' (upId_of ho)
    exact .inr ⟨t, v, r.down, _, _, rfl, hl, RelR.down (β' := fun o => β' (upId o)) hβ ((hv'.mono hH).mono hst), hk⟩
  | outgrown => exact hq.elim
end Go.VC
end
section
set_option maxRecDepth 100000
set_option linter.unusedSimpArgs false
set_option linter.unusedVariables false
namespace Go.VC
open Go.RowKit Go.Proofs
/-- A piece of code by what it does; the deferred calls stay as they are. -/
def SemD (P : Program) (gl : Nat → Option (List D)) (code : Code) (Q : Ex → S → Prop) (σ : S) : Prop :=
  ∀ (c : Cx) (β : Nat → Value) (a : Act) (w : World) (n : Nat), c.P = P → c.gl = gl → c.P.follows .mixedOrders = true → dstOK c.N code = true → Sim c σ β a w → code.wpIn (WF none) n c.P (fun e a' w' => a'.defers = a.defers ∧ Qh c Q e a' w') a w
section
variable {P : Program} {gl : Nat → Option (List D)} {σ : S} {Q : Ex → S → Prop}
theorem sd_skip (h : Q .normal σ) : SemD P gl .skip Q σ := fun c β a w n hP hgl hm hd hs => wpIn_skip ⟨rfl, σ, β, hs, h⟩
theorem sd_seq {x y : Code} (h : SemD P gl x (Ex.then (SemD P gl y Q) Q) σ) : SemD P gl (.seq x y) Q σ := fun c β a w n hP hgl hm hd hs => by
  simp only [dstOK, Bool.and_eq_true] at hd
  refine wpIn_seq (wpIn_mono (h c β a w n hP hgl hm hd.1 hs) fun e a' w' he => ?_)
  obtain ⟨hD, he⟩ := he
  cases e with
  | normal =>
    obtain ⟨σ', β', hs', hk⟩ := he
    exact wpIn_mono (hk c β' a' w' n hP hgl hm hd.2 hs') fun e a2 w2 h2 => ⟨h2.1.trans hD, h2.2⟩
  | exit id => exact ⟨hD, he⟩
  | ret => exact ⟨hD, he⟩
  | goto l => exact ⟨hD, he⟩
  | panic ch => exact ⟨hD, he⟩
  | outgrown => exact he.elim
theorem sd_cond {x : Operand} {y z : Code} {b : Bool} (hb : σ.eval gl x = .a (.d (.v (.bool b)))) (hy : b = true → SemD P gl y Q σ) (hz : b = false → SemD P gl z Q σ) : SemD P gl (.cond x y z) Q σ := fun c β a w n hP hgl hm hd hs => by
  simp only [dstOK, Bool.and_eq_true] at hd
  have hv := hs.eval x
  rw [hgl, hb] at hv
  exact wpIn_cond_split hv.inv_v (fun e => hy e c β a w n hP hgl hm hd.1 hs) (fun e => hz e c β a w n hP hgl hm hd.2 hs)
theorem sd_block {id : Nat} {x : Code} (h : SemD P gl x (Ex.inBlock id Q) σ) : SemD P gl (.block id x) Q σ := fun c β a w n hP hgl hm hd hs => by
  refine wpIn_block (wpIn_mono (h c β a w n hP hgl hm hd hs) fun e a' w' he => ?_)
  obtain ⟨hD, he⟩ := he
  cases e with
  | normal => exact ⟨hD, he⟩
  | exit id' =>
    obtain ⟨σ', β', hs', hk⟩ := he
    simp only [Ex.inBlock] at hk
    simp only [Exit.inBlock]
    split at hk
    · rw [if_pos ‹_›]; exact ⟨hD, σ', β', hs', hk⟩
    · rw [if_neg ‹_›]; exact ⟨hD, σ', β', hs', hk⟩
  | ret => exact ⟨hD, he⟩
  | goto l => exact ⟨hD, he⟩
  | panic ch => exact ⟨hD, he⟩
  | outgrown => exact he.elim
theorem dst_ok {N : Nat} {id : Nat} {ops : Array Oper} {draw : Bool} (hd : dstOK N (.region id ops draw) = true) : ∀ o ∈ ops.toList, ∀ d, o.dst = some d → d < N := fun o ho d hod => by
  have := List.all_eq_true.1 hd o ho
  rw [hod] at this
  simpa using this
theorem sd_region {id : Nat} {l : List Oper} (h : opsA P gl l.toArray l σ (Q .normal)) : SemD P gl (.region id l.toArray false) Q σ := fun c β a w n hP hgl hm hd hs => by
  subst hP; subst hgl
  exact wpIn_region_list (opsA_sound (K := Q .normal) (D := a.defers) (Q := fun e a' w' => a'.defers = a.defers ∧ Qh c Q e a' w') (fun σ β a w hs hD hk => ⟨hD, σ, β, hs, hk⟩) l (by simpa using dst_ok hd) hs rfl h)
theorem sd_draw {id : Nat} {l : List Oper} (h : opsQ P gl l.toArray l σ (Q .normal)) (hok : DrawOk l.toArray := by unfold DrawOk; decide +kernel) : SemD P gl (.region id l.toArray true) Q σ := fun c β a w n hP hgl hm hd hs => by
  subst hP; subst hgl
  simp only [DrawOk, Bool.and_eq_true] at hok
  have := any_lex (K := Q .normal) l 0 true (Array.replicate l.toArray.size false) σ (by simp) hok.2 h
  exact wpIn_region_any hm (anyA_sound (K := Q .normal) (D := a.defers) (Q := fun e a' w' => a'.defers = a.defers ∧ Qh c Q e a' w') (fun σ β a w hs hD hk => ⟨hD, σ, β, hs, hk⟩) (dst_ok hd) l.toArray.size _ (hs.drawn _) rfl (by simpa using this))
theorem sd_lag {id : Nat} {ops : Array Oper} (hB : lagB ops = true) (h : opsL P gl ops ops.toList 0 σ (Q .normal)) : SemD P gl (.region id ops true) Q σ := by
  intro c β a w n hP hgl hm hdN hs
  subst hP; subst hgl
  refine wpIn_region_any hm (lag_sound (K := Q .normal) (D := a.defers) (Q := fun e a' w' => a'.defers = a.defers ∧ Qh c Q e a' w') hB (fun σ β a w hs hD hk => ⟨hD, σ, β, hs, hk⟩) (dst_ok hdN) ops.size ops.toList 0 _ (by simp) (by simp) ?_ ?_ ((hs.drawn _).part rfl rfl rfl fun t => .inr ⟨?_, rfl⟩) rfl h)
  · have : ∀ m, cnt (List.replicate m false) = m := fun m => by simp [cnt]
    simp [this]
  · refine ⟨by simp, fun j _ hj => by simp [hj], fun i o d hi => absurd hi (Nat.not_lt_zero _), fun i o hi => absurd hi (Nat.not_lt_zero _), fun k' j hk' hd => ?_⟩
    have hk : k' < ops.size := by
      rcases Nat.lt_or_ge k' ops.size with h | h
      · exact h
      · simp [Array.getElem?_eq_none, h] at hk'
    obtain ⟨oj, hoj, _⟩ := (lag_at hB (Array.getElem?_eq_getElem hk)).dep j hd
    simp [size_of_at hoj]
  · rw [lagP_else]
    rintro ⟨i, o, hU, _, _⟩
    exact absurd hU.1 (Nat.not_lt_zero _)
theorem sd_drawF {id : Nat} {l : List Oper} (F : List (List Nat)) (hB : (lagB l.toArray && lagFs l.toArray l F 0) = true) (h : opsF P gl l l F σ (Q .normal)) : SemD P gl (.region id l.toArray true) Q σ := by
  rw [Bool.and_eq_true] at hB
  exact sd_lag hB.1 (opsF_L l F 0 hB.2 h)
end
/-- An object that stands for a value of an interface's type: what it holds. -/
def ifaceOb (T : TypeId) (x : A) : SemOb where
  os := []
  p := fun _ st w bv => ∃ v, bv = .iface T v ∧ RelA st w v x
  lt := fun h b hb => by obtain ⟨v, rfl, _⟩ := h; cases hb
  mono := fun H h _ => by obtain ⟨v, e, hr⟩ := h; exact ⟨v, e, hr.mono H⟩
  dep := fun _ h => h
section
variable {P : Program} {gl : Nat → Option (List D)} {σ : S} {K : S → Prop} {dst : Option Tmp} {ty : TypeId} {pos : String} {after : Array Edge} {g : Option (Nat × Bool)}
theorem run_eq_iface {w : World} {d : Nat} {t : TypeId} {ms : Array (String × TypeId)} {T : TypeId} {v : Value} (ht : P.underlying t = some (.interface ms)) : (Op.equalIn (d + 1) t (.iface T v) .nilIface).run P w = .ok false w := by
  simp only [Op.equalIn, Sem.run_bind, run_under ht, Result.andThen_ok]
  rfl
theorem run_eq_nil {w : World} {d : Nat} {t : TypeId} {ms : Array (String × TypeId)} (ht : P.underlying t = some (.interface ms)) : (Op.equalIn (d + 1) t .nilIface .nilIface).run P w = .ok true w := by
  simp only [Op.equalIn, Sem.run_bind, run_under ht, Result.andThen_ok]
  rfl
/-- It is not nil. -/
theorem sem_if_nil {ms : Array (String × TypeId)} {t t' q : Nat} (ht : P.underlying t = some (.interface ms)) {x : Operand} {T : TypeId} {y : A} (hx : σ.eval gl x = .own q) (hm : σ.mem q = some (.sem (ifaceOb T y))) (hk : K (σ.put dst (.a (.d (.v (.bool false)))))) : SemOp P gl ⟨dst, .binOp .eql t x (.const .nilIface) t', ty, pos, after, g⟩ σ K := by
  intro c β a w hP hgl hs hd
  subst hP; subst hgl
  have hv := (hx ▸ hs.eval x).inv_own
  obtain ⟨v, hb, hr⟩ := hs.obj _ _ hm
  rw [hb] at hv
  refine Run.val (v := .bool false) (w' := w) (fun _ e => by cases e) ?_ ⟨_, β, hk, hs.put hd (.a (.v rfl))⟩
  have hr := run_eq_iface (P := c.P) (w := w) (d := 9999) (T := T) (v := v) ht
  have hn : a.eval (.const .nilIface) = .nilIface := rfl
  simp [execOp, hv, hn, eqGuard, binOp, Op.equal, Op.maxDepth, hr]
theorem sem_nil_nil {ms : Array (String × TypeId)} {t t' : Nat} (ht : P.underlying t = some (.interface ms)) {x : Operand} (hx : σ.eval gl x = .a (.d (.v .nilIface))) (hk : K (σ.put dst (.a (.d (.v (.bool true)))))) : SemOp P gl ⟨dst, .binOp .eql t x (.const .nilIface) t', ty, pos, after, g⟩ σ K := by
  intro c β a w hP hgl hs hd
  subst hP; subst hgl
  have hv := (hx ▸ hs.eval x).inv_v
  refine Run.val (v := .bool true) (w' := w) (fun _ e => by cases e) ?_ ⟨_, β, hk, hs.put hd (.a (.v rfl))⟩
  have hr := run_eq_nil (P := c.P) (w := w) (d := 9999) ht
  have hn : a.eval (.const .nilIface) = .nilIface := rfl
  simp [execOp, hv, hn, eqGuard, binOp, Op.equal, Op.maxDepth, hr]
/-- What it holds. -/
theorem sem_assert {q tI T : Nat} {x : Operand} {y : A} {offs : List (Nat × Nat × Bool)} (hT : tk P T = .struct offs) (hx : σ.eval gl x = .own q) (hm : σ.mem q = some (.sem (ifaceOb T y))) (hk : K (σ.put dst (.tp [.a y, .a (.d (.v (.bool true)))]))) : SemOp P gl ⟨dst, .typeAssert x tI T true, ty, pos, after, g⟩ σ K := by
  intro c β a w hP hgl hs hd
  subst hP; subst hgl
  have hv := (hx ▸ hs.eval x).inv_own
  obtain ⟨v, hb, hr⟩ := hs.obj _ _ hm
  rw [hb] at hv
  obtain ⟨fs, hu, _⟩ := tk_struct hT
  have hrun : (Instr.typeAssert (.iface T v) tI T true).run c.P w = .ok (.tuple #[v, .bool true]) w := by
    simp only [Instr.typeAssert, Sem.run_bind, run_under hu, Result.andThen_ok, if_true]
    rfl
  refine Run.val (v := .tuple #[v, .bool true]) (w' := w) (fun _ e => by cases e) ?_ ⟨_, β, hk, hs.put hd (.tp (vs := [v, .bool true]) rfl fun j u r hu hr' => ?_)⟩
  · simp [execOp, hv, hrun]
  · match j with
    | 0 => simp at hu hr'; subst hu; subst hr'; exact .a hr
    | 1 => simp at hu hr'; subst hu; subst hr'; exact .a (.v rfl)
    | j + 2 => simp at hu
end
section
variable {c : Cx} {σ : S} {β : Nat → Value} {a : Act} {w : World}
/-- Other deferred calls below. -/
def cxDf (c : Cx) (df : List Deferred) : Cx := { c with df := df }
theorem Sim.redf {df : List Deferred} {a' : Act} (h : Sim c σ β a w) (ht : a'.tmps = a.tmps) (hd : a'.defers = df) : Sim (cxDf c df) σ β a' w := by
  obtain ⟨Ds, _, m⟩ := h.df
  exact ⟨h.keep, by rw [ht]; exact h.size, ⟨[], (by rw [hd]; rfl), (List.nodup_append.1 m.nd).2.1, fun D hD => m.ok D (List.mem_append_right _ hD)⟩, h.ext, h.obj, h.blk, h.dis, fun t => by rw [ht]; exact h.reg t, h.env⟩
theorem enter_st {N : Nat} {rs : List R} {Ds : List Nat} {vs : List Value} : ∀ b, stF c σ β w b → stF (cxIn c N Ds) (S.enter vs rs σ) (βIn β) w b ∧ w.heap[b]? = w.heap[b]? := fun b hb => ⟨⟨hb.1, hb.2.1, fun o x hx => by
    rcases enter_at hx with ⟨rfl, _⟩ | ⟨o', y, rfl, hy, _⟩
    · simp [βIn, undef_own]
    · rw [βIn_add]; exact hb.2.2.1 o' y hy, hb.2.2.2⟩, rfl⟩
/-- A frame leaves by its marks, down to the deferred calls below. -/
theorem marks_outD {n : Nat} {fn : Func} {R : Ending → World → Prop} {u : FrameMode} (hu : u ≠ .run) : ∀ (Ds : List Nat) {a : Act} {w : World}, Sim c σ β a w → a.defers = Ds.map markD ++ c.df → MarksOk c σ β w (Ds ++ c.M) →
    (∀ a' w', a'.tmps = a.tmps → a'.defers = c.df → Sim c σ β a' w' → (∀ b, stF c σ β w b → stF c σ β w' b ∧ w'.heap[b]? = w.heap[b]?) → LeavesInM Fence.wide n c.P fn a'.tmps R c.df u w') → LeavesInM Fence.wide n c.P fn a.tmps R (Ds.map markD ++ c.df) u w
  | [], a, w, hs, hd, hm, hR => hR a w rfl hd hs fun b hb => ⟨hb, rfl⟩
  | D :: Ds, a, w, hs, hd, hm, hR => by
    obtain ⟨h1, h2, h3⟩ := hm.ok D (by simp)
    have hlt := lt_of_some h2
    have hnd := hm.nd
    simp only [List.cons_append, List.nodup_cons] at hnd
    refine ⟨hu, .inl ⟨D, w.putObj D (.deferred none), rfl, run_takeDeferred h2, ?_⟩⟩
    have ho : ∀ k, k ≠ D → (w.putObj D (.deferred none)).heap[k]? = w.heap[k]? := fun k hk => World.putObj_heap_other hk
    have hk : Keep (fun b => b = D) w (w.putObj D (.deferred none)) := ⟨rfl, rfl, rfl, by simp [World.putObj], fun k _ hk => ho k hk⟩
    have H : ∀ b, stF c σ β w b → stF c σ β (w.putObj D (.deferred none)) b ∧ (w.putObj D (.deferred none)).heap[b]? = w.heap[b]? := fun b hb => by
      have hne : b ≠ D := fun e => hb.2.2.2 _ (e ▸ h2)
      exact ⟨⟨Nat.lt_of_lt_of_le hb.1 hk.size, hb.2.1, hb.2.2.1, hb.2.2.2.same (ho b hne)⟩, ho b hne⟩
    have hm' : MarksOk c σ β (w.putObj D (.deferred none)) (Ds ++ c.M) := ⟨hnd.2, fun D' hD' => by
      obtain ⟨g1, g2, g3⟩ := hm.ok D' (by simp only [List.cons_append, List.mem_cons]; exact .inr hD')
      exact ⟨g1, (ho D' fun e => hnd.1 (e ▸ hD')).trans g2, g3⟩⟩
    exact marks_outD hu Ds (a := { a with defers := Ds.map markD ++ c.df }) (w := w.putObj D (.deferred none))
      ⟨hs.keep.trans hk (fun j e hj => by omega), hs.size, ⟨Ds, rfl, hm'⟩, c.hE H hs.ext, fun o x hx => (hs.obj o x hx).mono H fun b hb => ho b fun e => h3 o x hx (e ▸ hb), hs.blk, hs.dis, fun t => (hs.reg t).mono H, hs.env.mono H⟩
      rfl hm' fun a' w' h1 h2 h3 h4 => hR a' w' h1 h2 h3 fun b hb => ⟨(h4 b (H b hb).1).1, (h4 b (H b hb).1).2.trans (H b hb).2⟩
end
/-- The end of a deferred closure's body. -/
noncomputable def postC (vs : List Value) (K : S → Prop) : Ex → S → Prop
  | .normal, σ | .ret, σ => fvOf (σ.mem 999999) = some vs ∧ K σ.leave
  | _, _ => False
/-- What is known of a panic. -/
def PanOk (c : Cx) (σ : S) (β : Nat → Value) (w : World) (u : FrameMode) (p : Option (TypeId × A)) : Prop := match p with
  | none => u = .returning
  | some (T, x) => ∃ v, u = .panicking [{ v := .iface T v, recovered := false }] ∧ RelA (stF c σ β w) w v x
/-- A deferred closure's state behind 'recover'. -/
noncomputable def S.recov (σ : S) (d : Tmp) : Option (TypeId × A) → S
  | none => σ.put (some d) (.a (.d (.v .nilIface)))
  | some (T, x) => (σ.newOb 999990 (.sem (ifaceOb T x))).put (some d) (.own 999990)
/-- A deferred closure that asks 'recover' first. -/
theorem closD {P : Program} {gl : Nat → Option (List D)} {f : FuncId} {fn : Func} {y : Code} {id : Nat} {d : Tmp} {ty : TypeId} {pos : String} {after : Array Edge} {rs : List R} {σ : S} {K : S → Prop} {p : Option (TypeId × A)} {at_ : Array TypeId} (hm : P.follows .mixedOrders = true)
    (hf : P.funcs[f]? = some fn) (hb : fn.body = some (.seq (.region id #[⟨some d, .call { callee := .builtin .recover, args := #[], argTypes := at_ }, ty, pos, after, none⟩] false) y)) (hres : fn.results = #[]) (hd : dstOK fn.ntmps y = true) (hdn : d < fn.ntmps) (hN : decide (rs.length ≤ fn.ntmps) = true)
    (h : ∀ vs, SemD P gl y (postC vs K) ((S.enter vs rs σ).recov d p))
    {c : Cx} {β : Nat → Value} {a : Act} {w : World} {vs : List Value} {u : FrameMode} {n : Nat} (hP : c.P = P) (hgl : c.gl = gl) (hs : Sim c σ β a w) (hv : F2 (RelR β (stF c σ β w) w) vs rs) (hp : PanOk c σ β w u p) :
    CallsDIn Fence.wide n P f vs.toArray u w fun e u' w' => ∃ v, e = .returned v ∧ settle u' = .returning ∧ ∃ σ' β', Sim c σ' β' a w' ∧ K σ' := by
  subst hP; subst hgl
  refine callsDIn_of_wpSIn hf hb trivial fun c₀ cs hu => wpSIn_seq (wpSIn_region ?_)
  obtain ⟨Ds, hds, hM⟩ := hs.df
  have hs1 := enter_sim hs hM hv (N := fn.ntmps) (by simpa using hN)
  have hst := enter_st (c := c) (σ := σ) (β := β) (w := w) (N := fn.ntmps) (rs := rs) (Ds := Ds) (vs := a.tmps.toList)
  -- what is done behind 'recover'
  have main : ∀ (v : Value) (m : FrameMode), settle m = .returning → (∃ β1, Sim (cxIn c fn.ntmps Ds) ((S.enter a.tmps.toList rs σ).recov d p) β1 (({ tmps := vs.toArray ++ Array.replicate (fn.ntmps - vs.toArray.size) undef, defers := [] } : Act).put (some d) v) w) →
      (Exit.thenS (y.wpSIn Fence.wide n c.P (bodyPostS c.P fn c₀ cs fun e u' w' => ∃ v, e = .returned v ∧ settle u' = .returning ∧ ∃ σ' β', Sim c σ' β' a w' ∧ K σ')) (bodyPostS c.P fn c₀ cs fun e u' w' => ∃ v, e = .returned v ∧ settle u' = .returning ∧ ∃ σ' β', Sim c σ' β' a w' ∧ K σ')) .normal (({ tmps := vs.toArray ++ Array.replicate (fn.ntmps - vs.toArray.size) undef, defers := [] } : Act).put (some d) v) ({ c₀ with mode := m } :: cs) w := by
    rintro v m hmode ⟨β1, hs2⟩
    refine wpSIn_of_wpIn rfl (wpIn_mono (h a.tmps.toList (cxIn c fn.ntmps Ds) β1 _ w n rfl rfl hm hd hs2) fun e a' w' he => ?_)
    obtain ⟨hD, he⟩ := he
    have hD : a'.defers = [] := hD
    have out : ∀ σ' β', Sim (cxIn c fn.ntmps Ds) σ' β' a' w' → postC a.tmps.toList K .ret σ' → bodyPostS c.P fn c₀ cs (fun e u' w' => ∃ v, e = .returned v ∧ settle u' = .returning ∧ ∃ σ' β', Sim c σ' β' a w' ∧ K σ') .ret a' ({ c₀ with mode := m } :: cs) w' := by
      rintro σ' β' hs' ⟨hfv, hk⟩
      obtain ⟨rs', hfr⟩ : ∃ rs', σ'.mem 999999 = some (.frame a.tmps.toList rs') := by
        unfold fvOf at hfv
        split at hfv
        · rename_i vs' rs' e; cases hfv; exact ⟨rs', e⟩
        · cases hfv
      obtain ⟨hl, _⟩ := leave_sim (a := a) hs' hfr hs.size hds
      refine ⟨hD, m, rfl, .tuple #[], ?_, .tuple #[], rfl, hmode, _, _, hl, hk⟩
      have e1 : results fn a'.tmps = (do let vs ← fn.results.mapM (resG a'.tmps); pure (if h : vs.size = 1 then vs[0] else .tuple vs)) := rfl
      have e2 : (fn.results.mapM (resG a'.tmps)).run c.P w' = .ok #[] w' := by rw [hres]; simp
      rw [e1, Sem.run_bind, e2, Result.andThen_ok]
      rfl
    cases e with
    | normal => obtain ⟨σ', β', hs', hk⟩ := he; exact out σ' β' hs' hk
    | ret => obtain ⟨σ', β', hs', hk⟩ := he; exact out σ' β' hs' hk
    | exit id => obtain ⟨σ', β', hs', hk⟩ := he; exact hk.elim
    | goto l => exact he.elim
    | panic ch => obtain ⟨_, _, _, _, _, _, _, _, hk⟩ := he; exact hk.elim
    | outgrown => exact he.elim
  have hrun : ∀ ev : Operand → Value, (execOp ev ⟨some d, .call { callee := .builtin .recover, args := #[], argTypes := at_ }, ty, pos, after, none⟩).run c.P w = .ok .recover w := fun ev => by
    simp [execOp, resolve, invoke, builtin]
  cases p with
  | none =>
    have hp : u = .returning := hp
    subst hp
    have e0 : recoverD (c₀ :: cs) = none := by simp [recoverD, hu]
    rw [show List.range (#[(⟨some d, .call { callee := .builtin .recover, args := #[], argTypes := at_ }, ty, pos, after, none⟩ : Oper)]).size = [0] from rfl]
    simp only [wpOpsSIn, List.getElem?_toArray, List.getElem?_cons_zero, wanted_none, if_true]
    refine ⟨fun _ _ => trivial, ?_⟩
    rw [hrun]
    simp only [e0]
    have hc0 : ({ c₀ with mode := .returning } : Frame) = c₀ := by rw [← hu]
    have hq := hs1.put (dst := some d) (r := .a (.d (.v .nilIface))) (v := .nilIface) (fun d' e => by cases e; exact hdn) (.a (show Rd _ _ _ _ from .v rfl))
    have := main .nilIface .returning rfl ⟨_, hq⟩
    rw [hc0] at this
    exact this
  | some q =>
    obtain ⟨T, x⟩ := q
    obtain ⟨v, rfl, hr⟩ := hp
    have e0 : recoverD (c₀ :: cs) = some (.iface T v, { c₀ with mode := .panicking [{ v := .iface T v, recovered := true }] } :: cs) := by simp [recoverD, hu]
    rw [show List.range (#[(⟨some d, .call { callee := .builtin .recover, args := #[], argTypes := at_ }, ty, pos, after, none⟩ : Oper)]).size = [0] from rfl]
    simp only [wpOpsSIn, List.getElem?_toArray, List.getElem?_cons_zero, wanted_none, if_true]
    refine ⟨fun _ _ => trivial, ?_⟩
    rw [hrun]
    simp only [e0]
    have hn := hs1.new (o := 999990) (x := .sem (ifaceOb T x)) (bv := .iface T v) (w' := w) ⟨rfl, rfl, rfl, Nat.le_refl _, fun _ _ _ => rfl⟩ (fun b hb => by cases hb) ⟨v, rfl, (hr.mono hst).mono fun b hb => ⟨st_new (Nat.le_refl _) (fun b hb => rfl) (fun b hb => by cases hb) hb, rfl⟩⟩
    have hq := hn.put (dst := some d) (r := .own 999990) (v := .iface T v) (fun d' e => by cases e; exact hdn) (.own (by simp [upd]) rfl)
    exact main (.iface T v) (.panicking [{ v := .iface T v, recovered := true }]) rfl ⟨_, hq⟩
end Go.VC
end
section
set_option maxRecDepth 100000
set_option linter.unusedSimpArgs false
set_option linter.unusedVariables false
namespace Go.VC
open Go.RowKit Go.Proofs
theorem CallsDIn.mono' {F : Fence} {n : Nat} {P : Program} {f : FuncId} {args : Array Value} {u : FrameMode} {w : World} {R R' : Ending → FrameMode → World → Prop} (h : CallsDIn F n P f args u w R) (k : ∀ e u' w', R e u' w' → R' e u' w') : CallsDIn F n P f args u w R' :=
  ⟨h.1, fun c cs hu hr => let ⟨e, u', w', fr, hR, rest⟩ := h.2 c cs hu hr; ⟨e, u', w', fr, k _ _ _ hR, rest⟩⟩
/-- What the deferred closure must do, behind the body that returned (none) or panicked. -/
def ClosK (P : Program) (gl : Nat → Option (List D)) (y : Code) (dg : Tmp) (caps : List (Nat × Nat)) (K5 : S → Prop) (p : Option (TypeId × A)) (σ : S) : Prop :=
  ∀ vs', SemD P gl y (postC vs' K5) ((S.enter vs' (caps.map fun c => .ref c.1 c.2) σ).recov dg p)
/-- How the body behind the 'defer' may end. -/
def postX (cvs : List Value) (caps : List (Nat × Nat)) (cl : Option (TypeId × A) → S → Prop) : Ex → S → Prop
  | .normal, σ => (∃ rs, σ.mem 999991 = some (.frame cvs rs) ∧ ∀ (j : Nat) (c : Nat × Nat), caps[j]? = some c → rs j = .ref c.1 c.2) ∧ cl none σ
  | .panic t r, σ => (∃ rs, σ.mem 999991 = some (.frame cvs rs) ∧ ∀ (j : Nat) (c : Nat × Nat), caps[j]? = some c → rs j = .ref c.1 c.2) ∧ ∃ x, r = .a x ∧ cl (some (t, x)) σ
  | _, _ => False
def capsR (caps : List (Nat × Nat)) (t : Nat) : R := match caps[t]? with
  | some c => .ref c.1 c.2
  | none => .any
/-- What a function with a deferred closure tells, when the closure is done. -/
noncomputable def endDf (P : Program) (vs : List Value) (t : Tmp) (T : TypeId) (K : S → List R → Prop) (σ : S) : Prop :=
  fvOf (σ.mem 999999) = some vs ∧ ∃ o off r, σ.regs t = .ref o off ∧ loadR P σ T (.ref o off) = some r ∧ K σ.leave [r.down]
theorem inl_defer {P : Program} {gl : Nat → Option (List D)} {f g : FuncId} {fn gn : Func} {x0 x2 y : Code} {rs : List R} {t : Tmp} {T : TypeId} {σ : S} {K : S → List R → Prop} {caps : List (Nat × Nat)} {cl : List Operand} {d dg : Tmp} {id idg : Nat} {k : Call} {ty ty' tyg : TypeId} {pos pos' posg : String} {after after' afterg : Array Edge} {at_ : Array TypeId} (hm : P.follows .mixedOrders = true)
    (hf : P.funcs[f]? = some fn) (hb : fn.body = some (.seq x0 (.seq (.region id #[⟨some d, .makeFunc (.func g) #[] cl.toArray, ty, pos, after, none⟩, ⟨none, .defer k, ty', pos', after', none⟩] false) (.seq x2 .ret)))) (hk : k.callee = .value (.tmp d)) (hka : k.args = #[]) (hres : fn.results = #[.cell t T]) (hname : (fn.name == "runtime.NumGoroutine") = false) (hd : dstOK fn.ntmps x0 = true) (hdd : d < fn.ntmps) (hd2 : dstOK fn.ntmps x2 = true) (hN : decide (rs.length ≤ fn.ntmps) = true)
    (hg : P.funcs[g]? = some gn) (hgb : gn.body = some (.seq (.region idg #[⟨some dg, .call { callee := .builtin .recover, args := #[], argTypes := at_ }, tyg, posg, afterg, none⟩] false) y)) (hgres : gn.results = #[]) (hgd : dstOK gn.ntmps y = true) (hgdn : dg < gn.ntmps) (hgN : decide (caps.length ≤ gn.ntmps) = true) (hgname : (gn.name == "runtime.NumGoroutine") = false)
    (hc9 : ∀ c ∈ caps, c.1 ≠ 999991)
    (h : ∀ vs, SemD P gl x0 (fun e σ1 => e = .normal ∧ cl.map (σ1.eval gl) = caps.map (fun c => .ref c.1 c.2) ∧ ∀ cvs, SemCode P gl x2 (postX cvs caps (ClosK P gl y dg caps (endDf P vs t T K))) ((σ1.put (some d) (.clo g caps)).newOb 999991 (.frame cvs (capsR caps)))) (S.enter vs rs σ)) : Inl P gl f rs σ K := by
  refine ⟨⟨fn, hf, by rw [hb]; rfl, hname⟩, fun c β a w vs hP hgl hs hv => ?_⟩
  subst hP; subst hgl
  have h := h a.tmps.toList
  rw [← callsIn_wide (n := 0)]
  refine callsIn_of_wp_marks hf hb trivial ?_
  obtain ⟨Ds, hds, hM⟩ := hs.df
  refine wpIn_seq (wpIn_mono (h (cxIn c fn.ntmps Ds) _ _ _ 0 rfl rfl hm hd (enter_sim hs hM hv (by simpa using hN))) fun e a1 w1 he => ?_)
  obtain ⟨hD1, he⟩ := he
  have hD1 : a1.defers = [] := hD1
  cases e with
  | exit id => obtain ⟨_, _, _, hk⟩ := he; cases hk.1
  | ret => obtain ⟨_, _, _, hk⟩ := he; cases hk.1
  | goto l => exact he.elim
  | panic ch => obtain ⟨_, _, _, _, _, _, _, _, hk⟩ := he; cases hk.1
  | outgrown => exact he.elim
  | normal =>
  obtain ⟨σ1, β1, hs1, _, hcaps, hx2⟩ := he
  show Code.wpIn _ _ _ (.seq _ _) _ _ _
  refine wpIn_seq (wpIn_region_list ?_)
  simp only [wpListIn, wanted_none (o := ⟨some d, .makeFunc (.func g) #[] cl.toArray, ty, pos, after, none⟩) rfl, if_true]
  refine sem_clo (P := c.P) (gl := c.gl) (K := fun σ' => σ' = σ1.put (some d) (.clo g caps)) hcaps rfl (cxIn c fn.ntmps Ds) β1 a1 w1 rfl rfl hs1 (fun d' e => by cases e; exact hdd) none 0 _ _ ?_
  rintro v w2 ⟨σ2, β2, rfl, hs2⟩
  have hsz : d < a1.tmps.size := by rw [hs1.size]; exact hdd
  have htd : (a1.put (some d) v).tmps.getD d undef = v := by simp [Act.put, hsz]
  have hrv := hs2.reg d
  rw [show (a1.put (some d) v).tmps.getD d undef = v from htd, show (σ1.put (some d) (.clo g caps)).regs d = .clo g caps by simp [S.put, upd]] at hrv
  obtain ⟨cvs, rfl, hcv⟩ : ∃ cvs : List Value, v = .func (.func g) #[] cvs.toArray ∧ F2 (fun v c => ∃ b, β2 c.1 = .pointer (some ⟨b, 0, none⟩) ∧ v = .pointer (some ⟨b, c.2, none⟩)) cvs caps := by
    cases hrv with
    | clo hl => exact ⟨_, rfl, hl⟩
  have hev : (a1.put (some d) (.func (.func g) #[] cvs.toArray)).eval (.tmp d) = .func (.func g) #[] cvs.toArray := htd
  simp only [wanted_none (o := ⟨none, .defer k, ty', pos', after', none⟩) rfl, if_true]
  refine ⟨fun _ _ => trivial, ?_⟩
  have hdef : (Oper.semAt Fence.wide.round (a1.put (some d) (.func (.func g) #[] cvs.toArray)).eval ⟨none, .defer k, ty', pos', after', none⟩).run c.P w2 = .ok (.defer { target := .fn (.func g) cvs.toArray, args := #[] }) w2 := by
    rw [show Fence.wide.round = none from rfl, Oper.semAt_none]
    simp [execOp, resolve, hk, hka, hev, Deferred.ofValue]
  rw [hdef]
  have hs3 := Sim.redf (df := [{ target := .fn (.func g) cvs.toArray, args := #[] }]) (a' := { (a1.put (some d) (.func (.func g) #[] cvs.toArray)) with defers := { target := .fn (.func g) cvs.toArray, args := #[] } :: (a1.put (some d) (.func (.func g) #[] cvs.toArray)).defers }) hs2 rfl (by
    show _ :: a1.defers = _
    rw [hD1])
  generalize hc2 : cxDf (cxIn c fn.ntmps Ds) [{ target := .fn (.func g) cvs.toArray, args := #[] }] = c2 at hs3
  have hs4 := hs3.new (o := 999991) (x := .frame cvs (capsR caps)) (bv := undef) (w' := w2) ⟨rfl, rfl, rfl, Nat.le_refl _, fun _ _ _ => rfl⟩ (fun b hb => by simp [undef_own] at hb) ⟨undef_own, fun j => by
    unfold capsR
    split
    · rename_i cp hcp
      obtain ⟨u, hu, b, hb, rfl⟩ := hcv.get hcp
      rw [List.getD_eq_getElem?_getD, hu]
      refine .ref (b := b) ?_
      rw [show upd β2 999991 undef cp.1 = β2 cp.1 by simp [upd, hc9 cp (List.mem_of_getElem? hcp)]]
      exact hb
    · exact .any⟩
  have hc2P : c2.P = c.P := by rw [← hc2]; rfl
  have hc2g : c2.gl = c.gl := by rw [← hc2]; rfl
  have hc2N : c2.N = fn.ntmps := by rw [← hc2]; rfl
  have hc2d : c2.df = [{ target := .fn (.func g) cvs.toArray, args := #[] }] := by rw [← hc2]; rfl
  -- the closure is called
  have leave : ∀ (p : Option (TypeId × A)) (u : FrameMode) (σ3 : S) (β3 : Nat → Value) (a3 : Act) (w3 : World), u ≠ .run → Sim c2 σ3 β3 a3 w3 → PanOk c2 σ3 β3 w3 u p →
      (∃ rs, σ3.mem 999991 = some (.frame cvs rs) ∧ ∀ (j : Nat) (c : Nat × Nat), caps[j]? = some c → rs j = .ref c.1 c.2) → ClosK c.P c.gl y dg caps (endDf c.P a.tmps.toList t T K) p σ3 →
      LeavesInM Fence.wide 0 c.P fn a3.tmps (fun e w' => ∃ (us : List Value) (rs' : List R) (σ' : S) (β' : Nat → Value), e = .returned (retV us) ∧ Sim c σ' β' a w' ∧ F2 (RelR β' (stF c σ' β' w') w') us rs' ∧ K σ' rs') a3.defers u w3 := by
    intro p u σ3 β3 a3 w3 hu hs3 hpan hfr hcl
    obtain ⟨Ds3, hds3, hM3⟩ := hs3.df
    rw [hds3, ← hc2P]
    refine marks_outD hu Ds3 hs3 hds3 hM3 fun a4 w4 ht4 hd4 hs4 hH => ?_
    rw [hc2d]
    have hvs : F2 (RelR β3 (stF c2 σ3 β3 w4) w4) cvs (caps.map fun c => .ref c.1 c.2) := by
      obtain ⟨rs3, hfr, hrs⟩ := hfr
      obtain ⟨_, hfr⟩ := hs4.obj _ _ hfr
      refine ⟨by rw [List.length_map]; exact hcv.1, fun j u r hu hr => ?_⟩
      rw [List.getElem?_map] at hr
      obtain ⟨cp, hcp, rfl⟩ := Option.map_eq_some_iff.1 hr
      have := hfr j
      rw [hrs j cp hcp, List.getD_eq_getElem?_getD, hu] at this
      exact this
    have hpan4 : PanOk c2 σ3 β3 w4 u p := by
      cases p with
      | none => exact hpan
      | some q => obtain ⟨v, e, hr⟩ := hpan; exact ⟨v, e, hr.mono hH⟩
    refine ⟨hu, .inr ⟨fun h => by simp [Fence.wide] at h, .func g, cvs.toArray, g, (#[] ++ cvs.toArray : Array Value), rfl, ?_, fun _ _ => trivial, ?_⟩⟩
    · simp only [invoke]
      exact funcs_run ⟨gn, by rw [hc2P]; exact hg, by rw [hgb]; rfl, hgname⟩
    · have hca : (#[] ++ cvs.toArray : Array Value) = cvs.toArray := by simp
      rw [hca, hc2P]
      refine CallsDIn.mono' (closD (n := 0 - 1) hm hg hgb hgres hgd hgdn (by simpa using hgN) hcl hc2P hc2g hs4 hvs hpan4) fun e u' w' hq => ?_
      obtain ⟨v, rfl, hset, σ5, β5, hs5, hfv, o5, off5, r5, hr5, hl5, hk5⟩ := hq
      show LeavesInM _ _ _ _ _ _ [] (settle u') w'
      rw [hset]
      have hs6 := Sim.redf (df := []) (a' := { a4 with defers := [] }) hs5 rfl rfl
      rw [show cxDf c2 [] = cxIn c fn.ntmps Ds by rw [← hc2]; rfl] at hs6
      obtain ⟨rs', hfr'⟩ : ∃ rs', σ5.mem 999999 = some (.frame a.tmps.toList rs') := by
        unfold fvOf at hfv
        split at hfv
        · rename_i vs' rs' e; cases hfv; exact ⟨rs', e⟩
        · cases hfv
      obtain ⟨hl, hst⟩ := leave_sim (a := a) hs6 hfr' hs.size hds
      have hβ : ∀ o, 1000000 ≤ o → (fun o => β5 (upId o)) (o - 1000000) = β5 o := fun o ho => congrArg β5 (upId_of ho)
      obtain ⟨val, hrun, hrel⟩ := load_run (p := .tmp t) hs6 (show loadR (cxIn c fn.ntmps Ds).P σ5 T (σ5.eval _ (.tmp t)) = some r5 by rw [show σ5.eval (cxIn c fn.ntmps Ds).gl (.tmp t) = σ5.regs t from rfl, hr5]; exact hl5)
      have hpt := hs6.reg t
      rw [hr5] at hpt
      obtain ⟨b, _, hpt⟩ := hpt.inv_ref
      have hrg : (resG a4.tmps (.cell t T)).run c.P w' = .ok val w' := by
        have h1 : ({ a4 with defers := [] } : Act).eval (.tmp t) = .pointer (some ⟨b, off5, none⟩) := hpt
        have h2 : a4.tmps.getD t undef = .pointer (some ⟨b, off5, none⟩) := hpt
        rw [h1] at hrun
        have hrun : (loadVar T ⟨b, off5, none⟩).run (cxIn c fn.ntmps Ds).P w' = .ok val w' := by simpa [Instr.loadAt, Instr.sureAddr] using hrun
        simp only [resG, h2, asAddr, Sem.run_bind, Sem.run_pure, Result.andThen_ok]
        exact hrun
      refine ⟨val, ?_, [val], [r5.down], _, _, rfl, hl, F2.cons (RelR.down (β' := fun o => β5 (upId o)) hβ (hrel.mono hst)) F2.nil, hk5⟩
      have e1 : results fn a4.tmps = (do let vs ← fn.results.mapM (resG a4.tmps); pure (if h : vs.size = 1 then vs[0] else .tuple vs)) := rfl
      have e2 : (fn.results.mapM (resG a4.tmps)).run c.P w' = .ok (fn.results.toList.map (resV c.P a4.tmps w')).toArray w' := run_mapM_arr _ (resV c.P a4.tmps w') fun v hv => by
        rw [hres] at hv
        simp only [List.mem_singleton, Array.mem_toList_iff, Array.mem_singleton] at hv
        subst hv
        rw [resV_of hrg]; exact hrg
      rw [e1, Sem.run_bind, e2, Result.andThen_ok, hres]
      show Result.ok (resV c.P a4.tmps w' (.cell t T)) w' = _
      rw [resV_of hrg]
  show Code.wpIn _ _ _ (.seq x2 .ret) _ _ _
  have hx := hx2 cvs c2 _ _ _ none 0 hc2P hc2g (by rw [hc2P]; exact hm) (by rw [hc2N]; exact hd2) (.inl rfl) hs4
  rw [hc2P] at hx
  refine wpIn_seq (wpIn_mono hx fun e a3 w3 he => ?_)
  cases e with
  | exit id => obtain ⟨_, _, _, hk⟩ := he; exact hk.elim
  | ret => obtain ⟨_, _, _, hk⟩ := he; exact hk.elim
  | goto l => exact he.elim
  | outgrown => exact he.elim
  | normal =>
    obtain ⟨σ3, β3, hs3', hfr, hcl⟩ := he
    exact wpIn_ret (leave none .returning σ3 β3 a3 w3 (by simp) hs3' rfl hfr hcl)
  | panic ch =>
    obtain ⟨σ3, β3, t3, v3, r3, rfl, hs3', hr3, hfr, x3, rfl, hcl⟩ := he
    exact leave (some (t3, x3)) (.panicking [{ v := .iface t3 v3, recovered := false }]) σ3 β3 a3 w3 (by simp) hs3' ⟨v3, rfl, by cases hr3 with | a h => exact h⟩ hfr hcl
end Go.VC
end
section
set_option maxRecDepth 100000
set_option linter.unusedSimpArgs false
set_option linter.unusedVariables false
set_option linter.unnecessarySimpa false
namespace Go.VC
open Go.RowKit Go.Proofs Go.IntWalk
def andN (a b : Nat) : Nat := a ^^^ (a &&& b)
theorem andN_bit (a b i : Nat) : (andN a b).testBit i = (a.testBit i && !b.testBit i) := by
  rw [andN, Nat.testBit_xor, Nat.testBit_and]; cases a.testBit i <;> cases b.testBit i <;> rfl
theorem andN_lt {a b : Nat} (ha : a < 2 ^ 32) : andN a b < 2 ^ 32 := Nat.xor_lt_two_pow ha (Nat.lt_of_le_of_lt Nat.and_le_left ha)
theorem u32_andn {a b : Nat} (ha : a < 2 ^ 32) (hb : b < 2 ^ 32) : andnK .u32 a b = ((andN a b : Nat) : Int) := by
  show IntKind.u32.wrap (BitVec.ofInt 32 (a : Int) &&& ~~~ BitVec.ofInt 32 (b : Int)).toNat = _
  have e : (BitVec.ofInt 32 (a : Int) &&& ~~~ BitVec.ofInt 32 (b : Int)) = BitVec.ofNat 32 (andN a b) := by
    rw [BitVec.ofInt_natCast, BitVec.ofInt_natCast]
    refine BitVec.eq_of_getLsbD_eq fun i hi => ?_
    simp only [BitVec.getLsbD_and, BitVec.getLsbD_not, BitVec.getLsbD_ofNat, andN_bit, hi, decide_true, Bool.true_and]
  have hl := andN_lt (a := a) (b := b) ha
  have e2 : (BitVec.ofInt 32 (a : Int) &&& ~~~ BitVec.ofInt 32 (b : Int)).toNat = andN a b := by
    rw [e, BitVec.toNat_ofNat, Nat.mod_eq_of_lt hl]
  rw [show (BitVec.ofInt 32 (a : Int) &&& ~~~BitVec.ofInt 32 (b : Int)).toNat = andN a b from e2]
  exact u32_in _ (by omega)
/-- The bits of a row of places. -/
def rowB (row : List Nat) : Nat := row.foldl (fun b k => b ||| 2 ^ k) 0
theorem rowB_s (row : List Nat) (k : Nat) : rowB (row ++ [k]) = rowB row ||| 2 ^ k := by simp [rowB]
theorem rowB_bit : ∀ (row : List Nat) (i : Nat), (rowB row).testBit i = row.contains i := by
  have : ∀ (row : List Nat) (b i : Nat), (row.foldl (fun b k => b ||| 2 ^ k) b).testBit i = (b.testBit i || row.contains i) := by
    intro row
    induction row with
    | nil => intro b i; simp
    | cons k row ih =>
      intro b i
      rw [List.foldl_cons, ih, Nat.testBit_or, Nat.testBit_two_pow, List.contains_cons, Bool.or_assoc]
      congr 2
      by_cases h : k = i
      · simp [h]
      · have : ¬ i = k := fun e => h e.symm
        simp [h, this]
  intro row i
  rw [rowB, this]; simp
theorem rowB_lt {row : List Nat} {n : Nat} (h : ∀ k ∈ row, k < n) (hn : n ≤ 30) : rowB row < 2 ^ 32 := by
  refine Nat.lt_pow_two_of_testBit _ fun i hi => ?_
  rw [rowB_bit]
  cases hc : row.contains i with
  | false => rfl
  | true => have := h i (by simpa using hc); omega
def rowI (row : List Nat) : List Int := row.map fun (k : Nat) => (k : Int)
inductive Out where
  | ret (s : Nat)
  | fin (v : Nat) (row : List Nat) (s : Nat)
def freeR (T : List Txn) (who : Nat) (row : List Nat) (k : Nat) : Bool := (List.range T.length).all fun i => !(who.testBit i && !row.contains i && beforeB T i k)
def mayGo (T : List Txn) (who : Nat) (row : List Nat) (k : Nat) : Bool := who.testBit k && !row.contains k && freeR T who row k
def goStep (T : List Txn) (who C B : Nat) (rec : List Nat → Nat → Out) (row : List Nat) (o : Out) (k : Nat) : Out := match o with
  | .fin v r s => .fin v r s
  | .ret s => if mayGo T who row k = true then (if s = B then .fin 2 [] s else if legalN T C (rowI (row ++ [k])) = row.length + 1 then rec (row ++ [k]) (s + 1) else .ret (s + 1)) else .ret s
def goF (T : List Txn) (who C B : Nat) : Nat → List Nat → Nat → Out
  | 0, row, s => .ret s
  | f + 1, row, s => if rowB row = who then .fin 0 row s else (List.range T.length).foldl (goStep T who C B (goF T who C B f) row) (.ret s)
abbrev seaD (h : List Ev) (T : List Txn) (who C l s : Int) : List D := [.sl (h.map Ev.enc), .sl ((afterR T).map uenc), .v (.int .u32 who), .v (.int .u32 C), dI l, dI s]
def freeAt (T : List Txn) (who : Nat) (row : List Nat) (k i : Nat) : Bool := !(who.testBit i && !row.contains i && beforeB T i k)
theorem nx_all {p : Nat → Bool} {k : Nat} (hl : ∀ i, i < k → p i = true) (hb : p k = true) : ∀ i, i < k + 1 → p i = true := fun i hi => by
  by_cases h : i = k
  · subst h; exact hb
  · exact hl i (by omega)
theorem t1229 (h : List Ev) (T : List Txn) (who : Nat) (C l s : Int) (row : List Nat) (k : Nat) (hT : T.length ≤ 30) (hw : who < 2 ^ 32) (hr : ∀ k ∈ row, k < T.length) (hk : k < T.length) :
    Holds Tryz.prog GL 49 [.d (.pt (seaD h T who C l s)), U (rowB row), I k] [.a (B (freeR T who row k))] := by
  refine fn_holds (vs := [.tmp 6]) (by kernel_rfl) Tryz.func49 rfl rfl (by kernel_rfl) (by kernel_rfl) rfl ?_
  have hal := afterR_len T
  have hin := rowB_lt hr hT
  have hfr : freeR T who row k = (List.range T.length).all (freeAt T who row k) := rfl
  (refine rO ?_; repeat' ((with_reducible first | refine rG ?_ | (refine rS ?_ ?_ <;> intro hp) | (refine rB ?_ ?_ <;> intro hb <;> try rw [hb]) | refine rD ?_ | refine rA ?_ | fail) <;> try simp only [go_sem, simprocAttr, List.length_map]))
  refine awp_loopA (fun i : Nat => [(0, .a (.d (.pt (seaD h T who C l s)))), (1, .a (U (rowB row))), (2, .a (I k)), (12, .a (unsA (afterR T))), (13, .a (I (afterR T).length)), (14, .a (I i))]) (fun _ => []) (fun i => i ≤ T.length ∧ ∀ q, q < i → freeAt T who row k q = true) (T.length - ·) 0 ?_ ?_ ⟨Nat.zero_le _, fun i hi => by omega⟩ ?_
  · simp only [go_sem, simprocAttr, List.length_map]
  · simp only [go_sem, simprocAttr]
  intro i j ⟨hi, hq⟩
  (refine rO ?_; repeat' ((with_reducible first | refine rG ?_ | (refine rS ?_ ?_ <;> intro hp) | (refine rB ?_ ?_ <;> intro hb <;> try rw [hb]) | refine rD ?_ | refine rA ?_ | fail) <;> try simp only [go_sem, simprocAttr, hal]))
  · have hil : i < T.length := by omega
    have hwi := wrap_succ (n := T.length) hil (by simp only [maxLen]; omega)
    have hx := afterR_at hil
    have hb0 : freeAt T who row k i = !(who.testBit i && !row.contains i && beforeB T i k) := rfl
    have hbi : (bitsN (beforeB T i) T.length).testBit k = beforeB T i k := by rw [bitsN_test, decide_eq_true hk, Bool.true_and]
    have hb32 := bits32 (beforeB T i) (n := T.length) (by omega)
    generalize bitsN (beforeB T i) T.length = b at hx hbi hb32
    have h1 := u32_andn hw hin
    have hA := andN_lt (b := rowB row) hw
    have hbA : (andN who (rowB row)).testBit i = (who.testBit i && !row.contains i) := by rw [andN_bit, rowB_bit]
    generalize andN who (rowB row) = A at h1 hA hbA
    have h2 := u32_bit (k := i) hA
    have h3 := u32_bit (k := k) hb32
    rw [hbA] at h2
    rw [hbi] at h3
    generalize (who.testBit i && !row.contains i) = c1 at h2 hb0
    generalize beforeB T i k = c2 at h3 hb0
    have s1 := u32_shr (b := A) (k := i) (by omega)
    have s2 := u32_shr (b := b) (k := k) (by omega)
    cases c1 with
    | false =>
      simp only [Bool.false_eq_true, if_false] at h2
      (refine rO ?_; repeat' ((with_reducible first | refine rG ?_ | (refine rS ?_ ?_ <;> intro hp) | (refine rB ?_ ?_ <;> intro hb <;> try rw [hb]) | refine rD ?_ | refine rA ?_ | fail) <;> try simp only [go_sem, simprocAttr, hx, uenc_eq, h1, s1, h2, hwi]))
      (refine ⟨i + 1, ?_, ?_, ⟨hil, nx_all hq hb0⟩, by dsimp only; omega⟩ <;> simp only [go_sem, simprocAttr, hwi])
    | true =>
      simp only [if_true] at h2
      cases c2 with
      | false =>
        simp only [Bool.false_eq_true, if_false] at h3
        (refine rO ?_; repeat' ((with_reducible first | refine rG ?_ | (refine rS ?_ ?_ <;> intro hp) | (refine rB ?_ ?_ <;> intro hb <;> try rw [hb]) | refine rD ?_ | refine rA ?_ | fail) <;> try simp only [go_sem, simprocAttr, hx, uenc_eq, h1, s1, h2, s2, h3, hwi]))
        (refine ⟨i + 1, ?_, ?_, ⟨hil, nx_all hq hb0⟩, by dsimp only; omega⟩ <;> simp only [go_sem, simprocAttr, hwi])
      | true =>
        simp only [if_true] at h3
        (refine rO ?_; repeat' ((with_reducible first | refine rG ?_ | (refine rS ?_ ?_ <;> intro hp) | (refine rB ?_ ?_ <;> intro hb <;> try rw [hb]) | refine rD ?_ | refine rA ?_ | fail) <;> try simp only [go_sem, simprocAttr, hx, uenc_eq, h1, s1, h2, s2, h3, hwi]))
        rw [hfr]; symm
        rw [List.all_eq_false]
        exact ⟨i, List.mem_range.2 hil, by rw [hb0]; decide⟩
  · have : (List.range T.length).all (freeAt T who row k) = true := by
      rw [List.all_eq_true]; intro q hqm; exact hq q (by have := List.mem_range.1 hqm; omega)
    rw [hfr, this]
theorem t138 (r : List Int) : Holds Tryz.prog GL 50 [intsA r] [.clip (r.map ienc)] := by
  refine fn_holds (vs := [.tmp 2]) (by kernel_rfl) Tryz.func50 rfl rfl (by kernel_rfl) (by kernel_rfl) rfl ?_
  have ht : List.take r.length (List.map ienc r) = List.map ienc r := List.take_of_length_le (by simp)
  (refine rO ?_; repeat' ((with_reducible first | refine rG ?_ | (refine rS ?_ ?_ <;> intro hp) | (refine rB ?_ ?_ <;> intro hb <;> try rw [hb]) | refine rD ?_ | refine rA ?_ | fail) <;> try simp only [go_sem, simprocAttr, List.length_map, ht, Int.le_refl]))
end Go.VC
end
section
set_option maxRecDepth 100000
set_option linter.unusedSimpArgs false
set_option linter.unusedVariables false
set_option linter.unnecessarySimpa false
namespace Go.VC
open Go.RowKit Go.Proofs Go.IntWalk
section
variable {Bd : Nat} {vs : List Value} {n : Nat} {σ0 τ : S}
theorem KeepsB.put {d : Option Tmp} {r : R} (h : KeepsB Bd vs n σ0 τ) : KeepsB Bd vs n σ0 (τ.put d r) := by
  cases d <;> exact ⟨h.fr, h.ob⟩
theorem KeepsB.new {d : Nat} {x : Ob} (hd : decide (d < 999999) = true) (h : KeepsB Bd vs n σ0 τ) : KeepsB Bd vs n σ0 (τ.newOb d x) := by
  have h0 := of_decide_eq_true hd
  have hd1 : decide (d < 1000000) = true := decide_eq_true (by omega)
  have h9 : (d == 999999) = false := by simp; omega
  refine ⟨by simp only [go_sem, simprocAttr, PI, hd1, h.fr, h9], fun o x h1 h2 h3 => ?_⟩
  have h5 := h.ob o x h1 h2 h3
  simp only [go_sem, simprocAttr, PI, hd1, h5, okill_lo (of_decide_eq_true hd1)]
theorem KeepsB.set {d : Nat} {x : Ob} (hd : decide (d < 999999) = true) (h : KeepsB Bd vs n σ0 τ) : KeepsB Bd vs n σ0 (τ.setOb d x) := by
  have h0 := of_decide_eq_true hd
  have hd1 : decide (d < 1000000) = true := decide_eq_true (by omega)
  have h9 : (d == 999999) = false := by simp; omega
  refine ⟨by simp only [go_sem, simprocAttr, PI, hd1, h.fr, h9], fun o x h1 h2 h3 => ?_⟩
  have h5 := h.ob o x h1 h2 h3
  simp only [go_sem, simprocAttr, PI, hd1, h5]
theorem KeepsB.setU {x : Ob} (h : KeepsB Bd vs n σ0 τ) : KeepsB Bd vs n σ0 (τ.setOb (upId n) x) := by
  refine ⟨by simp only [go_sem, simprocAttr, PI, h.fr], fun o x h1 h2 h3 => ?_⟩
  have h5 := h.ob o x h1 h2 h3
  have h6 : (n == o) = false := Bool.beq_comm.trans h1
  simp only [go_sem, simprocAttr, PI, h5, h1, h6]
theorem ofrz_lo {x : Ob} {d : Nat} {f : Nat → D} (h : d < 1000000) : x.up.frz d f = x.up := by
  cases x with
  | box cs =>
    simp only [Ob.up, Ob.frz, List.map_map]
    congr 1
    exact List.map_congr_left fun r _ => frz_up_lo h
  | log e z xs => rfl
  | mpo kv => rfl
  | iter kv seen => rfl
  | frame vs rs => simp only [Ob.up, Ob.frz]; congr 1; funext t; exact frz_up_lo h
  | sem x =>
    simp only [Ob.up, Ob.frz, SemOb.up]
    rw [any_up1 h]; rfl
  | lost => rfl
theorem KeepsB.frz {d : Nat} {f : Nat → D} (hd : decide (d < 999999) = true) (h : KeepsB Bd vs n σ0 τ) : KeepsB Bd vs n σ0 (τ.frz d f) := by
  have h0 := of_decide_eq_true hd
  have hd1 : d < 1000000 := by omega
  have hu : ∀ {o}, ¬ upId o = d := fun {o} e => by have := upId_le o; omega
  refine ⟨?_, fun o x h1 h2 h3 => ?_⟩
  · simp only [S.frz]; rw [if_neg (by omega), h.fr, Option.map_some, ff_lo (decide_eq_true hd1)]
  · simp only [S.frz]; rw [if_neg hu, h.ob o x h1 h2 h3, Option.map_some, ofrz_lo hd1]
theorem KeepsB.left {B' : Nat} {σ' : S} (h : KeepsB Bd vs n σ0 τ) (hB : Bd + 1000000 ≤ B') (hL : LeftB B' (upId n) τ σ') : KeepsB Bd vs n σ0 σ' := by
  refine ⟨hL.m (by have := upId_le n; simp; omega) (decide_eq_true (by omega)) h.fr up_frame, fun o x h1 h2 h3 => ?_⟩
  have := of_decide_eq_true h2
  have := upId_eq o
  exact hL.m (by simp only [go_sem, simprocAttr, PI, h1]) (decide_eq_true (by omega)) (h.ob o x h1 h2 h3) (up_obj x)
end
theorem KeepsB.leave {Bd : Nat} {vs : List Value} {n : Nat} {σ0 τ : S} (hB : Bd ≤ 900000000) (h : KeepsB Bd vs n σ0 τ) : LeftB Bd n σ0 τ.leave :=
  ⟨fun {t r} ht hr => by rw [lv_r, h.fr, lv_f, ht]; exact hr, fun {o x} h1 h2 h3 h4 => by rw [lv_m (loB hB h2), h.ob o x h1 h2 h3]; exact congrArg some h4⟩
theorem KeepsB.enter {Bd : Nat} {vs : List Value} {n : Nat} {rs : List R} {σ : S} (hB : Bd ≤ 900000000) : KeepsB Bd vs n σ (S.enter vs rs σ) :=
  ⟨me_f, fun o x h1 h2 h3 => by rw [me_hi (loB hB h2), h3]; rfl⟩
theorem callQ_own {P : Program} {gl : Nat → Option (List D)} {σ : S} {f : FuncId} {rs : List R} {KR : R → Prop} (ys zs : List A) (h : Holds P gl f ys (zs.map Rv.a)) (ha : argsA σ rs = some ys) (hf : zs.all A.flat = true) (k : KR (retR zs)) : callVQ P gl f rs σ KR := callQ_flat h ha hf k
theorem foldl_range_s {α : Type} (g : α → Nat → α) (a : α) (k : Nat) : (List.range (k + 1)).foldl g a = g ((List.range k).foldl g a) k := by rw [List.range_succ, List.foldl_append]; rfl
def Bd (f : Nat) : Nat := 900000000 - f * 1000000
abbrev seaR (h : List Ev) (T : List Txn) (who C B s : Nat) : List R := [.a (evsA h), .a (unsA (afterR T)), .a (U who), .a (U C), .a (I ((B : Int) - (s : Int))), .a (I s)]
theorem fold_fin {T : List Txn} {who C B : Nat} {rec : List Nat → Nat → Out} {row row' : List Nat} {v s' : Nat} {a : Out} {k n : Nat} (hk : k < n) (h : (List.range (k + 1)).foldl (goStep T who C B rec row) a = .fin v row' s') : (List.range n).foldl (goStep T who C B rec row) a = .fin v row' s' := by
  induction n with
  | zero => omega
  | succ n ih =>
    by_cases e : k = n
    · subst e; exact h
    · rw [foldl_range_s, ih (by omega)]; rfl
theorem may_row {h : List Ev} (hE : checkE h = 0) {row : List Nat} (hnd : row.Nodup) (hin : ∀ k ∈ row, k < (txns h).length) : mayE h (rowI row) = 0 := by
  rw [mayE, if_pos hE, if_pos, if_pos]
  · simp only [noDup, List.drop_zero, List.all_eq_true, List.mem_range, Bool.not_eq_true']
    intro i hi
    rw [rowI, List.length_map] at hi
    simp only [dupAt, rowI, List.getElem?_map, List.getElem?_eq_getElem hi, Option.map_some, ← List.map_take, List.any_map, List.any_eq_false, Function.comp, beq_iff_eq]
    intro y hy e
    have hyi : y = row[i] := by omega
    subst hyi
    obtain ⟨j, hj, hje⟩ := List.mem_iff_getElem.1 hy
    rw [List.length_take] at hj
    rw [List.getElem_take] at hje
    rw [List.nodup_iff_pairwise_ne, List.pairwise_iff_getElem] at hnd
    exact hnd j i (by omega) hi (by omega) hje
  · rw [List.all_eq_true]
    intro x hx
    obtain ⟨k, hk, rfl⟩ := List.mem_map.1 hx
    rw [inT_nat]; exact decide_eq_true (hin k hk)
structure FrI (vs : List Value) (σ0 : S) (o : Nat) (h : List Ev) (T : List Txn) (who C B f : Nat) (row : List Nat) (s0 : Nat) (k : Nat) (τ : S) : Prop where
  le : k ≤ T.length
  r0 : τ.regs 0 = .ref (upId o) 0
  r1 : τ.regs 1 = .a (intsA (rowI row))
  r2 : τ.regs 2 = .a (U (rowB row))
  r23 : τ.regs 23 = .a (I T.length)
  r24 : τ.regs 24 = .a (I k)
  st : ∃ s, (List.range k).foldl (goStep T who C B (goF T who C B f) row) (.ret s0) = .ret s ∧ s ≤ B ∧ τ.mem (upId o) = some (.box (seaR h T who C B s))
  kp : KeepsB (Bd (f + 1)) vs o σ0 τ
theorem from_inl (h : List Ev) (hE : checkE h = 0) (who C B : Nat) (hw : who < 2 ^ (txns h).length) (hC : C < 2 ^ 32) (hB : B ≤ 1000000) : ∀ (f : Nat) (row : List Nat) (s : Nat) {σ : S} {o : Nat} {K : S → List R → Prop} {KP : TypeId → R → S → Prop},
    f ≤ 10 → row.length + f = (txns h).length + 1 → row.Nodup → (∀ k ∈ row, k < (txns h).length) → s ≤ B → decide (o < Bd f) = true → σ.mem o = some (.box (seaR h (txns h) who C B s)) →
    (∀ s' σ', goF (txns h) who C B f row s = .ret s' → s' ≤ B → LeftB (Bd f) o σ σ' → σ'.mem o = some (.box (seaR h (txns h) who C B s')) → K σ' []) →
    (∀ v row' s' σ', goF (txns h) who C B f row s = .fin v row' s' → s' ≤ B → LeftB (Bd f) o σ σ' → σ'.mem o = some (.box (seaR h (txns h) who C B s')) → KP 70 (.a (.ag [dI v, .sl ((rowI row').map ienc)])) σ') →
    InlP Tryz.prog GL 32 [.ref o 0, .a (intsA (rowI row)), .a (U (rowB row))] σ K KP := by
  intro f
  induction f with
  | zero =>
    intro row s σ o K KP _ hl hnd hin
    have := nodup_le (txns h).length row hnd hin
    omega
  | succ f ih =>
    intro row s σ o K KP hf hl hnd hin hs ho mo hK hKP
    have hl6 := txns_len6 h
    have hw32 : who < 2 ^ 32 := Nat.lt_of_lt_of_le hw (Nat.pow_le_pow_right (by omega) (by omega))
    have hb32 := rowB_lt hin (by omega)
    have hal := afterR_len (txns h)
    have hoB := of_decide_eq_true ho
    have hBd : Bd (f + 1) + 1000000 = Bd f := by unfold Bd; omega
    have hB9 : Bd (f + 1) ≤ 900000000 := by unfold Bd; omega
    have hO : decide (o < 999000000) = true := decide_eq_true (by omega)
    have hO1 : decide (upId o < 1000000000) = true := up_lt hO
    refine inlP_body (by kernel_rfl) Tryz.func32 rfl rfl (by kernel_rfl) (by kernel_rfl) rfl fun vs => ?_
    have hK0 : KeepsB (Bd (f + 1)) vs o σ (S.enter vs [.ref o 0, .a (intsA (rowI row)), .a (U (rowB row))] σ) := KeepsB.enter hB9
    have hmo : (S.enter vs [.ref o 0, .a (intsA (rowI row)), .a (U (rowB row))] σ).mem (upId o) = some (.box (seaR h (txns h) who C B s)) := by simp only [go_sem, simprocAttr, PI, hO, mo]
    refine sc_seq (sc_seq (sc_awp ?_))
    (refine rO ?_; repeat' ((with_reducible first | refine rG ?_ | (refine rS ?_ ?_ <;> intro hp) | (refine rB ?_ ?_ <;> intro hb <;> try rw [hb]) | refine rD ?_ | refine rA ?_ | fail) <;> try simp only [go_sem, simprocAttr, PI, hO, hO1, mo]))
    · have hdone : rowB row = who := by omega
      refine sc_cond (b := true) (by simp only [go_sem, simprocAttr]) (fun _ => ?_) (fun e => by cases e)
      refine sc_region (raw_cons rfl ?_)
      simp only [go_sem, simprocAttr, PI]
      refine raw_cons rfl ?_
      simp only [go_sem, simprocAttr, PI]
      refine SemOp.old ?_
      simp only [go_sem, simprocAttr, PI, y_build0]
      refine raw_panic (offs := [(0, 1, false), (1, 1, false)]) (r := .a (.ag [dI 0, .sl ((rowI row).map ienc)])) (by kernel_rfl) (by simp only [go_sem, simprocAttr, PI]) ?_
      refine ⟨by simp only [go_sem, simprocAttr, PI]; try rfl, ?_⟩
      refine hKP 0 row s _ (by simp only [goF, hdone, if_true]) hs (KeepsB.leave (vs := vs) hB9 (by repeat' first | exact hK0 | refine KeepsB.put ?_)) ?_
      rw [lv_m hO]
      simp only [go_sem, simprocAttr, PI, hmo, hO, mo]
    · have hdone : ¬ rowB row = who := by omega
      refine sc_cond (b := false) (by simp only [go_sem, simprocAttr]) (fun e => by cases e) (fun _ => ?_)
      refine sc_awp ?_
      (refine rO ?_; repeat' ((with_reducible first | refine rG ?_ | (refine rS ?_ ?_ <;> intro hp) | (refine rB ?_ ?_ <;> intro hb <;> try rw [hb]) | refine rD ?_ | refine rA ?_ | fail) <;> try simp only [go_sem, simprocAttr]))
      refine sc_seq (sc_awp ?_)
      (refine rO ?_; repeat' ((with_reducible first | refine rG ?_ | (refine rS ?_ ?_ <;> intro hp) | (refine rB ?_ ?_ <;> intro hb <;> try rw [hb]) | refine rD ?_ | refine rA ?_ | fail) <;> try simp only [go_sem, simprocAttr, PI, hO, hO1, mo]))
      refine sc_block ?_
      have hgo : goF (txns h) who C B (f + 1) row s = (List.range (txns h).length).foldl (goStep (txns h) who C B (goF (txns h) who C B f) row) (.ret s) := by simp only [goF, if_neg hdone]
      refine sc_loop (FrI vs σ o h (txns h) who C B f row s) ((txns h).length - ·) 0 ⟨_, Ghost.refl _, Nat.zero_le _, ?_, ?_, ?_, ?_, ?_, ⟨s, rfl, hs, ?_⟩, (by repeat' first | exact hK0 | refine KeepsB.put ?_)⟩ ?_
      iterate 5 (· simp only [go_sem, simprocAttr, PI, hal, List.length_map]; try rfl)
      · simp only [go_sem, simprocAttr, PI, hmo, hO, mo]
      intro k τ ⟨hk, r0, r1, r2, r23, r24, ⟨s1, hs1, hsB, m1⟩, kp⟩
      refine sc_seq (sc_awp ?_)
      (refine rO ?_; repeat' ((with_reducible first | refine rG ?_ | (refine rS ?_ ?_ <;> intro hp) | (refine rB ?_ ?_ <;> intro hb <;> try rw [hb]) | refine rD ?_ | refine rA ?_ | fail) <;> try simp only [go_sem, simprocAttr, PI, r23, r24]))
      · have hkl : k < (txns h).length := by omega
        refine sc_seq (sc_awp ?_)
        (refine rO ?_; repeat' ((with_reducible first | refine rG ?_ | (refine rS ?_ ?_ <;> intro hp) | (refine rB ?_ ?_ <;> intro hb <;> try rw [hb]) | refine rD ?_ | refine rA ?_ | fail) <;> try simp only [go_sem, simprocAttr, PI]))
        refine sc_seq (sc_block ?_)
        refine sc_seq (sc_awp ?_)
        (refine rO ?_; repeat' ((with_reducible first | refine rG ?_ | (refine rS ?_ ?_ <;> intro hp) | (refine rB ?_ ?_ <;> intro hb <;> try rw [hb]) | refine rD ?_ | refine rA ?_ | fail) <;> try simp only [go_sem, simprocAttr, PI, r24]))
        have hw1 := wrap_succ (n := (txns h).length) hkl (by simp only [maxLen]; omega)
        refine sc_seq (sc_seq (sc_awp ?_))
        have h1 := u32_andn hw32 hb32
        have hA := andN_lt (b := rowB row) hw32
        have hbA : (andN who (rowB row)).testBit k = (who.testBit k && !row.contains k) := by rw [andN_bit, rowB_bit]
        generalize andN who (rowB row) = A at h1 hA hbA
        have h2 := u32_bit (k := k) hA
        rw [hbA] at h2
        have s1' := u32_shr (b := A) (k := k) (by omega)
        have hst := foldl_range_s (goStep (txns h) who C B (goF (txns h) who C B f) row) (.ret s) k
        rw [hs1] at hst
        have hmg : mayGo (txns h) who row k = ((who.testBit k && !row.contains k) && freeR (txns h) who row k) := rfl
        generalize hcb : (who.testBit k && !row.contains k) = c1 at h2 hmg
        cases c1 with
        | false =>
          simp only [Bool.false_eq_true, if_false] at h2
          (refine rO ?_; repeat' ((with_reducible first | refine rG ?_ | (refine rS ?_ ?_ <;> intro hp) | (refine rB ?_ ?_ <;> intro hb <;> try rw [hb]) | refine rD ?_ | refine rA ?_ | fail) <;> try simp only [go_sem, simprocAttr, PI, r0, r2, r24, m1, h1, s1', h2]))
          refine sc_cond (b := true) (by simp only [go_sem, simprocAttr]) (fun _ => ?_) (fun e => by cases e)
          refine sc_awp ?_
          (refine rO ?_; repeat' ((with_reducible first | refine rG ?_ | (refine rS ?_ ?_ <;> intro hp) | (refine rB ?_ ?_ <;> intro hb <;> try rw [hb]) | refine rD ?_ | refine rA ?_ | fail) <;> try simp only [go_sem, simprocAttr]))
          refine sc_awp ?_
          (refine rO ?_; repeat' ((with_reducible first | refine rG ?_ | (refine rS ?_ ?_ <;> intro hp) | (refine rB ?_ ?_ <;> intro hb <;> try rw [hb]) | refine rD ?_ | refine rA ?_ | fail) <;> try simp only [go_sem, simprocAttr, PI, r24, hw1]))
          refine ⟨_, k + 1, Ghost.refl _, ⟨hkl, ?_, ?_, ?_, ?_, ?_, ⟨s1, by rw [hst]; simp only [goStep, hmg, Bool.false_and, Bool.false_eq_true, if_false], hsB, ?_⟩, (by repeat' first | exact kp | refine KeepsB.put ?_)⟩, by omega⟩
          iterate 6 (· simp only [go_sem, simprocAttr, PI, r0, r1, r2, r23, r24, m1, hw1]; try rfl)
        | true =>
          simp only [if_true] at h2
          (refine rO ?_; repeat' ((with_reducible first | refine rG ?_ | (refine rS ?_ ?_ <;> intro hp) | (refine rB ?_ ?_ <;> intro hb <;> try rw [hb]) | refine rD ?_ | refine rA ?_ | fail) <;> try simp only [go_sem, simprocAttr, PI, r0, r2, r24, m1, h1, s1', h2]))
          refine call_own _ (t1229 h (txns h) who C ((B : Int) - s1) s1 row k (by omega) hw32 hin hkl) (by simp only [go_sem, simprocAttr, PI, argsA, argA, r0, r2, r24, m1, List.drop_zero]) rfl ?_
          generalize freeR (txns h) who row k = c2 at hmg
          cases c2 with
          | false =>
            (refine rO ?_; repeat' ((with_reducible first | refine rG ?_ | (refine rS ?_ ?_ <;> intro hp) | (refine rB ?_ ?_ <;> intro hb <;> try rw [hb]) | refine rD ?_ | refine rA ?_ | fail) <;> try simp only [go_sem, simprocAttr, PI]))
            refine sc_cond (b := true) (by simp only [go_sem, simprocAttr]) (fun _ => ?_) (fun e => by cases e)
            refine sc_awp ?_
            (refine rO ?_; repeat' ((with_reducible first | refine rG ?_ | (refine rS ?_ ?_ <;> intro hp) | (refine rB ?_ ?_ <;> intro hb <;> try rw [hb]) | refine rD ?_ | refine rA ?_ | fail) <;> try simp only [go_sem, simprocAttr]))
            refine sc_awp ?_
            (refine rO ?_; repeat' ((with_reducible first | refine rG ?_ | (refine rS ?_ ?_ <;> intro hp) | (refine rB ?_ ?_ <;> intro hb <;> try rw [hb]) | refine rD ?_ | refine rA ?_ | fail) <;> try simp only [go_sem, simprocAttr, PI, r24, hw1]))
            refine ⟨_, k + 1, Ghost.refl _, ⟨hkl, ?_, ?_, ?_, ?_, ?_, ⟨s1, by rw [hst]; simp only [goStep, hmg, Bool.true_and, Bool.false_eq_true, if_false], hsB, ?_⟩, (by repeat' first | exact kp | refine KeepsB.put ?_)⟩, by omega⟩
            iterate 6 (· simp only [go_sem, simprocAttr, PI, r0, r1, r2, r23, r24, m1, hw1]; try rfl)
          | true =>
            have hnk : ¬ k ∈ row := fun hkr => by
              have := hcb
              rw [show row.contains k = true by simpa using hkr] at this
              simp at this
            have hndk : (row ++ [k]).Nodup := by
              rw [List.nodup_append]; exact ⟨hnd, by simp, fun a ha b hb => by simp only [List.mem_singleton] at hb; subst hb; exact fun e => hnk (e ▸ ha)⟩
            have hink : ∀ q ∈ row ++ [k], q < (txns h).length := fun q hq => by
              rcases List.mem_append.1 hq with h | h
              · exact hin q h
              · simp only [List.mem_singleton] at h; omega
            (refine rO ?_; repeat' ((with_reducible first | refine rG ?_ | (refine rS ?_ ?_ <;> intro hp) | (refine rB ?_ ?_ <;> intro hb <;> try rw [hb]) | refine rD ?_ | refine rA ?_ | fail) <;> try simp only [go_sem, simprocAttr, PI]))
            refine sc_cond (b := false) (by simp only [go_sem, simprocAttr]) (fun e => by cases e) (fun _ => ?_)
            refine sc_awp ?_
            (refine rO ?_; repeat' ((with_reducible first | refine rG ?_ | (refine rS ?_ ?_ <;> intro hp) | (refine rB ?_ ?_ <;> intro hb <;> try rw [hb]) | refine rD ?_ | refine rA ?_ | fail) <;> try simp only [go_sem, simprocAttr]))
            refine sc_seq (sc_seq (sc_awp ?_))
            (refine rO ?_; repeat' ((with_reducible first | refine rG ?_ | (refine rS ?_ ?_ <;> intro hp) | (refine rB ?_ ?_ <;> intro hb <;> try rw [hb]) | refine rD ?_ | refine rA ?_ | fail) <;> try simp only [go_sem, simprocAttr, PI, r0, m1]))
            · have hsB2 : s1 = B := by omega
              refine sc_cond (b := true) (by simp only [go_sem, simprocAttr]) (fun _ => ?_) (fun e => by cases e)
              refine sc_region (raw_cons rfl ?_)
              simp only [go_sem, simprocAttr, PI]
              refine SemOp.old ?_
              simp only [go_sem, simprocAttr, PI, y_build0]
              refine raw_panic (offs := [(0, 1, false), (1, 1, false)]) (r := .a (.ag [dI 2, .sl []])) (by kernel_rfl) (by simp only [go_sem, simprocAttr, PI]) ?_
              refine ⟨by simp only [go_sem, simprocAttr, PI, kp.fr]; try rfl, ?_⟩
              refine hKP 2 [] s1 _ ?_ hsB (KeepsB.leave (vs := vs) hB9 (by repeat' first | exact kp | refine KeepsB.put ?_)) ?_
              · rw [hgo]
                refine fold_fin hkl ?_
                rw [hst]; simp only [goStep, hmg, Bool.true_and, if_true, if_pos hsB2]
              · rw [lv_m hO]
                simp only [go_sem, simprocAttr, PI, m1]
            · have hsB2 : ¬ s1 = B := by omega
              refine sc_cond (b := false) (by simp only [go_sem, simprocAttr]) (fun e => by cases e) (fun _ => ?_)
              refine sc_awp ?_
              (refine rO ?_; repeat' ((with_reducible first | refine rG ?_ | (refine rS ?_ ?_ <;> intro hp) | (refine rB ?_ ?_ <;> intro hb <;> try rw [hb]) | refine rD ?_ | refine rA ?_ | fail) <;> try simp only [go_sem, simprocAttr]))
              have hwl : IntKind.i64.wrap ((B : Int) - s1 - 1) = (B : Int) - ((s1 + 1 : Nat) : Int) := by rw [i64_in _ (by omega)]; omega
              have hws : IntKind.i64.wrap ((s1 : Int) + 1) = ((s1 + 1 : Nat) : Int) := by rw [i64_in _ (by omega)]; omega
              refine sc_seq (sc_awp ?_)
              (refine rO ?_; repeat' ((with_reducible first | refine rG ?_ | (refine rS ?_ ?_ <;> intro hp) | (refine rB ?_ ?_ <;> intro hb <;> try rw [hb]) | refine rD ?_ | refine rA ?_ | fail) <;> try simp only [go_sem, simprocAttr, PI, r0, m1, hO, hO1, hwl]))
              refine sc_seq (sc_awp ?_)
              (refine rO ?_; repeat' ((with_reducible first | refine rG ?_ | (refine rS ?_ ?_ <;> intro hp) | (refine rB ?_ ?_ <;> intro hb <;> try rw [hb]) | refine rD ?_ | refine rA ?_ | fail) <;> try simp only [go_sem, simprocAttr, PI, r0, m1, hO, hO1, hws]))
              refine sc_seq (sc_awp ?_)
              (refine rO ?_; repeat' ((with_reducible first | refine rG ?_ | (refine rS ?_ ?_ <;> intro hp) | (refine rB ?_ ?_ <;> intro hb <;> try rw [hb]) | refine rD ?_ | refine rA ?_ | fail) <;> try simp only [go_sem, simprocAttr, PI, r1]))
              refine call_dat (t138 (rowI row)) ?_
              have hril : (rowI row).length ≤ 100 := by rw [rowI, List.length_map]; omega
              (refine rO ?_; repeat' ((with_reducible first | refine rG ?_ | (refine rS ?_ ?_ <;> intro hp) | (refine rB ?_ ?_ <;> intro hb <;> try rw [hb]) | refine rD ?_ | refine rA ?_ | fail) <;> try simp only [go_sem, simprocAttr, PI, List.length_map]))
              refine sc_seq (sc_awp ?_)
              have hmore : (rowI row).map ienc ++ [[dI k]] = (rowI (row ++ [k])).map ienc := by simp [rowI, ienc]
              have hmI := may_row hE hndk hink
              (refine rO ?_; repeat' ((with_reducible first | refine rG ?_ | (refine rS ?_ ?_ <;> intro hp) | (refine rB ?_ ?_ <;> intro hb <;> try rw [hb]) | refine rD ?_ | refine rA ?_ | fail) <;> try simp only [go_sem, simprocAttr, PI, r0, m1, hO, hO1, hmore]))
              have hmlen : (rowI (row ++ [k])).length = row.length + 1 := by rw [rowI, List.length_map, List.length_append]; rfl
              refine callQ_own [evsA h, intsA (rowI (row ++ [k])), U C] [I (legV h (rowI (row ++ [k])) C), I (mayE h (rowI (row ++ [k])))] (t48 h (rowI (row ++ [k])) C hC) (by simp only [go_sem, simprocAttr, PI, argsA, argA, hmore]) rfl ?_
              rw [legV, if_pos hmI, hmI]
              (refine rO ?_; repeat' ((with_reducible first | refine rG ?_ | (refine rS ?_ ?_ <;> intro hp) | (refine rB ?_ ?_ <;> intro hb <;> try rw [hb]) | refine rD ?_ | refine rA ?_ | fail) <;> try simp only [go_sem, simprocAttr, PI]))
              refine sc_seq (sc_awp ?_)
              (refine rO ?_; repeat' ((with_reducible first | refine rG ?_ | (refine rS ?_ ?_ <;> intro hp) | (refine rB ?_ ?_ <;> intro hb <;> try rw [hb]) | refine rD ?_ | refine rA ?_ | fail) <;> try simp only [go_sem, simprocAttr, PI, hmlen, List.length_map]))
              · have hp2 := hp
                rw [hmore, List.length_map, hmlen] at hp2
                have hleg : legalN (txns h) C (rowI (row ++ [k])) = row.length + 1 := by omega
                have hsh := u32_shl (k := k) (by omega)
                have h2k : 2 ^ k < 2 ^ 32 := Nat.pow_lt_pow_right (by omega) (by omega)
                have hor := u32_or hb32 h2k
                rw [← rowB_s] at hor
                have hstep : goStep (txns h) who C B (goF (txns h) who C B f) row (.ret s1) k = goF (txns h) who C B f (row ++ [k]) (s1 + 1) := by
                  simp only [goStep, hmg, Bool.true_and, if_true, if_neg hsB2, if_pos hleg]
                rw [hstep] at hst
                have hoU : decide (upId o < Bd f) = true := decide_eq_true (by have := upId_eq o; omega)
                refine sc_cond (b := true) (by simp only [go_sem, simprocAttr]) (fun _ => ?_) (fun e => by cases e)
                refine sc_ghost (g_frz (t := 7) (o := 69) (xs := (rowI (row ++ [k])).map ienc) (by simp only [go_sem, simprocAttr, PI]) (by simp only [go_sem, simprocAttr, PI, hmore]; rfl) (by omega)) ?_
                refine sc_region (raw_cons rfl ?_)
                simp only [go_sem, simprocAttr, PI, r0]
                refine raw_cons rfl ?_
                simp only [go_sem, simprocAttr, PI]
                refine raw_cons rfl ?_
                simp only [go_sem, simprocAttr, PI, r2]
                refine raw_cons rfl ?_
                simp only [go_sem, simprocAttr, PI]
                refine raw_cons rfl ?_
                simp only [go_sem, simprocAttr, PI, hsh]
                refine raw_cons rfl ?_
                simp only [go_sem, simprocAttr, PI, hsh, hor]
                refine raw_call (g := 32) (rs := [.ref (upId o) 0, .a (intsA (rowI (row ++ [k]))), .a (U (rowB (row ++ [k])))]) rfl rfl (by simp only [go_sem, simprocAttr, PI, r0, r2, List.map_cons, List.map_nil]) ?_
                refine ih (row ++ [k]) (s1 + 1) (by omega) (by rw [List.length_append, List.length_cons, List.length_nil]; omega) hndk hink (by omega) hoU (by simp only [go_sem, simprocAttr, PI, m1]) ?_ ?_
                · intro s2 σ' hg2 hs2 hL hm2
                  have kp2 := KeepsB.left (Bd := Bd (f + 1)) (vs := vs) (σ0 := σ) (h := (by repeat' first | (with_reducible exact kp) | (with_reducible refine KeepsB.put ?_) | (with_reducible refine KeepsB.setU ?_) | refine KeepsB.frz rfl ?_ | refine KeepsB.new rfl ?_ | exact kp)) (Nat.le_of_eq hBd) hL
                  have q24 := hL.r (t := 24) (r := .a (I k)) (by simp only [go_sem, simprocAttr, PI, r24]) rfl
                  have q23 := hL.r (t := 23) (r := .a (I (txns h).length)) (by simp only [go_sem, simprocAttr, PI, r23]) rfl
                  have q0 := hL.r (t := 0) (r := .ref (upId o) 0) (by simp only [go_sem, simprocAttr, PI, r0]) up_ref1
                  have q1 := hL.r (t := 1) (r := .a (intsA (rowI row))) (by simp only [go_sem, simprocAttr, PI, r1]) rfl
                  have q2 := hL.r (t := 2) (r := .a (U (rowB row))) (by simp only [go_sem, simprocAttr, PI, r2]) rfl
                  refine sc_awp ?_
                  (refine rO ?_; repeat' ((with_reducible first | refine rG ?_ | (refine rS ?_ ?_ <;> intro hp) | (refine rB ?_ ?_ <;> intro hb <;> try rw [hb]) | refine rD ?_ | refine rA ?_ | fail) <;> try simp only [go_sem, simprocAttr, PI, q24, hw1]))
                  refine ⟨_, k + 1, Ghost.refl _, ⟨hkl, ?_, ?_, ?_, ?_, ?_, ⟨s2, by rw [hst, hg2], hs2, ?_⟩, (by repeat' first | exact kp2 | refine KeepsB.put ?_)⟩, by omega⟩
                  iterate 6 (· simp only [go_sem, simprocAttr, PI, q0, q1, q2, q23, q24, hm2, hw1]; try rfl)
                · intro v row' s2 σ' hg2 hs2 hL hm2
                  have kp2 := KeepsB.left (Bd := Bd (f + 1)) (vs := vs) (σ0 := σ) (h := (by repeat' first | (with_reducible exact kp) | (with_reducible refine KeepsB.put ?_) | (with_reducible refine KeepsB.setU ?_) | refine KeepsB.frz rfl ?_ | refine KeepsB.new rfl ?_ | exact kp)) (Nat.le_of_eq hBd) hL
                  refine ⟨by simp only [go_sem, simprocAttr, PI, kp2.fr]; try rfl, ?_⟩
                  refine hKP v row' s2 _ ?_ hs2 (KeepsB.leave (vs := vs) hB9 kp2) ?_
                  · rw [hgo]
                    exact fold_fin hkl (by rw [hst, hg2])
                  · rw [lv_m hO, hm2]
                    simp only [go_sem, simprocAttr, PI]
              · have hp2 := hp
                rw [hmore, List.length_map, hmlen] at hp2
                have hleg : ¬ legalN (txns h) C (rowI (row ++ [k])) = row.length + 1 := by omega
                refine sc_cond (b := false) (by simp only [go_sem, simprocAttr]) (fun e => by cases e) (fun _ => ?_)
                refine sc_awp ?_
                (refine rO ?_; repeat' ((with_reducible first | refine rG ?_ | (refine rS ?_ ?_ <;> intro hp) | (refine rB ?_ ?_ <;> intro hb <;> try rw [hb]) | refine rD ?_ | refine rA ?_ | fail) <;> try simp only [go_sem, simprocAttr]))
                refine sc_awp ?_
                (refine rO ?_; repeat' ((with_reducible first | refine rG ?_ | (refine rS ?_ ?_ <;> intro hp) | (refine rB ?_ ?_ <;> intro hb <;> try rw [hb]) | refine rD ?_ | refine rA ?_ | fail) <;> try simp only [go_sem, simprocAttr, PI, r24, hw1]))
                refine ⟨_, k + 1, Ghost.refl _, ⟨hkl, ?_, ?_, ?_, ?_, ?_, ⟨s1 + 1, by rw [hst]; simp only [goStep, hmg, Bool.true_and, if_true, if_neg hsB2, if_neg hleg], by omega, ?_⟩, (by repeat' first | (with_reducible exact kp) | (with_reducible refine KeepsB.put ?_) | (with_reducible refine KeepsB.setU ?_) | refine KeepsB.new rfl ?_ | exact kp)⟩, by omega⟩
                iterate 6 (· simp only [go_sem, simprocAttr, PI, r0, r1, r2, r23, r24, m1, hw1]; try rfl)
      · refine sc_awp ?_
        (refine rO ?_; repeat' ((with_reducible first | refine rG ?_ | (refine rS ?_ ?_ <;> intro hp) | (refine rB ?_ ?_ <;> intro hb <;> try rw [hb]) | refine rD ?_ | refine rA ?_ | fail) <;> try simp only [go_sem, simprocAttr]))
        have hkn : k = (txns h).length := by omega
        subst hkn
        refine ⟨_, Ghost.refl _, by simp only [go_sem, simprocAttr, PI, kp.fr]; try rfl, ?_⟩
        refine hK s1 _ (by rw [hgo, hs1]) hsB (KeepsB.leave (vs := vs) hB9 (by repeat' first | exact kp | refine KeepsB.put ?_)) ?_
        rw [lv_m hO]
        simp only [go_sem, simprocAttr, PI, m1]
end Go.VC
end
section
set_option maxRecDepth 100000
set_option linter.unusedSimpArgs false
set_option linter.unusedVariables false
set_option linter.unnecessarySimpa false
namespace Go.VC
open Go.RowKit Go.Proofs Go.IntWalk
theorem InlP.nilArg {P : Program} {gl : Nat → Option (List D)} {f : FuncId} {r1 r3 : R} {σ : S} {K : S → List R → Prop} {KP : TypeId → R → S → Prop} (h : InlP P gl f [r1, .a (.d (.sl [])), r3] σ K KP) : InlP P gl f [r1, .cs [], r3] σ K KP :=
  ⟨h.1, fun c β a w vs hP hgl hs hv => h.2 c β a w vs hP hgl hs (by
    obtain ⟨u1, l1, rfl, h1, hv⟩ := hv.of_cons
    obtain ⟨u2, l2, rfl, h2, hv2⟩ := hv.of_cons
    obtain ⟨p, n, rfl, h3⟩ := h2.inv_cs
    exact F2.cons h1 (F2.cons (RelR.a (x := .d (.sl [])) (show Rd _ _ _ _ from h3)) hv2))⟩
/-- What a search found. -/
structure Fnd where
  v : Nat
  c : Nat
  row : List Nat
  s : Nat
abbrev Fnd.a (x : Fnd) : A := .ag [dI x.v, .v (.int .u32 x.c), .sl ((rowI x.row).map ienc), dI x.s]
def Out.fnd (C : Nat) : Out → Fnd
  | .ret s => ⟨1, 0, [], s⟩
  | .fin v row s => if v = 0 then ⟨0, C, row, s⟩ else ⟨v, 0, [], s⟩
def foundF (T : List Txn) (who C B : Nat) : Fnd := (goF T who C B (T.length + 1) [] 0).fnd C
/-- The end of search's closure. -/
theorem clos_end {P : Program} {vs vs' : List Value} {T : TypeId} {bs : Nat} {z : List Value} {σ σ3 τ : S} {o : Nat} {K : S → List R → Prop} {ds : List D} (hT : tinf P T = some ⟨4, bs, true, z⟩) (kpc : KeepsB 900000000 vs' 2 σ3 τ) (kp : KeepsB 800000000 vs o σ σ3) (r2 : σ3.regs 2 = .ref 2 0)
    (m2 : τ.mem (upId 2) = some (.box (ds.map fun d => .a (.d d)))) (hl : ds.length = 4) (hK : ∀ σ' : S, LeftB 800000000 o σ σ' → K σ' [.a (.ag ds)]) : postC vs' (endDf P vs 2 T K) .normal τ := by
  have L := KeepsB.leave (Nat.le_refl _) kpc
  have kp2 : KeepsB 800000000 vs o σ τ.leave := ⟨L.m rfl rfl kp.fr up_frame, fun o' x h1 h2 h3 => by
    have := of_decide_eq_true h2
    have := upId_eq o'
    exact L.m (by simp; omega) (decide_eq_true (by omega)) (kp.ob o' x h1 h2 h3) (up_obj x)⟩
  have hm2 : τ.leave.mem 2 = some (.box (ds.map fun d => .a (.d d))) := by
    rw [lv_m rfl, m2]
    simp only [Option.map_some, Ob.down, List.map_map]
    rfl
  refine ⟨by rw [kpc.fr]; rfl, by rw [kp2.fr]; rfl, 2, 0, .a (.ag ds), L.r r2 up_ref1, ?_, hK _ (KeepsB.leave (by omega) kp2)⟩
  have ht : List.take 4 (ds.map fun d => R.a (.d d)) = ds.map fun d => R.a (.d d) := List.take_of_length_le (by simp [hl])
  simp only [loadR, hT, hm2, List.drop_zero, ht, allD_map, Nat.zero_add, List.length_map, hl, Nat.le_refl, if_true, Option.map_some]
theorem search_inl (h : List Ev) (hE : checkE h = 0) (who C B : Nat) (hw : who < 2 ^ (txns h).length) (hC : C < 2 ^ 32) (hB : B ≤ 1000000) {σ : S} {o : Nat} {K : S → List R → Prop} (ho : decide (o < 800000000) = true) (mo : σ.mem o = some (.box (seaR h (txns h) who C B 0)))
    (hK : ∀ σ' : S, LeftB 800000000 o σ σ' → K σ' [.a (foundF (txns h) who C B).a]) : Inl Tryz.prog GL 20 [.ref o 0] σ K := by
  have hO1 := of_decide_eq_true ho
  have hO : decide (o < 999000000) = true := decide_eq_true (by omega)
  have hOU : decide (upId o < 1000000000) = true := up_lt hO
  refine inl_defer (caps := [(1, 0), (2, 0)]) (by kernel_rfl) Tryz.func20 rfl rfl rfl rfl (by kernel_rfl) rfl (by decide) rfl rfl Tryz.func31 rfl rfl rfl (by decide) rfl (by kernel_rfl) (by decide) fun vs => ?_
  refine sd_region ?_
  (refine rO ?_; repeat' ((with_reducible first | refine rG ?_ | (refine rS ?_ ?_ <;> intro hp) | (refine rB ?_ ?_ <;> intro hb <;> try rw [hb]) | refine rD ?_ | refine rA ?_ | fail) <;> try simp only [go_sem, simprocAttr, PI, hO, hOU, mo]))
  generalize hcl : ClosK Tryz.prog GL _ _ _ _ = CL
  have hoU : decide (upId o < Bd ((txns h).length + 1)) = true := decide_eq_true (by have := upId_eq o; have := txns_len6 h; unfold Bd; omega)
  have hl6 := txns_len6 h
  -- what the closure does
  have clos : ∀ (p : Option (TypeId × A)) (σ3 : S) (s' : Nat), KeepsB 800000000 vs o σ σ3 → σ3.mem 1 = some (.box [.ref (upId o) 0]) → σ3.mem 2 = some (.box [.a (I 0), .a (U 0), .a (.d (.sl [])), .a (I 0)]) → σ3.mem (upId o) = some (.box (seaR h (txns h) who C B s')) → σ3.regs 2 = .ref 2 0 →
      ((p = none ∧ goF (txns h) who C B ((txns h).length + 1) [] 0 = .ret s') ∨ ∃ v row', p = some (70, .ag [dI (v : Nat), .sl ((rowI row').map ienc)]) ∧ goF (txns h) who C B ((txns h).length + 1) [] 0 = .fin v row' s') → CL p σ3 := by
    intro p σ3 s' kp m1 m2 mo3 r2 hp
    rw [← hcl]
    intro vs'
    have hU2 : decide (upId o < 999000000) = true := decide_eq_true (by have := upId_eq o; omega)
    have kpc0 : KeepsB 900000000 vs' 2 σ3 (S.enter vs' [.ref 1 0, .ref 2 0] σ3) := KeepsB.enter (Nat.le_refl _)
    have hT44 : tinf Tryz.prog 37 = some ⟨4, 48, true, [.int .i64 0, .int .u32 0, .slice none 0 0, .int .i64 0]⟩ := by kernel_rfl
    have hfo : foundF (txns h) who C B = (goF (txns h) who C B ((txns h).length + 1) [] 0).fnd C := rfl
    rcases hp with ⟨rfl, hgo⟩ | ⟨v, row', rfl, hgo⟩
    · rw [hgo] at hfo
      simp only [S.recov, List.map_cons, List.map_nil]
      refine sd_block (sd_seq (sd_region ?_))
      (refine rO ?_; repeat' ((with_reducible first | refine rG ?_ | (refine rS ?_ ?_ <;> intro hp) | (refine rB ?_ ?_ <;> intro hb <;> try rw [hb]) | refine rD ?_ | refine rA ?_ | fail) <;> try simp only [go_sem, simprocAttr, PI]))
      refine sem_nil_nil Tryz.underlying20 (by simp only [go_sem, simprocAttr]) ?_
      (refine rO ?_; repeat' ((with_reducible first | refine rG ?_ | (refine rS ?_ ?_ <;> intro hp) | (refine rB ?_ ?_ <;> intro hb <;> try rw [hb]) | refine rD ?_ | refine rA ?_ | fail) <;> try simp only [go_sem, simprocAttr, PI]))
      refine sd_cond (b := true) (by simp only [go_sem, simprocAttr]) (fun _ => ?_) (fun e => by cases e)
      refine sd_seq (sd_region ?_)
      (refine rO ?_; repeat' ((with_reducible first | refine rG ?_ | (refine rS ?_ ?_ <;> intro hp) | (refine rB ?_ ?_ <;> intro hb <;> try rw [hb]) | refine rD ?_ | refine rA ?_ | fail) <;> try simp only [go_sem, simprocAttr, PI]))
      refine sd_region ?_
      (refine rO ?_; repeat' ((with_reducible first | refine rG ?_ | (refine rS ?_ ?_ <;> intro hp) | (refine rB ?_ ?_ <;> intro hb <;> try rw [hb]) | refine rD ?_ | refine rA ?_ | fail) <;> try simp only [go_sem, simprocAttr, PI, m1, m2, mo3, hU2]))
      refine SemOp.old ?_
      (refine rO ?_; repeat' ((with_reducible first | refine rG ?_ | (refine rS ?_ ?_ <;> intro hp) | (refine rB ?_ ?_ <;> intro hb <;> try rw [hb]) | refine rD ?_ | refine rA ?_ | fail) <;> try simp only [go_sem, simprocAttr, PI, y_load0, m1, m2, mo3, hU2]))
      refine SemOp.old ?_
      (refine rO ?_; repeat' ((with_reducible first | refine rG ?_ | (refine rS ?_ ?_ <;> intro hp) | (refine rB ?_ ?_ <;> intro hb <;> try rw [hb]) | refine rD ?_ | refine rA ?_ | fail) <;> try simp only [go_sem, simprocAttr, PI, y_build0, m1, m2, mo3, hU2]))
      refine clos_end (ds := [dI 1, .v (.int .u32 0), .sl [], dI s']) hT44 (by repeat' first | (with_reducible exact kpc0) | (with_reducible refine KeepsB.put ?_) | (with_reducible refine KeepsB.setU ?_) | refine KeepsB.new rfl ?_ | exact kpc0) kp r2 (by simp only [go_sem, simprocAttr, PI, m2]; try rfl) rfl (fun σ' hL => ?_)
      have := hK σ' hL
      rw [hfo] at this; exact this
    · rw [hgo] at hfo
      simp only [S.recov, List.map_cons, List.map_nil]
      refine sd_block (sd_seq (sd_region ?_))
      (refine rO ?_; repeat' ((with_reducible first | refine rG ?_ | (refine rS ?_ ?_ <;> intro hp) | (refine rB ?_ ?_ <;> intro hb <;> try rw [hb]) | refine rD ?_ | refine rA ?_ | fail) <;> try simp only [go_sem, simprocAttr, PI]))
      refine sem_if_nil Tryz.underlying20 (q := 999990) (T := 70) (y := .ag [dI (v : Nat), .sl ((rowI row').map ienc)]) (by simp only [go_sem, simprocAttr]) (by simp only [go_sem, simprocAttr]) ?_
      (refine rO ?_; repeat' ((with_reducible first | refine rG ?_ | (refine rS ?_ ?_ <;> intro hp) | (refine rB ?_ ?_ <;> intro hb <;> try rw [hb]) | refine rD ?_ | refine rA ?_ | fail) <;> try simp only [go_sem, simprocAttr, PI]))
      refine sd_cond (b := false) (by simp only [go_sem, simprocAttr]) (fun e => by cases e) (fun _ => ?_)
      refine sd_seq (sd_region ?_)
      (refine rO ?_; repeat' ((with_reducible first | refine rG ?_ | (refine rS ?_ ?_ <;> intro hp) | (refine rB ?_ ?_ <;> intro hb <;> try rw [hb]) | refine rD ?_ | refine rA ?_ | fail) <;> try simp only [go_sem, simprocAttr, PI]))
      refine sem_assert (q := 999990) (y := .ag [dI (v : Nat), .sl ((rowI row').map ienc)]) (offs := [(0, 1, false), (1, 1, false)]) (by kernel_rfl) (by simp only [go_sem, simprocAttr]) (by simp only [go_sem, simprocAttr]) ?_
      (refine rO ?_; repeat' ((with_reducible first | refine rG ?_ | (refine rS ?_ ?_ <;> intro hp) | (refine rB ?_ ?_ <;> intro hb <;> try rw [hb]) | refine rD ?_ | refine rA ?_ | fail) <;> try simp only [go_sem, simprocAttr, PI]))
      refine sd_cond (b := true) (by simp only [go_sem, simprocAttr]) (fun _ => ?_) (fun e => by cases e)
      refine sd_seq (sd_region ?_)
      (refine rO ?_; repeat' ((with_reducible first | refine rG ?_ | (refine rS ?_ ?_ <;> intro hp) | (refine rB ?_ ?_ <;> intro hb <;> try rw [hb]) | refine rD ?_ | refine rA ?_ | fail) <;> try simp only [go_sem, simprocAttr, PI]))
      refine sd_seq (sd_draw ?_)
      (refine rO ?_; repeat' ((with_reducible first | refine rG ?_ | (refine rS ?_ ?_ <;> intro hp) | (refine rB ?_ ?_ <;> intro hb <;> try rw [hb]) | refine rD ?_ | refine rA ?_ | fail) <;> try simp only [go_sem, simprocAttr, PI, m1, m2, mo3, hU2]))
      refine sd_seq (sd_region ?_)
      (refine rO ?_; repeat' ((with_reducible first | refine rG ?_ | (refine rS ?_ ?_ <;> intro hp) | (refine rB ?_ ?_ <;> intro hb <;> try rw [hb]) | refine rD ?_ | refine rA ?_ | fail) <;> try simp only [go_sem, simprocAttr, PI]))
      · have hv0 : v = 0 := by omega
        refine sd_cond (b := true) (by simp only [go_sem, simprocAttr]) (fun _ => ?_) (fun e => by cases e)
        refine sd_drawF [[4, 5], []] (by decide +kernel) ?_
        (refine rO ?_; repeat' ((with_reducible first | refine rG ?_ | (refine rS ?_ ?_ <;> intro hp) | (refine rB ?_ ?_ <;> intro hb <;> try rw [hb]) | refine rD ?_ | refine rA ?_ | fail) <;> try simp only [go_sem, simprocAttr, PG, PI, m1, m2, mo3, hU2]))
        refine clos_end (ds := [dI v, .v (.int .u32 C), .sl ((rowI row').map ienc), dI s']) hT44 (by repeat' first | (with_reducible exact kpc0) | (with_reducible refine KeepsB.put ?_) | (with_reducible refine KeepsB.setU ?_) | refine KeepsB.new rfl ?_ | refine KeepsB.set rfl ?_ | exact kpc0) kp r2 (by simp only [go_sem, simprocAttr, PI, m2]; try rfl) rfl (fun σ' hL => ?_)
        have := hK σ' hL
        rw [hfo] at this
        simp only [Out.fnd, if_pos hv0] at this
        rw [hv0]; exact this
      · have hv0 : ¬ v = 0 := by omega
        refine sd_cond (b := false) (by simp only [go_sem, simprocAttr]) (fun e => by cases e) (fun _ => ?_)
        refine sd_skip ?_
        (refine rO ?_; repeat' ((with_reducible first | refine rG ?_ | (refine rS ?_ ?_ <;> intro hp) | (refine rB ?_ ?_ <;> intro hb <;> try rw [hb]) | refine rD ?_ | refine rA ?_ | fail) <;> try simp only [go_sem, simprocAttr, PI]))
        refine clos_end (ds := [dI v, .v (.int .u32 0), .sl [], dI s']) hT44 (by repeat' first | (with_reducible exact kpc0) | (with_reducible refine KeepsB.put ?_) | (with_reducible refine KeepsB.setU ?_) | refine KeepsB.new rfl ?_ | refine KeepsB.set rfl ?_ | exact kpc0) kp r2 (by simp only [go_sem, simprocAttr, PI, m2]; try rfl) rfl (fun σ' hL => ?_)
        have := hK σ' hL
        rw [hfo] at this
        simp only [Out.fnd, if_neg hv0] at this
        exact this
  intro cvs
  refine sc_region (raw_cons rfl ?_)
  simp only [go_sem, simprocAttr, PI, hO, hOU, mo]
  refine SemOp.old ?_
  simp only [go_sem, simprocAttr, PI, y_load0, hO, hOU, mo]
  refine raw_call (g := 32) (rs := [.ref (upId o) 0, .cs [], .a (U 0)]) rfl rfl (by simp only [go_sem, simprocAttr, PI, List.map_cons, List.map_nil]; rfl) ?_
  refine InlP.nilArg ?_
  have hmo : (S.enter vs [.ref o 0] σ).mem (upId o) = some (.box (seaR h (txns h) who C B 0)) := by simp only [go_sem, simprocAttr, PI, hO, mo]; rfl
  have kp0 : KeepsB 800000000 vs o σ (S.enter vs [.ref o 0] σ) := KeepsB.enter (by omega)
  have hB8 : 800000000 + 1000000 ≤ Bd ((txns h).length + 1) := by unfold Bd; omega
  have d1 : decide (1 < Bd ((txns h).length + 1)) = true := decide_eq_true (by omega)
  have d2 : decide (2 < Bd ((txns h).length + 1)) = true := decide_eq_true (by omega)
  have d9 : decide (999991 < Bd ((txns h).length + 1)) = true := decide_eq_true (by omega)
  have hx1 : Ob.down (Ob.up (.box [.ref (upId o) 0])) = .box [.ref (upId o) 0] := by simp [Ob.up, Ob.down, R.up, R.down, upId_sub, upId_le]
  have hx9 : Ob.down (Ob.up (.frame cvs (capsR [(1, 0), (2, 0)]))) = .frame cvs (capsR [(1, 0), (2, 0)]) := by
    show Ob.frame cvs (fun t => ((capsR [(1, 0), (2, 0)] t).up).down) = _
    congr 1; funext t
    unfold capsR
    split
    · exact up_ref1
    · rfl
  have hcaps : ∀ (j : Nat) (c : Nat × Nat), ([(1, 0), (2, 0)] : List (Nat × Nat))[j]? = some c → capsR [(1, 0), (2, 0)] j = .ref c.1 c.2 := fun j c hc => by unfold capsR; rw [hc]
  refine from_inl h hE who C B hw hC hB ((txns h).length + 1) [] 0 (by omega) (by simp) List.nodup_nil (fun k hk => by cases hk) (Nat.zero_le _) hoU (by simp only [go_sem, simprocAttr, PI, hO, hOU, mo]; rfl) ?_ ?_
  · intro s' σ' hgo hs' hL hm
    have kp2 := KeepsB.left (Bd := 800000000) (vs := vs) (σ0 := σ) (h := (by repeat' first | (with_reducible exact kp0) | (with_reducible refine KeepsB.put ?_) | refine KeepsB.new rfl ?_ | exact kp0)) hB8 hL
    have m1 := hL.m (o := 1) (x := .box [.ref (upId o) 0]) (by simp only [go_sem, simprocAttr, PI]) d1 (by simp only [go_sem, simprocAttr, PI]) hx1
    have m2 := hL.m (o := 2) (x := .box [.a (I 0), .a (U 0), .a (.d (.sl [])), .a (I 0)]) (by simp only [go_sem, simprocAttr, PI]) d2 (by simp only [go_sem, simprocAttr, PI]; rfl) rfl
    have m9 := hL.m (o := 999991) (x := .frame cvs (capsR [(1, 0), (2, 0)])) (by simp only [go_sem, simprocAttr, PI]) d9 (by simp only [go_sem, simprocAttr, PI]) hx9
    have r2 := hL.r (t := 2) (r := .ref 2 0) (by simp only [go_sem, simprocAttr, PI]) up_ref1
    exact ⟨⟨_, m9, hcaps⟩, clos none _ s' (KeepsB.put kp2) m1 m2 hm (by simp only [go_sem, simprocAttr, PI, r2]) (.inl ⟨rfl, hgo⟩)⟩
  · intro v row' s' σ' hgo hs' hL hm
    have kp2 := KeepsB.left (Bd := 800000000) (vs := vs) (σ0 := σ) (h := (by repeat' first | (with_reducible exact kp0) | (with_reducible refine KeepsB.put ?_) | refine KeepsB.new rfl ?_ | exact kp0)) hB8 hL
    have m1 := hL.m (o := 1) (x := .box [.ref (upId o) 0]) (by simp only [go_sem, simprocAttr, PI]) d1 (by simp only [go_sem, simprocAttr, PI]) hx1
    have m2 := hL.m (o := 2) (x := .box [.a (I 0), .a (U 0), .a (.d (.sl [])), .a (I 0)]) (by simp only [go_sem, simprocAttr, PI]) d2 (by simp only [go_sem, simprocAttr, PI]; rfl) rfl
    have m9 := hL.m (o := 999991) (x := .frame cvs (capsR [(1, 0), (2, 0)])) (by simp only [go_sem, simprocAttr, PI]) d9 (by simp only [go_sem, simprocAttr, PI]) hx9
    have r2 := hL.r (t := 2) (r := .ref 2 0) (by simp only [go_sem, simprocAttr, PI]) up_ref1
    exact ⟨⟨_, m9, hcaps⟩, _, rfl, clos _ _ s' kp2 m1 m2 hm r2 (.inr ⟨v, row', rfl, hgo⟩)⟩
end Go.VC
end
section
set_option maxRecDepth 100000
set_option linter.unusedSimpArgs false
set_option linter.unusedVariables false
set_option linter.unnecessarySimpa false
namespace Go.VC
open Go.RowKit Go.Proofs Go.IntWalk
theorem rowI_len (row : List Nat) : (rowI row).length = row.length := by simp [rowI]
theorem rowI_get {row : List Nat} {k : Nat} (h : k < row.length) : (rowI row)[k]? = some (row[k] : Int) := by
  rw [rowI, List.getElem?_map, List.getElem?_eq_getElem h]; rfl
theorem t1192 (row : List Nat) (x : Nat) (hl : row.length ≤ 1000000) : Holds Tryz.prog GL 60 [intsA (rowI row), I x] [.a (B (row.contains x))] := by
  refine fn_holds (vs := [.tmp 4]) (by kernel_rfl) Tryz.func60 rfl rfl (by kernel_rfl) (by kernel_rfl) rfl ?_
  (refine rO ?_; repeat' ((with_reducible first | refine rG ?_ | (refine rS ?_ ?_ <;> intro hp) | (refine rB ?_ ?_ <;> intro hb <;> try rw [hb]) | refine rD ?_ | refine rA ?_ | fail) <;> try simp only [go_sem, simprocAttr, List.length_map, rowI_len]))
  refine awp_loopA (fun k : Nat => [(1, .a (I x)), (7, .a (intsA (rowI row))), (8, .a (I row.length)), (9, .a (I k))]) (fun _ => []) (fun k => k ≤ row.length ∧ ∀ i, i < k → row[i]? ≠ some x) (row.length - ·) 0 ?_ ?_ ⟨Nat.zero_le _, fun i hi => by omega⟩ ?_
  · simp only [go_sem, simprocAttr, List.length_map, rowI_len]
  · simp only [go_sem, simprocAttr]
  intro k j ⟨hk, hq⟩
  (refine rO ?_; repeat' ((with_reducible first | refine rG ?_ | (refine rS ?_ ?_ <;> intro hp) | (refine rB ?_ ?_ <;> intro hb <;> try rw [hb]) | refine rD ?_ | refine rA ?_ | fail) <;> try simp only [go_sem, simprocAttr]))
  · have hkl : k < row.length := by omega
    have hx := rowI_get hkl
    have hw := wrap_succ (n := row.length) hkl (by simp only [maxLen]; omega)
    have hy : row[k]? = some row[k] := List.getElem?_eq_getElem hkl
    have hmem : row[k] ∈ row := List.getElem_mem hkl
    generalize row[k] = y at hx hy hmem
    (refine rO ?_; repeat' ((with_reducible first | refine rG ?_ | (refine rS ?_ ?_ <;> intro hp) | (refine rB ?_ ?_ <;> intro hb <;> try rw [hb]) | refine rD ?_ | refine rA ?_ | fail) <;> try simp only [go_sem, simprocAttr, hx, ienc_eq, hw]))
    · have : y = x := by omega
      subst this; symm; simpa using hmem
    · refine ⟨k + 1, by simp only [go_sem, simprocAttr, hw], by simp only [go_sem, simprocAttr], ⟨hkl, fun i hi => ?_⟩, by dsimp only; omega⟩
      by_cases e : i = k
      · subst e; rw [hy]; intro h; cases h; omega
      · exact hq i (by omega)
  · symm
    rw [List.contains_eq_any_beq, List.any_eq_false]
    intro y hy
    obtain ⟨i, hi, rfl⟩ := List.mem_iff_getElem.1 hy
    have := hq i (by omega)
    rw [List.getElem?_eq_getElem hi] at this
    simp only [beq_iff_eq]
    exact fun e => this (by rw [e])
abbrev gA (T : List Txn) (who C : Nat) (Bd : Int) : A := .ag [.sl (T.map Txn.enc), .v (.int .u32 who), .v (.int .u32 C), dI Bd]
def leftL (n who : Nat) (row : List Nat) : List Nat := (List.range n).filter fun k => who.testBit k && !row.contains k
theorem leftL_s (n who : Nat) (row : List Nat) : leftL (n + 1) who row = leftL n who row ++ if (who.testBit n && !row.contains n) = true then [n] else [] := by
  rw [leftL, List.range_succ, List.filter_append, leftL]
  congr 1
  rw [List.filter_cons, List.filter_nil]
theorem leftL_len (n who : Nat) (row : List Nat) : (leftL n who row).length ≤ n := by
  have := List.length_filter_le (fun k => who.testBit k && !row.contains k) (List.range n)
  rwa [List.length_range] at this
theorem t1130 (T : List Txn) (who C : Nat) (Bd : Int) (row : List Nat) (hT : T.length ≤ 1000) (hw : who < 2 ^ 32) (hl : row.length ≤ 1000000) : Holds Tryz.prog GL 39 [gA T who C Bd, intsA (rowI row)] [.a (intsA (rowI (leftL T.length who row)))] := by
  refine fn_holds (vs := [.tmp 4]) (by kernel_rfl) Tryz.func39 rfl rfl (by kernel_rfl) (by kernel_rfl) rfl ?_
  (refine rO ?_; repeat' ((with_reducible first | refine rG ?_ | (refine rS ?_ ?_ <;> intro hp) | (refine rB ?_ ?_ <;> intro hb <;> try rw [hb]) | refine rD ?_ | refine rA ?_ | fail) <;> try simp only [go_sem, simprocAttr, List.length_map]))
  refine awp_loopA (fun k : Nat => [(1, .a (intsA (rowI row))), (2, .ref 2 0), (5, .own 7), (10, .a (I T.length)), (11, .a (I k))]) (fun k => [(2, .box [.a (.d (.sl (T.map Txn.enc))), .a (U who), .a (U C), .a (I Bd)]), (7, .log 3 1 ((rowI (leftL k who row)).map ienc))]) (fun k => k ≤ T.length) (T.length - ·) 0 ?_ ?_ (Nat.zero_le _) ?_
  · simp only [go_sem, simprocAttr, List.length_map]
  · simp only [go_sem, simprocAttr]; try rfl
  intro k j hk
  (refine rO ?_; repeat' ((with_reducible first | refine rG ?_ | (refine rS ?_ ?_ <;> intro hp) | (refine rB ?_ ?_ <;> intro hb <;> try rw [hb]) | refine rD ?_ | refine rA ?_ | fail) <;> try simp only [go_sem, simprocAttr, List.length_map]))
  · have hkl : k < T.length := by omega
    have hw1 := wrap_succ (n := T.length) hkl (by simp only [maxLen]; omega)
    have hs := leftL_s k who row
    have hll := leftL_len k who row
    refine call_dat (t100 who k hw (by omega)) ?_
    cases h1 : who.testBit k with
    | false =>
      rw [h1, Bool.false_and, if_neg (by decide), List.append_nil] at hs
      (refine rO ?_; repeat' ((with_reducible first | refine rG ?_ | (refine rS ?_ ?_ <;> intro hp) | (refine rB ?_ ?_ <;> intro hb <;> try rw [hb]) | refine rD ?_ | refine rA ?_ | fail) <;> try simp only [go_sem, simprocAttr, hw1]))
      (refine ⟨k + 1, ?_, ?_, hkl, by dsimp only; omega⟩ <;> simp only [go_sem, simprocAttr, hw1, hs])
    | true =>
      rw [h1, Bool.true_and] at hs
      (refine rO ?_; repeat' ((with_reducible first | refine rG ?_ | (refine rS ?_ ?_ <;> intro hp) | (refine rB ?_ ?_ <;> intro hb <;> try rw [hb]) | refine rD ?_ | refine rA ?_ | fail) <;> try simp only [go_sem, simprocAttr, hw1]))
      refine call_dat (t1192 row k hl) ?_
      cases h2 : row.contains k with
      | true =>
        rw [h2, if_neg (by decide), List.append_nil] at hs
        (refine rO ?_; repeat' ((with_reducible first | refine rG ?_ | (refine rS ?_ ?_ <;> intro hp) | (refine rB ?_ ?_ <;> intro hb <;> try rw [hb]) | refine rD ?_ | refine rA ?_ | fail) <;> try simp only [go_sem, simprocAttr, hw1]))
        (refine ⟨k + 1, ?_, ?_, hkl, by dsimp only; omega⟩ <;> simp only [go_sem, simprocAttr, hw1, hs])
      | false =>
        rw [h2, if_pos (by decide)] at hs
        have hs2 : (rowI (leftL (k + 1) who row)).map ienc = (rowI (leftL k who row)).map ienc ++ [[dI k]] := by rw [hs]; simp [rowI, ienc]
        have hml : ((rowI (leftL k who row)).length + 1) * 8 ≤ 140737488355328 := by rw [rowI_len]; omega
        (refine rO ?_; repeat' ((with_reducible first | refine rG ?_ | (refine rS ?_ ?_ <;> intro hp) | (refine rB ?_ ?_ <;> intro hb <;> try rw [hb]) | refine rD ?_ | refine rA ?_ | fail) <;> try simp only [go_sem, simprocAttr, hw1, List.length_map, hml]))
        refine ⟨k + 1, by simp only [go_sem, simprocAttr, hw1], by simp only [go_sem, simprocAttr, hs2], hkl, by dsimp only; omega⟩
  · obtain rfl : k = T.length := by omega
    rfl
theorem t1131 (T : List Txn) (who C : Nat) (Bd : Int) (L : List Nat) (x : Nat) (hT : T.length ≤ 1000) (hS : StT T) (hL : ∀ k ∈ L, k < T.length) (hLl : L.length ≤ 1000000) (hx : x < T.length) : Holds Tryz.prog GL 40 [gA T who C Bd, intsA (rowI L), I x] [.a (B (L.all fun i => !beforeB T i x))] := by
  refine fn_holds (vs := [.tmp 6]) (by kernel_rfl) Tryz.func40 rfl rfl (by kernel_rfl) (by kernel_rfl) rfl ?_
  (refine rO ?_; repeat' ((with_reducible first | refine rG ?_ | (refine rS ?_ ?_ <;> intro hp) | (refine rB ?_ ?_ <;> intro hb <;> try rw [hb]) | refine rD ?_ | refine rA ?_ | fail) <;> try simp only [go_sem, simprocAttr, List.length_map, rowI_len]))
  refine awp_loopA (fun k : Nat => [(2, .a (I x)), (3, .ref 3 0), (9, .a (intsA (rowI L))), (10, .a (I L.length)), (11, .a (I k))]) (fun k => [(3, .box [.a (.d (.sl (T.map Txn.enc))), .a (U who), .a (U C), .a (I Bd)])]) (fun k => k ≤ L.length ∧ (L.all fun i => !beforeB T i x) = (L.drop k).all fun i => !beforeB T i x) (L.length - ·) 0 ?_ ?_ ⟨Nat.zero_le _, rfl⟩ ?_
  · simp only [go_sem, simprocAttr, List.length_map, rowI_len]
  · simp only [go_sem, simprocAttr]; try rfl
  intro k j ⟨hk, hq⟩
  (refine rO ?_; repeat' ((with_reducible first | refine rG ?_ | (refine rS ?_ ?_ <;> intro hp) | (refine rB ?_ ?_ <;> intro hb <;> try rw [hb]) | refine rD ?_ | refine rA ?_ | fail) <;> try simp only [go_sem, simprocAttr]))
  · have hkl : k < L.length := by omega
    have hy := rowI_get hkl
    have hw := wrap_succ (n := L.length) hkl (by simp only [maxLen]; omega)
    have hin := hL _ (List.getElem_mem hkl)
    rw [List.drop_eq_getElem_cons hkl, List.all_cons] at hq
    generalize L[k] = y at hy hin hq
    (refine rO ?_; repeat' ((with_reducible first | refine rG ?_ | (refine rS ?_ ?_ <;> intro hp) | (refine rB ?_ ?_ <;> intro hb <;> try rw [hb]) | refine rD ?_ | refine rA ?_ | fail) <;> try simp only [go_sem, simprocAttr, hy, ienc_eq, hw]))
    refine call_dat (t24 T hS y x hin hx) ?_
    cases hb : beforeB T y x with
    | true =>
      rw [hb] at hq
      (refine rO ?_; repeat' ((with_reducible first | refine rG ?_ | (refine rS ?_ ?_ <;> intro hp) | (refine rB ?_ ?_ <;> intro hb <;> try rw [hb]) | refine rD ?_ | refine rA ?_ | fail) <;> try simp only [go_sem, simprocAttr]))
      rw [hq]; rfl
    | false =>
      rw [hb, Bool.not_false, Bool.true_and] at hq
      (refine rO ?_; repeat' ((with_reducible first | refine rG ?_ | (refine rS ?_ ?_ <;> intro hp) | (refine rB ?_ ?_ <;> intro hb <;> try rw [hb]) | refine rD ?_ | refine rA ?_ | fail) <;> try simp only [go_sem, simprocAttr, hw]))
      (refine ⟨k + 1, ?_, ?_, ⟨hkl, hq⟩, by dsimp only; omega⟩ <;> simp only [go_sem, simprocAttr, hw])
  · rw [hq, List.drop_eq_nil_of_le (by omega)]; rfl
theorem t1132 (row : List Nat) (x : Nat) (hl : row.length ≤ 1000000) : Holds Tryz.prog GL 41 [intsA (rowI row), I x] [.a (intsA (rowI (row ++ [x])))] := by
  refine fn_holds (vs := [.tmp 4]) (by kernel_rfl) Tryz.func41 rfl rfl (by kernel_rfl) (by kernel_rfl) rfl ?_
  have h1 : ((rowI row).length) * 8 ≤ 140737488355328 := by rw [rowI_len]; omega
  have h2 : ((rowI row).length + 1) * 8 ≤ 140737488355328 := by rw [rowI_len]; omega
  have hs : (rowI row).map ienc ++ [[dI x]] = (rowI (row ++ [x])).map ienc := by simp [rowI, ienc]
  (refine rO ?_; repeat' ((with_reducible first | refine rG ?_ | (refine rS ?_ ?_ <;> intro hp) | (refine rB ?_ ?_ <;> intro hb <;> try rw [hb]) | refine rD ?_ | refine rA ?_ | fail) <;> try simp only [go_sem, simprocAttr, List.length_map, h1, h2]))
  exact hs
end Go.VC
end
section
set_option maxRecDepth 100000
set_option linter.unusedSimpArgs false
set_option linter.unusedVariables false
set_option linter.unnecessarySimpa false
namespace Go.VC
open Go.RowKit Go.Proofs Go.IntWalk
def OutOk (B : Nat) : Out → Prop
  | .ret s => s ≤ B
  | .fin v _ s => s ≤ B ∧ (v = 0 ∨ v = 2)
theorem goStep_ok {T : List Txn} {who C B : Nat} {rec : List Nat → Nat → Out} {row : List Nat} {o : Out} {k : Nat} (hrec : ∀ row s, s ≤ B → OutOk B (rec row s)) (h : OutOk B o) : OutOk B (goStep T who C B rec row o k) := by
  cases o with
  | fin v r s => exact h
  | ret s =>
    have h : s ≤ B := h
    simp only [goStep]
    split
    · split
      · exact ⟨h, .inr rfl⟩
      · split
        · exact hrec _ _ (by omega)
        · show s + 1 ≤ B; omega
    · exact h
theorem fold_ok {T : List Txn} {who C B : Nat} {rec : List Nat → Nat → Out} {row : List Nat} (hrec : ∀ row s, s ≤ B → OutOk B (rec row s)) : ∀ (l : List Nat) (o : Out), OutOk B o → OutOk B (l.foldl (goStep T who C B rec row) o)
  | [], o, h => h
  | k :: l, o, h => fold_ok hrec l _ (goStep_ok hrec h)
theorem goF_ok {T : List Txn} {who C B : Nat} : ∀ (f : Nat) (row : List Nat) (s : Nat), s ≤ B → OutOk B (goF T who C B f row s)
  | 0, row, s, h => h
  | f + 1, row, s, h => by
    simp only [goF]
    split
    · exact ⟨h, .inl rfl⟩
    · exact fold_ok (goF_ok f) _ _ h
theorem left_nil {n who : Nat} {row : List Nat} (hw : who < 2 ^ n) (hr : ∀ k ∈ row, k < n ∧ who.testBit k = true) : leftL n who row = [] ↔ rowB row = who := by
  rw [leftL, List.filter_eq_nil_iff]
  constructor
  · intro h
    refine Nat.eq_of_testBit_eq fun i => ?_
    rw [rowB_bit]
    by_cases hi : i < n
    · have := h i (List.mem_range.2 hi)
      cases hc : row.contains i with
      | true => rw [(hr i (by simpa using hc)).2]
      | false =>
        rw [hc] at this
        simp only [Bool.not_false, Bool.and_true, Bool.not_eq_true] at this
        exact this.symm
    · rw [Nat.testBit_lt_two_pow (Nat.lt_of_lt_of_le hw (Nat.pow_le_pow_right (by omega) (by omega)))]
      cases hc : row.contains i with
      | true => exact absurd (hr i (by simpa using hc)).1 hi
      | false => rfl
  · intro h k hk
    rw [← rowB_bit, h]
    cases who.testBit k <;> simp
theorem fold_left {T : List Txn} {who C B : Nat} {rec : List Nat → Nat → Out} {row : List Nat} (n : Nat) (o : Out) : (List.range n).foldl (goStep T who C B rec row) o = (leftL n who row).foldl (goStep T who C B rec row) o := by
  rw [leftL, List.foldl_filter]
  congr 1
  funext o k
  by_cases h : (who.testBit k && !row.contains k) = true
  · rw [if_pos h]
  · rw [if_neg h]
    cases o with
    | fin v r s => rfl
    | ret s =>
      have : mayGo T who row k = false := by
        unfold mayGo
        rw [Bool.not_eq_true] at h
        rw [h, Bool.false_and]
      simp only [goStep, this, Bool.false_eq_true, if_false]
theorem free_left {T : List Txn} {who : Nat} {row : List Nat} {k : Nat} : freeR T who row k = (leftL T.length who row).all fun i => !beforeB T i k := by
  rw [leftL, List.all_filter]
  unfold freeR
  congr 1
  funext i
  cases who.testBit i <;> cases row.contains i <;> cases beforeB T i k <;> rfl
theorem left_mem {n who : Nat} {row : List Nat} {k : Nat} (h : k ∈ leftL n who row) : k < n ∧ (who.testBit k && !row.contains k) = true := by
  obtain ⟨h1, h2⟩ := List.mem_filter.1 h
  exact ⟨List.mem_range.1 h1, h2⟩
theorem take_fold {α : Type} {g : α → Nat → α} {l : List Nat} {a : α} {j : Nat} (hj : j < l.length) : (l.take (j + 1)).foldl g a = g ((l.take j).foldl g a) l[j] := by
  rw [List.take_succ_eq_append_getElem hj, List.foldl_append]; rfl
theorem foldL_fin {T : List Txn} {who C B : Nat} {rec : List Nat → Nat → Out} {row row' : List Nat} {v s' : Nat} : ∀ (l : List Nat), l.foldl (goStep T who C B rec row) (.fin v row' s') = .fin v row' s'
  | [] => rfl
  | k :: l => foldL_fin l
theorem takeL_fin {T : List Txn} {who C B : Nat} {rec : List Nat → Nat → Out} {row row' : List Nat} {v s' : Nat} {l : List Nat} {a : Out} {j : Nat} (h : (l.take j).foldl (goStep T who C B rec row) a = .fin v row' s') : l.foldl (goStep T who C B rec row) a = .fin v row' s' := by
  have e := List.take_append_drop j l
  rw [← e, List.foldl_append, h, foldL_fin]
/-- A table that may be searched. -/
structure TabOk (T : List Txn) : Prop where
  len : T.length ≤ 6
  st : StT T
  ops : ∀ t ∈ T, OpsIn t.ops
theorem rowI_in {row : List Nat} {n : Nat} (h : ∀ k ∈ row, k < n) : (rowI row).all (inT n) = true := by
  rw [List.all_eq_true]
  intro x hx
  obtain ⟨k, hk, rfl⟩ := List.mem_map.1 hx
  rw [inT_nat]; exact decide_eq_true (h k hk)
theorem t1060 (T : List Txn) (hT : TabOk T) (who C B : Nat) (hw : who < 2 ^ T.length) (hC : C < 2 ^ 32) (hB : B ≤ 1000000) : ∀ (f : Nat) (row : List Nat) (s : Nat), row.length + f = T.length + 1 → row.Nodup → (∀ k ∈ row, k < T.length ∧ who.testBit k = true) → s ≤ B →
    Holds Tryz.prog GL 26 [gA T who C B, intsA (rowI row), I s] [.a ((goF T who C B f row s).fnd C).a] := by
  have hT6 := hT.len
  have hw32 : who < 2 ^ 32 := Nat.lt_of_lt_of_le hw (Nat.pow_le_pow_right (by omega) (by omega))
  intro f
  induction f with
  | zero =>
    intro row s hl hnd hin
    have := nodup_le T.length row hnd fun k hk => (hin k hk).1
    omega
  | succ f ih =>
    intro row s hl hnd hin hs
    refine fn_holds (vs := [.cell 6 37]) (by kernel_rfl) Tryz.func26 rfl rfl (by kernel_rfl) (by kernel_rfl) rfl ?_
    have hrl : row.length ≤ 100 := by omega
    have hgo : goF T who C B (f + 1) row s = if rowB row = who then .fin 0 row s else (leftL T.length who row).foldl (goStep T who C B (goF T who C B f) row) (.ret s) := by rw [← fold_left]; rfl
    have hnil := left_nil hw hin
    have hLm : ∀ k ∈ leftL T.length who row, k < T.length ∧ (who.testBit k && !row.contains k) = true := fun k hk => left_mem hk
    have hLl := leftL_len T.length who row
    have hfr := fun k => free_left (T := T) (who := who) (row := row) (k := k)
    have h30 := t1130 T who C B row (by omega) hw32 (by omega)
    (refine rO ?_; repeat' ((with_reducible first | refine rG ?_ | (refine rS ?_ ?_ <;> intro hp) | (refine rB ?_ ?_ <;> intro hb <;> try rw [hb]) | refine rD ?_ | refine rA ?_ | fail) <;> try simp only [go_sem, simprocAttr, List.length_map]))
    refine call_dat h30 ?_
    generalize leftL T.length who row = L at *
    rw [hgo]
    (refine rO ?_; repeat' ((with_reducible first | refine rG ?_ | (refine rS ?_ ?_ <;> intro hp) | (refine rB ?_ ?_ <;> intro hb <;> try rw [hb]) | refine rD ?_ | refine rA ?_ | fail) <;> try simp only [go_sem, simprocAttr, List.length_map, rowI_len]))
    · have hL0 : L = [] := List.eq_nil_of_length_eq_zero (by omega)
      rw [if_pos (hnil.1 hL0)]
      refine SemOp.old ?_
      (refine rO ?_; repeat' ((with_reducible first | refine rG ?_ | (refine rS ?_ ?_ <;> intro hp) | (refine rB ?_ ?_ <;> intro hb <;> try rw [hb]) | refine rD ?_ | refine rA ?_ | fail) <;> try simp only [go_sem, simprocAttr, y_build0]))
      rfl
    · have hL0 : ¬ L = [] := fun e => by subst e; simp at hp
      rw [if_neg fun e => hL0 (hnil.2 e)]
      refine awp_loopA (fun p : Nat × Nat => [(1, .a (intsA (rowI row))), (2, .a (I p.2)), (3, .ref 3 0), (6, .ref 6 0), (7, .a (intsA (rowI L))), (23, .a (intsA (rowI L))), (24, .a (I L.length)), (25, .a (I p.1))]) (fun _ => [(3, .box [.a (.d (.sl (T.map Txn.enc))), .a (U who), .a (U C), .a (I B)]), (6, .box [.a (I 0), .a (U 0), .a (.d (.sl [])), .a (I 0)])]) (fun p => p.1 ≤ L.length ∧ p.2 ≤ B ∧ (L.take p.1).foldl (goStep T who C B (goF T who C B f) row) (.ret s) = .ret p.2) (fun p => L.length - p.1) (0, s) ?_ ?_ ⟨Nat.zero_le _, hs, rfl⟩ ?_
      · simp only [go_sem, simprocAttr, List.length_map, rowI_len]
      · simp only [go_sem, simprocAttr]; try rfl
      rintro ⟨j, s1⟩ jj ⟨hj, hsB, hfold⟩
      (refine rO ?_; repeat' ((with_reducible first | refine rG ?_ | (refine rS ?_ ?_ <;> intro hp) | (refine rB ?_ ?_ <;> intro hb <;> try rw [hb]) | refine rD ?_ | refine rA ?_ | fail) <;> try simp only [go_sem, simprocAttr]))
      · have hjl : j < L.length := by omega
        have hx := rowI_get hjl
        have hwj := wrap_succ (n := L.length) hjl (by simp only [maxLen]; omega)
        have hst := take_fold (g := goStep T who C B (goF T who C B f) row) (a := .ret s) hjl
        rw [hfold] at hst
        obtain ⟨hkl, hkb⟩ := hLm _ (List.getElem_mem hjl)
        have hfk := hfr L[j]
        generalize L[j] = k at hx hst hkl hkb hfk
        have hmg : mayGo T who row k = freeR T who row k := by unfold mayGo; rw [hkb, Bool.true_and]
        have h31 := t1131 T who C B L k (by omega) hT.st (fun q hq => (hLm q hq).1) (by omega) hkl
        rw [← hfk] at h31
        (refine rO ?_; repeat' ((with_reducible first | refine rG ?_ | (refine rS ?_ ?_ <;> intro hp) | (refine rB ?_ ?_ <;> intro hb <;> try rw [hb]) | refine rD ?_ | refine rA ?_ | fail) <;> try simp only [go_sem, simprocAttr, hx, ienc_eq]))
        refine call_dat h31 ?_
        generalize freeR T who row k = fr at hmg
        cases fr with
        | false =>
          have hstep : goStep T who C B (goF T who C B f) row (.ret s1) k = .ret s1 := by simp only [goStep, hmg, Bool.false_eq_true, if_false]
          rw [hstep] at hst
          (refine rO ?_; repeat' ((with_reducible first | refine rG ?_ | (refine rS ?_ ?_ <;> intro hp) | (refine rB ?_ ?_ <;> intro hb <;> try rw [hb]) | refine rD ?_ | refine rA ?_ | fail) <;> try simp only [go_sem, simprocAttr, hwj]))
          exact ⟨(j + 1, s1), by simp only [go_sem, simprocAttr, hwj], by simp only [go_sem, simprocAttr], ⟨hjl, hsB, hst⟩, by dsimp only; omega⟩
        | true =>
          (refine rO ?_; repeat' ((with_reducible first | refine rG ?_ | (refine rS ?_ ?_ <;> intro hp) | (refine rB ?_ ?_ <;> intro hb <;> try rw [hb]) | refine rD ?_ | refine rA ?_ | fail) <;> try simp only [go_sem, simprocAttr]))
          · have hsB2 : s1 = B := by omega
            have hstep : goStep T who C B (goF T who C B f) row (.ret s1) k = .fin 2 [] s1 := by simp only [goStep, hmg, if_true, if_pos hsB2]
            rw [hstep] at hst
            refine SemOp.old ?_
            (refine rO ?_; repeat' ((with_reducible first | refine rG ?_ | (refine rS ?_ ?_ <;> intro hp) | (refine rB ?_ ?_ <;> intro hb <;> try rw [hb]) | refine rD ?_ | refine rA ?_ | fail) <;> try simp only [go_sem, simprocAttr, y_build0]))
            rw [takeL_fin hst]; rfl
          · have hsB2 : ¬ s1 = B := by omega
            have hws : IntKind.i64.wrap ((s1 : Int) + 1) = ((s1 + 1 : Nat) : Int) := by rw [i64_in _ (by omega)]; omega
            have hnk : ¬ k ∈ row := fun hkr => by
              rw [show row.contains k = true by simpa using hkr] at hkb
              simp at hkb
            have hndk : (row ++ [k]).Nodup := by
              rw [List.nodup_append]; exact ⟨hnd, by simp, fun a ha b hb => by simp only [List.mem_singleton] at hb; subst hb; exact fun e => hnk (e ▸ ha)⟩
            have hwk : who.testBit k = true := by
              cases h : who.testBit k with
              | true => rfl
              | false => rw [h] at hkb; simp at hkb
            have hink : ∀ q ∈ row ++ [k], q < T.length ∧ who.testBit q = true := fun q hq => by
              rcases List.mem_append.1 hq with h | h
              · exact hin q h
              · simp only [List.mem_singleton] at h; rw [h]; exact ⟨hkl, hwk⟩
            have hml : (row ++ [k]).length = row.length + 1 := by simp
            have h02 := t1102 T (rowI (row ++ [k])) C hC hT.ops (rowI_in fun q hq => (hink q hq).1) (by rw [rowI_len, hml]; omega) (by omega)
            (refine rO ?_; repeat' ((with_reducible first | refine rG ?_ | (refine rS ?_ ?_ <;> intro hp) | (refine rB ?_ ?_ <;> intro hb <;> try rw [hb]) | refine rD ?_ | refine rA ?_ | fail) <;> try simp only [go_sem, simprocAttr, hws]))
            refine call_dat (t1132 row k (by omega)) ?_
            (refine rO ?_; repeat' ((with_reducible first | refine rG ?_ | (refine rS ?_ ?_ <;> intro hp) | (refine rB ?_ ?_ <;> intro hb <;> try rw [hb]) | refine rD ?_ | refine rA ?_ | fail) <;> try simp only [go_sem, simprocAttr]))
            refine call_dat h02 ?_
            (refine rO ?_; repeat' ((with_reducible first | refine rG ?_ | (refine rS ?_ ?_ <;> intro hp) | (refine rB ?_ ?_ <;> intro hb <;> try rw [hb]) | refine rD ?_ | refine rA ?_ | fail) <;> try simp only [go_sem, simprocAttr, List.length_map, rowI_len, hml]))
            · have hleg : legalN T C (rowI (row ++ [k])) = row.length + 1 := by omega
              have hstep : goStep T who C B (goF T who C B f) row (.ret s1) k = goF T who C B f (row ++ [k]) (s1 + 1) := by simp only [goStep, hmg, if_true, if_neg hsB2, if_pos hleg]
              rw [hstep] at hst
              have hih := ih (row ++ [k]) (s1 + 1) (by rw [hml]; omega) hndk hink (by omega)
              have hok := goF_ok (T := T) (who := who) (C := C) (B := B) f (row ++ [k]) (s1 + 1) (by omega)
              generalize goF T who C B f (row ++ [k]) (s1 + 1) = o at hst hih hok
              cases o with
              | ret s2 =>
                rw [show ((Out.ret s2).fnd C).a = .ag [dI 1, .v (.int .u32 0), .sl [], dI s2] from rfl] at hih
                (refine rO ?_; repeat' ((with_reducible first | refine rG ?_ | (refine rS ?_ ?_ <;> intro hp) | (refine rB ?_ ?_ <;> intro hb <;> try rw [hb]) | refine rD ?_ | refine rA ?_ | fail) <;> try simp only [go_sem, simprocAttr, hws]))
                refine call_dat hih ?_
                (refine rO ?_; repeat' ((with_reducible first | refine rG ?_ | (refine rS ?_ ?_ <;> intro hp) | (refine rB ?_ ?_ <;> intro hb <;> try rw [hb]) | refine rD ?_ | refine rA ?_ | fail) <;> try simp only [go_sem, simprocAttr, hwj]))
                exact ⟨(j + 1, s2), by simp only [go_sem, simprocAttr, hwj], by simp only [go_sem, simprocAttr], ⟨hjl, hok, hst⟩, by dsimp only; omega⟩
              | fin v r s2 =>
                rw [takeL_fin hst]
                obtain ⟨_, hv⟩ := hok
                rcases hv with rfl | rfl
                · rw [show ((Out.fin 0 r s2).fnd C).a = .ag [dI 0, .v (.int .u32 C), .sl ((rowI r).map ienc), dI s2] from rfl] at hih ⊢
                  (refine rO ?_; repeat' ((with_reducible first | refine rG ?_ | (refine rS ?_ ?_ <;> intro hp) | (refine rB ?_ ?_ <;> intro hb <;> try rw [hb]) | refine rD ?_ | refine rA ?_ | fail) <;> try simp only [go_sem, simprocAttr, hws]))
                  refine call_dat hih ?_
                  (refine rO ?_; repeat' ((with_reducible first | refine rG ?_ | (refine rS ?_ ?_ <;> intro hp) | (refine rB ?_ ?_ <;> intro hb <;> try rw [hb]) | refine rD ?_ | refine rA ?_ | fail) <;> try simp only [go_sem, simprocAttr, hwj]))
                · rw [show ((Out.fin 2 r s2).fnd C).a = .ag [dI 2, .v (.int .u32 0), .sl [], dI s2] from rfl] at hih ⊢
                  (refine rO ?_; repeat' ((with_reducible first | refine rG ?_ | (refine rS ?_ ?_ <;> intro hp) | (refine rB ?_ ?_ <;> intro hb <;> try rw [hb]) | refine rD ?_ | refine rA ?_ | fail) <;> try simp only [go_sem, simprocAttr, hws]))
                  refine call_dat hih ?_
                  (refine rO ?_; repeat' ((with_reducible first | refine rG ?_ | (refine rS ?_ ?_ <;> intro hp) | (refine rB ?_ ?_ <;> intro hb <;> try rw [hb]) | refine rD ?_ | refine rA ?_ | fail) <;> try simp only [go_sem, simprocAttr, hwj]))
            · have hleg : ¬ legalN T C (rowI (row ++ [k])) = row.length + 1 := by omega
              have hstep : goStep T who C B (goF T who C B f) row (.ret s1) k = .ret (s1 + 1) := by simp only [goStep, hmg, if_true, if_neg hsB2, if_neg hleg]
              rw [hstep] at hst
              exact ⟨(j + 1, s1 + 1), by simp only [go_sem, simprocAttr, hwj, hws], by simp only [go_sem, simprocAttr], ⟨hjl, by dsimp only; omega, hst⟩, by dsimp only; omega⟩
      · have hjl : j = L.length := by omega
        rw [hjl, List.take_length] at hfold
        rw [hfold]
        refine SemOp.old ?_
        (refine rO ?_; repeat' ((with_reducible first | refine rG ?_ | (refine rS ?_ ?_ <;> intro hp) | (refine rB ?_ ?_ <;> intro hb <;> try rw [hb]) | refine rD ?_ | refine rA ?_ | fail) <;> try simp only [go_sem, simprocAttr, y_build0]))
        rfl
end Go.VC
end
section
set_option maxRecDepth 100000
set_option linter.unusedSimpArgs false
set_option linter.unusedVariables false
set_option linter.unnecessarySimpa false
namespace Go.VC
open Go.RowKit Go.Proofs Go.IntWalk
/-- What a search found, of any numbers. -/
structure Fd where
  v : Int
  c : Int
  row : List Int
  s : Int
abbrev Fd.a (x : Fd) : A := .ag [dI x.v, .v (.int .u32 x.c), .sl (x.row.map ienc), dI x.s]
def Fnd.fd (x : Fnd) : Fd := ⟨x.v, x.c, rowI x.row, x.s⟩
/-- Why nothing may be searched. -/
def maySE (h : List Ev) (n : Int) : Int := if checkE h = 0 then (if 0 ≤ n ∧ n ≤ 1000000 then 0 else 1) else checkE h
def maySV (h : List Ev) (n : Int) : List Nat := if maySE h n = 0 then afterR (txns h) else []
theorem t1128 (h : List Ev) (n : Int) : Holds Tryz.prog GL 19 [evsA h, I n] [.a (unsA (maySV h n)), .a (I (maySE h n))] := by
  refine fn_holds (vs := [.tmp 4, .tmp 5]) (by kernel_rfl) Tryz.func19 rfl rfl (by kernel_rfl) (by kernel_rfl) rfl ?_
  have h56 := t56 h
  rw [tabD_txns] at h56
  unfold maySV maySE
  by_cases hE : checkE h = 0
  · have hA : aftersV h = afterR (txns h) := by rw [aftersV, if_pos hE]
    rw [hE] at h56 ⊢
    generalize txns h = T at *
    (refine rO ?_; repeat' ((with_reducible first | refine rG ?_ | (refine rS ?_ ?_ <;> intro hp) | (refine rB ?_ ?_ <;> intro hb <;> try rw [hb]) | refine rD ?_ | refine rA ?_ | fail) <;> try simp only [go_sem, simprocAttr]))
    refine call_dat h56 ?_
    by_cases hn : 0 ≤ n ∧ n ≤ 1000000
    · rw [if_pos rfl, if_pos hn, if_pos rfl]
      have n1 : ¬ n < 0 := by omega
      have n2 : ¬ n > 1000000 := by omega
      (refine rO ?_; repeat' ((with_reducible first | refine rG ?_ | (refine rS ?_ ?_ <;> intro hp) | (refine rB ?_ ?_ <;> intro hb <;> try rw [hb]) | refine rD ?_ | apply c15 | refine rA ?_ | fail) <;> try simp only [go_sem, simprocAttr, hE, hA, n1, n2]))
    · rw [if_pos rfl, if_neg hn, if_neg (by decide)]
      (refine rO ?_; repeat' ((with_reducible first | refine rG ?_ | (refine rS ?_ ?_ <;> intro hp) | (refine rB ?_ ?_ <;> intro hb <;> try rw [hb]) | refine rD ?_ | apply c15 | refine rA ?_ | fail) <;> try simp only [go_sem, simprocAttr, hE, hA]))
      exact absurd ⟨by omega, by omega⟩ hn
  · generalize txns h = T at *
    generalize checkE h = c at *
    simp only [if_neg hE]
    (refine rO ?_; repeat' ((with_reducible first | refine rG ?_ | (refine rS ?_ ?_ <;> intro hp) | (refine rB ?_ ?_ <;> intro hb <;> try rw [hb]) | refine rD ?_ | refine rA ?_ | fail) <;> try simp only [go_sem, simprocAttr]))
    refine call_dat h56 ?_
    (refine rO ?_; repeat' ((with_reducible first | refine rG ?_ | (refine rS ?_ ?_ <;> intro hp) | (refine rB ?_ ?_ <;> intro hb <;> try rw [hb]) | refine rD ?_ | refine rA ?_ | fail) <;> try simp only [go_sem, simprocAttr, hE]))
theorem t1032 (h : List Ev) (n : Int) : Holds Tryz.prog GL 9 [evsA h, I n] [.a (I (maySE h n))] := by
  refine fn_holds (vs := [.tmp 4]) (by kernel_rfl) Tryz.func9 rfl rfl (by kernel_rfl) (by kernel_rfl) rfl ?_
  have hwy := t19 h
  rw [show whyI h = checkE h from (why_next h).symm] at hwy
  unfold maySE
  (refine rO ?_; repeat' ((with_reducible first | refine rG ?_ | (refine rS ?_ ?_ <;> intro hp) | (refine rB ?_ ?_ <;> intro hb <;> try rw [hb]) | refine rD ?_ | refine rA ?_ | fail) <;> try simp only [go_sem, simprocAttr]))
  refine call_dat hwy ?_
  by_cases hE : checkE h = 0
  · rw [if_pos hE]
    by_cases hn : 0 ≤ n ∧ n ≤ 1000000
    · rw [if_pos hn]
      have n1 : ¬ n < 0 := by omega
      have n2 : ¬ n > 1000000 := by omega
      (refine rO ?_; repeat' ((with_reducible first | refine rG ?_ | (refine rS ?_ ?_ <;> intro hp) | (refine rB ?_ ?_ <;> intro hb <;> try rw [hb]) | refine rD ?_ | refine rA ?_ | fail) <;> try simp only [go_sem, simprocAttr, hE, n1, n2]))
    · rw [if_neg hn]
      (refine rO ?_; repeat' ((with_reducible first | refine rG ?_ | (refine rS ?_ ?_ <;> intro hp) | (refine rB ?_ ?_ <;> intro hb <;> try rw [hb]) | refine rD ?_ | refine rA ?_ | fail) <;> try simp only [go_sem, simprocAttr, hE]))
      exact absurd ⟨by omega, by omega⟩ hn
  · rw [if_neg hE]
    (refine rO ?_; repeat' ((with_reducible first | refine rG ?_ | (refine rS ?_ ?_ <;> intro hp) | (refine rB ?_ ?_ <;> intro hb <;> try rw [hb]) | refine rD ?_ | refine rA ?_ | fail) <;> try simp only [go_sem, simprocAttr, hE]))
theorem t1058 (h : List Ev) (hE : checkE h = 0) : Holds Tryz.prog GL 18 [evsA h] [.a (txnsA (txns h))] := by
  refine fn_holds (vs := [.tmp 2]) (by kernel_rfl) Tryz.func18 rfl rfl (by kernel_rfl) (by kernel_rfl) rfl ?_
  have h32 := t32 h (check60 hE)
  rw [table_eq hE] at h32
  (refine rO ?_; repeat' ((with_reducible first | refine rG ?_ | (refine rS ?_ ?_ <;> intro hp) | (refine rB ?_ ?_ <;> intro hb <;> try rw [hb]) | refine rD ?_ | refine rA ?_ | fail) <;> try simp only [go_sem, simprocAttr]))
  refine call_dat h32 ?_
  (refine rO ?_; repeat' ((with_reducible first | refine rG ?_ | (refine rS ?_ ?_ <;> intro hp) | (refine rB ?_ ?_ <;> intro hb <;> try rw [hb]) | refine rD ?_ | refine rA ?_ | fail) <;> try simp only [go_sem, simprocAttr]))
theorem one_go {r : R} : one [r] = r := rfl
def rowE (h : List Ev) (who C : Nat) (n : Int) : Int := if maySE h n = 0 then (if (who ||| C) / 2 ^ (txns h).length = 0 then 0 else 7) else maySE h n
def rowF (h : List Ev) (who C : Nat) (n : Int) : Fnd := if rowE h who C n = 0 then foundF (txns h) who C n.toNat else ⟨0, 0, [], 0⟩
theorem mayS_ok {h : List Ev} {n : Int} (hm : maySE h n = 0) : checkE h = 0 ∧ 0 ≤ n ∧ n ≤ 1000000 := by
  unfold maySE at hm
  split at hm
  · split at hm
    · exact ⟨‹_›, ‹_ ∧ _›⟩
    · cases hm
  · exact absurd hm ‹_›
theorem t1056 (h : List Ev) (who C : Nat) (n : Int) (hw : who < 2 ^ 32) (hC : C < 2 ^ 32) : Holds Tryz.prog GL 11 [evsA h, U who, U C, I n] [.a (rowF h who C n).a, .a (I (rowE h who C n))] := by
  refine fn_holds (vs := [.cell 8 37, .tmp 9]) (by kernel_rfl) Tryz.func11 rfl rfl (by kernel_rfl) (by kernel_rfl) rfl ?_
  have hm := t1128 h n
  have hl6 := txns_len6 h
  have e2 : rowF h who C n = if rowE h who C n = 0 then foundF (txns h) who C n.toNat else ⟨0, 0, [], 0⟩ := rfl
  have hwc : who ||| C < 2 ^ 32 := Nat.or_lt_two_pow hw hC
  have hor := u32_or hw hC
  have hal := afterR_len (txns h)
  have hshr := u32_shr (b := who ||| C) (k := (txns h).length) (by omega)
  by_cases hM : maySE h n = 0
  · obtain ⟨hE, hn0, hn1⟩ := mayS_ok hM
    have e1 : rowE h who C n = if (who ||| C) / 2 ^ (txns h).length = 0 then 0 else 7 := by rw [rowE, if_pos hM]
    rw [maySV, if_pos hM, hM] at hm
    by_cases hb : (who ||| C) / 2 ^ (txns h).length = 0
    · rw [if_pos hb] at e1
      rw [e1, if_pos rfl] at e2
      rw [e1, e2]
      (refine rO ?_; repeat' ((with_reducible first | refine rG ?_ | (refine rS ?_ ?_ <;> intro hp) | (refine rB ?_ ?_ <;> intro hb <;> try rw [hb]) | refine rD ?_ | refine rA ?_ | fail) <;> try simp only [go_sem, simprocAttr]))
      refine call_dat hm ?_
      have hlt := (Nat.div_eq_zero_iff_lt (Nat.two_pow_pos _)).1 hb
      have hw2 : who < 2 ^ (txns h).length := Nat.lt_of_le_of_lt Nat.left_le_or hlt
      obtain ⟨N, rfl⟩ : ∃ N : Nat, n = N := ⟨n.toNat, by omega⟩
      rw [Int.toNat_natCast]
      (refine rO ?_; repeat' ((with_reducible first | refine rG ?_ | (refine rS ?_ ?_ <;> intro hp) | (refine rB ?_ ?_ <;> intro hb <;> try rw [hb]) | refine rD ?_ | refine rA ?_ | fail) <;> try simp only [go_sem, simprocAttr, hor, hshr, hal, List.length_map, hb]))
      refine SemOp.old ?_
      (refine rO ?_; repeat' ((with_reducible first | refine rG ?_ | (refine rS ?_ ?_ <;> intro hp) | (refine rB ?_ ?_ <;> intro hb <;> try rw [hb]) | refine rD ?_ | refine rA ?_ | fail) <;> try simp only [go_sem, simprocAttr, y_build0]))
      refine call_inl (search_inl h hE who C N hw2 hC (by omega) (o := 38) rfl (by simp only [go_sem, simprocAttr]; simp [seaR]) fun σ' hL => ?_)
      have m8 := hL.m (o := 8) (x := .box [.a (I 0), .a (U 0), .a (.d (.sl [])), .a (I 0)]) rfl rfl (by simp only [go_sem, simprocAttr]; rfl) rfl
      have r8 := hL.r (t := 8) (r := .ref 8 0) (by simp only [go_sem, simprocAttr]) up_ref1
      (refine rO ?_; repeat' ((with_reducible first | refine rG ?_ | (refine rS ?_ ?_ <;> intro hp) | (refine rB ?_ ?_ <;> intro hb <;> try rw [hb]) | refine rD ?_ | refine rA ?_ | fail) <;> try simp only [go_sem, simprocAttr, m8, r8, one_go]))
    · rw [if_neg hb] at e1
      rw [e1, if_neg (by decide)] at e2
      rw [e1, e2]
      have hbI : ¬ (((who ||| C) / 2 ^ (txns h).length : Nat) : Int) = 0 := by omega
      (refine rO ?_; repeat' ((with_reducible first | refine rG ?_ | (refine rS ?_ ?_ <;> intro hp) | (refine rB ?_ ?_ <;> intro hb <;> try rw [hb]) | refine rD ?_ | refine rA ?_ | fail) <;> try simp only [go_sem, simprocAttr]))
      refine call_dat hm ?_
      (refine rO ?_; repeat' ((with_reducible first | refine rG ?_ | (refine rS ?_ ?_ <;> intro hp) | (refine rB ?_ ?_ <;> intro hb <;> try rw [hb]) | refine rD ?_ | refine rA ?_ | fail) <;> try simp only [go_sem, simprocAttr, hor, hshr, hal, List.length_map, hbI]))
      refine SemOp.old ?_
      (refine rO ?_; repeat' ((with_reducible first | refine rG ?_ | (refine rS ?_ ?_ <;> intro hp) | (refine rB ?_ ?_ <;> intro hb <;> try rw [hb]) | refine rD ?_ | refine rA ?_ | fail) <;> try simp only [go_sem, simprocAttr, y_build0]))
      rfl
  · have e1 : rowE h who C n = maySE h n := by rw [rowE, if_neg hM]
    rw [e1, if_neg hM] at e2
    rw [maySV, if_neg hM] at hm
    rw [e1, e2]
    (refine rO ?_; repeat' ((with_reducible first | refine rG ?_ | (refine rS ?_ ?_ <;> intro hp) | (refine rB ?_ ?_ <;> intro hb <;> try rw [hb]) | refine rD ?_ | refine rA ?_ | fail) <;> try simp only [go_sem, simprocAttr]))
    refine call_dat hm ?_
    (refine rO ?_; repeat' ((with_reducible first | refine rG ?_ | (refine rS ?_ ?_ <;> intro hp) | (refine rB ?_ ?_ <;> intro hb <;> try rw [hb]) | refine rD ?_ | refine rA ?_ | fail) <;> try simp only [go_sem, simprocAttr, hM]))
    refine SemOp.old ?_
    (refine rO ?_; repeat' ((with_reducible first | refine rG ?_ | (refine rS ?_ ?_ <;> intro hp) | (refine rB ?_ ?_ <;> intro hb <;> try rw [hb]) | refine rD ?_ | refine rA ?_ | fail) <;> try simp only [go_sem, simprocAttr, y_build0]))
    rfl
end Go.VC
end
section
set_option maxRecDepth 100000
set_option linter.unusedSimpArgs false
set_option linter.unusedVariables false
set_option linter.unnecessarySimpa false
namespace Go.VC
open Go.RowKit Go.Proofs Go.IntWalk
/-- What is found of some choices, behind so many steps. -/
def srchN (T : List Txn) (who B : Nat) : List Nat → Nat → Fnd
  | [], st => ⟨1, 0, [], st⟩
  | c :: cs, st => if (foundF T who c (B - st)).v = 1 then srchN T who B cs (st + (foundF T who c (B - st)).s) else ⟨(foundF T who c (B - st)).v, (foundF T who c (B - st)).c, (foundF T who c (B - st)).row, st + (foundF T who c (B - st)).s⟩
def allN (T : List Txn) : Nat := 2 ^ T.length - 1
def srchF (h : List Ev) (n : Int) : Fnd := if maySE h n = 0 then srchN (txns h) (allN (txns h)) n.toNat (choicesL (txns h)) 0 else ⟨0, 0, [], 0⟩
theorem found_s (T : List Txn) (who C B : Nat) : (foundF T who C B).s ≤ B := by
  have := goF_ok (T := T) (who := who) (C := C) (B := B) (T.length + 1) [] 0 (Nat.zero_le _)
  unfold foundF
  generalize goF T who C B (T.length + 1) [] 0 = o at this
  cases o with
  | ret s => exact this
  | fin v r s =>
    simp only [Out.fnd]
    split
    · exact this.1
    · exact this.1
theorem choices_lt {l : List Txn} (hl : l.length ≤ 6) : ∀ C ∈ choicesL l, choiceB l C = true ∧ C < 2 ^ 32 := fun C hC => by
  have h1 : choiceB l C = true := by rw [← choice_any hl, List.any_eq_true]; exact ⟨C, hC, by simp⟩
  refine ⟨h1, ?_⟩
  have := h1
  simp only [choiceB, Bool.and_eq_true, decide_eq_true_eq] at this
  have h2 := (Nat.div_eq_zero_iff_lt (Nat.two_pow_pos _)).1 this.2
  exact Nat.lt_of_lt_of_le h2 (Nat.pow_le_pow_right (by omega) (by omega))
theorem srch_drop {T : List Txn} {who B : Nat} {L : List Nat} {j st : Nat} (hj : j < L.length) : srchN T who B (L.drop j) st = if (foundF T who L[j] (B - st)).v = 1 then srchN T who B (L.drop (j + 1)) (st + (foundF T who L[j] (B - st)).s) else ⟨(foundF T who L[j] (B - st)).v, (foundF T who L[j] (B - st)).c, (foundF T who L[j] (B - st)).row, st + (foundF T who L[j] (B - st)).s⟩ := by
  rw [List.drop_eq_getElem_cons hj]; rfl
theorem t1061 (h : List Ev) (n : Int) : Holds Tryz.prog GL 13 [evsA h, I n] [.a (srchF h n).a, .a (I (maySE h n))] := by
  refine fn_holds (vs := [.cell 4 37, .tmp 5]) (by kernel_rfl) Tryz.func13 rfl rfl (by kernel_rfl) (by kernel_rfl) rfl ?_
  have hm := t1128 h n
  have hl6 := txns_len6 h
  have e2 : srchF h n = if maySE h n = 0 then srchN (txns h) (allN (txns h)) n.toNat (choicesL (txns h)) 0 else ⟨0, 0, [], 0⟩ := rfl
  have hch := t1042 h
  by_cases hM : maySE h n = 0
  · obtain ⟨hE, hn0, hn1⟩ := mayS_ok hM
    obtain ⟨N, rfl⟩ : ∃ N : Nat, n = N := ⟨n.toNat, by omega⟩
    rw [if_pos hM, Int.toNat_natCast] at e2
    rw [maySV, if_pos hM, hM] at hm
    rw [choicesV, if_pos hE, hE] at hch
    have hal := afterR_len (txns h)
    have hCl := choices_lt hl6
    have hcl : (choicesL (txns h)).length ≤ 64 := choices_len (bitsN (isSt (txns h) 2) (txns h).length) (bitsN (isSt (txns h) 1) (txns h).length)
    have hwho : allN (txns h) < 2 ^ (txns h).length := by have := Nat.two_pow_pos (txns h).length; unfold allN; omega
    have h2p : 2 ^ (txns h).length ≤ 2 ^ 6 := Nat.pow_le_pow_right (by omega) hl6
    have hsub : IntKind.u32.wrap (((2 ^ (txns h).length : Nat) : Int) - 1) = ((allN (txns h) : Nat) : Int) := by
      have := Nat.two_pow_pos (txns h).length
      rw [show ((2 ^ (txns h).length : Nat) : Int) - 1 = ((allN (txns h) : Nat) : Int) by unfold allN; omega]
      exact u32_in _ (by unfold allN; omega)
    have hshl := u32_shl (k := (txns h).length) (by omega)
    generalize hL0 : choicesL (txns h) = L at *
    rw [e2, hM]
    (refine rO ?_; repeat' ((with_reducible first | refine rG ?_ | (refine rS ?_ ?_ <;> intro hp) | (refine rB ?_ ?_ <;> intro hb <;> try rw [hb]) | refine rD ?_ | refine rA ?_ | fail) <;> try simp only [go_sem, simprocAttr]))
    refine call_dat hm ?_
    (refine rO ?_; repeat' ((with_reducible first | refine rG ?_ | (refine rS ?_ ?_ <;> intro hp) | (refine rB ?_ ?_ <;> intro hb <;> try rw [hb]) | refine rD ?_ | refine rA ?_ | fail) <;> try simp only [go_sem, simprocAttr]))
    refine call_dat hch ?_
    (refine rO ?_; repeat' ((with_reducible first | refine rG ?_ | (refine rS ?_ ?_ <;> intro hp) | (refine rB ?_ ?_ <;> intro hb <;> try rw [hb]) | refine rD ?_ | refine rA ?_ | fail) <;> try simp only [go_sem, simprocAttr, List.length_map]))
    refine awp_loopA (fun p : Nat × Nat => [(0, .a (evsA h)), (1, .a (I N)), (4, .ref 4 0), (6, .a (unsA (afterR (txns h)))), (10, .a (I p.2)), (29, .a (unsA L)), (30, .a (I L.length)), (31, .a (I p.1))]) (fun _ => [(4, .box [.a (I 0), .a (U 0), .a (.d (.sl [])), .a (I 0)])]) (fun p => p.1 ≤ L.length ∧ p.2 ≤ N ∧ srchN (txns h) (allN (txns h)) N L 0 = srchN (txns h) (allN (txns h)) N (L.drop p.1) p.2) (fun p => L.length - p.1) (0, 0) ?_ ?_ ⟨Nat.zero_le _, Nat.zero_le _, rfl⟩ ?_
    · simp only [go_sem, simprocAttr, List.length_map]; try rfl
    · simp only [go_sem, simprocAttr]; try rfl
    rintro ⟨j, st⟩ jj ⟨hj, hst, hq⟩
    (refine rO ?_; repeat' ((with_reducible first | refine rG ?_ | (refine rS ?_ ?_ <;> intro hp) | (refine rB ?_ ?_ <;> intro hb <;> try rw [hb]) | refine rD ?_ | refine rA ?_ | fail) <;> try simp only [go_sem, simprocAttr]))
    · have hjl : j < L.length := by omega
      have hx : L[j]? = some L[j] := List.getElem?_eq_getElem hjl
      have hwj := wrap_succ (n := L.length) hjl (by simp only [maxLen]; omega)
      have hC := (hCl _ (List.getElem_mem hjl)).2
      dsimp only at hst hq
      rw [srch_drop hjl] at hq
      have hfs := found_s (txns h) (allN (txns h)) L[j] (N - st)
      have hinl := fun {σ : S} {o : Nat} {K : S → List R → Prop} => @search_inl h hE (allN (txns h)) L[j] (N - st) hwho hC (by omega) σ o K
      generalize foundF (txns h) (allN (txns h)) L[j] (N - st) = F at hq hfs hinl
      generalize L[j] = c at hx hC hinl
      have hws : IntKind.i64.wrap ((N : Int) - (st : Int)) = (N : Int) - (st : Int) := i64_in _ (by omega)
      have hwt : IntKind.i64.wrap ((st : Int) + (F.s : Int)) = ((st + F.s : Nat) : Int) := by rw [i64_in _ (by omega)]; omega
      (refine rO ?_; repeat' ((with_reducible first | refine rG ?_ | (refine rS ?_ ?_ <;> intro hp) | (refine rB ?_ ?_ <;> intro hb <;> try rw [hb]) | refine rD ?_ | refine rA ?_ | fail) <;> try simp only [go_sem, simprocAttr, hx, uenc_eq, List.length_map, hal, hshl, hsub, hws]))
      refine SemOp.old ?_
      (refine rO ?_; repeat' ((with_reducible first | refine rG ?_ | (refine rS ?_ ?_ <;> intro hp) | (refine rB ?_ ?_ <;> intro hb <;> try rw [hb]) | refine rD ?_ | refine rA ?_ | fail) <;> try simp only [go_sem, simprocAttr, y_build0, hws]))
      refine call_inl (hinl (o := 46) rfl (by simp only [go_sem, simprocAttr]; simp [seaR]; omega) fun σ' hL => ?_)
      have m4 := hL.m (o := 4) (x := .box [.a (I 0), .a (U 0), .a (.d (.sl [])), .a (I 0)]) rfl rfl (by simp only [go_sem, simprocAttr]) rfl
      have r0 := hL.r (t := 0) (r := .a (evsA h)) (by simp only [go_sem, simprocAttr]) rfl
      have r1 := hL.r (t := 1) (r := .a (I N)) (by simp only [go_sem, simprocAttr]) rfl
      have r4 := hL.r (t := 4) (r := .ref 4 0) (by simp only [go_sem, simprocAttr]) up_ref1
      have r6 := hL.r (t := 6) (r := .a (unsA (afterR (txns h)))) (by simp only [go_sem, simprocAttr]) rfl
      have r10 := hL.r (t := 10) (r := .a (I st)) (by simp only [go_sem, simprocAttr]) rfl
      have r29 := hL.r (t := 29) (r := .a (unsA L)) (by simp only [go_sem, simprocAttr]) rfl
      have r30 := hL.r (t := 30) (r := .a (I L.length)) (by simp only [go_sem, simprocAttr]) rfl
      have r31 := hL.r (t := 31) (r := .a (I j)) (by simp only [go_sem, simprocAttr]) rfl
      (refine rO ?_; repeat' ((with_reducible first | refine rG ?_ | (refine rS ?_ ?_ <;> intro hp) | (refine rB ?_ ?_ <;> intro hb <;> try rw [hb]) | refine rD ?_ | refine rA ?_ | fail) <;> try simp only [go_sem, simprocAttr, m4, r0, r1, r4, r6, r10, r29, r30, r31, one_go, hwt, hwj]))
      · rw [if_pos (show F.v = 1 by omega)] at hq
        exact ⟨(j + 1, st + F.s), by simp only [go_sem, simprocAttr, r0, r1, r4, r6, r10, r29, r30, r31, hwt, hwj], by simp only [go_sem, simprocAttr, m4], ⟨hjl, by dsimp only; omega, hq⟩, by dsimp only; omega⟩
      · rw [if_neg (show ¬ F.v = 1 by omega)] at hq
        rw [hq]
    · have hjl : j = L.length := by have := hj; dsimp only at this; omega
      dsimp only at hq
      rw [hjl, List.drop_length] at hq
      rw [hq]
      refine SemOp.old ?_
      (refine rO ?_; repeat' ((with_reducible first | refine rG ?_ | (refine rS ?_ ?_ <;> intro hp) | (refine rB ?_ ?_ <;> intro hb <;> try rw [hb]) | refine rD ?_ | refine rA ?_ | fail) <;> try simp only [go_sem, simprocAttr, y_build0]))
      rfl
  · rw [if_neg hM] at e2
    rw [maySV, if_neg hM] at hm
    rw [e2]
    (refine rO ?_; repeat' ((with_reducible first | refine rG ?_ | (refine rS ?_ ?_ <;> intro hp) | (refine rB ?_ ?_ <;> intro hb <;> try rw [hb]) | refine rD ?_ | refine rA ?_ | fail) <;> try simp only [go_sem, simprocAttr]))
    refine call_dat hm ?_
    (refine rO ?_; repeat' ((with_reducible first | refine rG ?_ | (refine rS ?_ ?_ <;> intro hp) | (refine rB ?_ ?_ <;> intro hb <;> try rw [hb]) | refine rD ?_ | refine rA ?_ | fail) <;> try simp only [go_sem, simprocAttr, hM]))
    refine SemOp.old ?_
    (refine rO ?_; repeat' ((with_reducible first | refine rG ?_ | (refine rS ?_ ?_ <;> intro hp) | (refine rB ?_ ?_ <;> intro hb <;> try rw [hb]) | refine rD ?_ | refine rA ?_ | fail) <;> try simp only [go_sem, simprocAttr, y_build0]))
    rfl
end Go.VC
end
section
set_option maxRecDepth 100000
set_option linter.unusedSimpArgs false
set_option linter.unusedVariables false
namespace Go.VC
open Go.RowKit Go.Proofs Go.IntWalk
theorem cutI (N : Nat) (r : List Int) : List.take (min (r.length : Int) N).toNat (r.map ienc) = (r.take N).map ienc := by
  have : (min (r.length : Int) N).toNat = min r.length N := by omega
  rw [this, ← List.map_take]
  congr 1
  rcases Nat.le_total r.length N with hl | hl
  · rw [Nat.min_eq_left hl, List.take_of_length_le (Nat.le_refl _), List.take_of_length_le hl]
  · rw [Nat.min_eq_right hl]
theorem stT (h : List Ev) : StT (txns h) := fun t ht => by
  unfold txns at ht
  split at ht
  · rename_i h0
    obtain ⟨kp, hk, rfl⟩ := List.mem_map.1 ht
    have := ((tabT (check_wfl h0) h.length (Nat.le_refl _)).told kp hk).st
    show kp.st ≤ 3
    rw [this]
    unfold stateOf
    (repeat' split) <;> decide
  · cases ht
end Go.VC
end
section
set_option maxRecDepth 100000
set_option linter.unusedSimpArgs false
set_option linter.unusedVariables false
set_option linter.unnecessarySimpa false
namespace Go.VC
open Go.RowKit Go.Proofs Go.IntWalk
theorem tabOk {h : List Ev} (hE : checkE h = 0) : TabOk (txns h) := ⟨txns_len6 h, stT h, txns_ops hE⟩
end Go.VC
end
section
set_option maxRecDepth 100000
set_option linter.unusedSimpArgs false
set_option linter.unusedVariables false
set_option linter.unnecessarySimpa false
namespace Go.VC
open Go.RowKit Go.Proofs Go.IntWalk
theorem t1133 (a b : List Int) : Holds Tryz.prog GL 14 [intsA a, intsA b] [.a (B (a == b))] := by
  refine fn_holds_is (vs := [.tmp 4]) (by kernel_rfl) Tryz.func14 rfl rfl (by kernel_rfl) (by kernel_rfl) rfl fun his => ?_
  have hlen := his.1.len
  rw [List.length_map] at hlen
  (refine rO ?_; repeat' ((with_reducible first | refine rG ?_ | (refine rS ?_ ?_ <;> intro hp) | (refine rB ?_ ?_ <;> intro hb <;> try rw [hb]) | refine rD ?_) <;> try simp only [go_sem, simprocAttr, List.length_map]))
  · have hab := hp
    refine awp_loopA (fun k : Nat => [(0, .a (intsA a)), (1, .a (intsA b)), (12, .a (I a.length)), (13, .a (I k))]) (fun _ => []) (fun k => k ≤ a.length ∧ a.take k = b.take k) (a.length - ·) 0 ?_ ?_ ⟨Nat.zero_le _, rfl⟩ ?_
    · simp only [go_sem, simprocAttr] <;> rfl
    · simp only [go_sem, simprocAttr]
    intro k j ⟨hk, hl⟩
    (refine rO ?_; repeat' ((with_reducible first | refine rG ?_ | (refine rS ?_ ?_ <;> intro hp) | (refine rB ?_ ?_ <;> intro hb <;> try rw [hb]) | refine rD ?_) <;> try simp only [go_sem, simprocAttr]))
    · have hkl : k < a.length := by omega
      have hkb : k < b.length := by omega
      have hx : a[k]? = some a[k] := List.getElem?_eq_getElem hkl
      have hy : b[k]? = some b[k] := List.getElem?_eq_getElem hkb
      have hw := wrap_succ hkl hlen
      (refine rO ?_; repeat' ((with_reducible first | refine rG ?_ | (refine rS ?_ ?_ <;> intro hp) | (refine rB ?_ ?_ <;> intro hb <;> try rw [hb]) | refine rD ?_) <;> try simp only [go_sem, simprocAttr, hx, hy, ienc_eq, hw]))
      · exact ⟨k + 1, by simp only [go_sem, simprocAttr], by simp only [go_sem, simprocAttr], ⟨hkl, by rw [List.take_succ_eq_append_getElem hkl, List.take_succ_eq_append_getElem hkb, hl, hp]⟩, by dsimp only; omega⟩
      · have : a ≠ b := fun e => by subst e; exact hp rfl
        simp [this]
    · have : a = b := by
        rw [List.take_of_length_le (by omega), List.take_of_length_le (by omega)] at hl; exact hl
      simp [this]
  · have : a ≠ b := fun e => by subst e; exact hp rfl
    simp [this]
theorem t1134 (T : List Txn) (hT : T.length ≤ 6) : Holds Tryz.prog GL 27 [txnsA T] [.a (U (allN T))] := by
  refine fn_holds (vs := [.tmp 2]) (by kernel_rfl) Tryz.func27 rfl rfl (by kernel_rfl) (by kernel_rfl) rfl ?_
  have h60 := t60 T.length (by omega)
  have h2p : 2 ^ T.length ≤ 2 ^ 6 := Nat.pow_le_pow_right (by omega) hT
  have hsub : IntKind.u32.wrap (((2 ^ T.length : Nat) : Int) - 1) = ((allN T : Nat) : Int) := by
    have := Nat.two_pow_pos T.length
    rw [show ((2 ^ T.length : Nat) : Int) - 1 = ((allN T : Nat) : Int) by unfold allN; omega]
    exact u32_in _ (by unfold allN; omega)
  (refine rO ?_; repeat' ((with_reducible first | refine rG ?_ | (refine rS ?_ ?_ <;> intro hp) | (refine rB ?_ ?_ <;> intro hb <;> try rw [hb]) | refine rD ?_ | refine rA ?_ | fail) <;> try simp only [go_sem, simprocAttr, List.length_map]))
  refine call_dat h60 ?_
  (refine rO ?_; repeat' ((with_reducible first | refine rG ?_ | (refine rS ?_ ?_ <;> intro hp) | (refine rB ?_ ?_ <;> intro hb <;> try rw [hb]) | refine rD ?_ | refine rA ?_ | fail) <;> try simp only [go_sem, simprocAttr, hsub]))
def Out.sh (d : Nat) : Out → Out
  | .ret s => .ret (s + d)
  | .fin v row s => .fin v row (s + d)
theorem goStep_sh {T : List Txn} {who C B d : Nat} {rec rec' : List Nat → Nat → Out} {row : List Nat} (hrec : ∀ row s, rec' row (s + d) = (rec row s).sh d) (o : Out) (k : Nat) : goStep T who C (B + d) rec' row (o.sh d) k = (goStep T who C B rec row o k).sh d := by
  cases o with
  | fin v r s => rfl
  | ret s =>
    simp only [Out.sh, goStep]
    by_cases hm : mayGo T who row k = true
    · rw [if_pos hm, if_pos hm]
      by_cases hs : s = B
      · rw [if_pos hs, if_pos (by omega)]
      · rw [if_neg hs, if_neg (by omega)]
        by_cases hl : legalN T C (rowI (row ++ [k])) = row.length + 1
        · rw [if_pos hl, if_pos hl, show s + d + 1 = (s + 1) + d by omega, hrec]; rfl
        · rw [if_neg hl, if_neg hl, show s + d + 1 = (s + 1) + d by omega]
    · rw [if_neg hm, if_neg hm]
theorem fold_sh {T : List Txn} {who C B d : Nat} {rec rec' : List Nat → Nat → Out} {row : List Nat} (hrec : ∀ row s, rec' row (s + d) = (rec row s).sh d) : ∀ (l : List Nat) (o : Out), l.foldl (goStep T who C (B + d) rec' row) (o.sh d) = (l.foldl (goStep T who C B rec row) o).sh d
  | [], o => rfl
  | k :: l, o => by rw [List.foldl_cons, List.foldl_cons, goStep_sh hrec, fold_sh hrec l]
theorem goF_sh {T : List Txn} {who C B d : Nat} : ∀ (f : Nat) (row : List Nat) (s : Nat), goF T who C (B + d) f row (s + d) = (goF T who C B f row s).sh d
  | 0, row, s => rfl
  | f + 1, row, s => by
    simp only [goF]
    split
    · rfl
    · exact fold_sh (goF_sh f) _ (.ret s)
theorem Out.sh_fnd {d C : Nat} (o : Out) : (o.sh d).fnd C = ⟨(o.fnd C).v, (o.fnd C).c, (o.fnd C).row, d + (o.fnd C).s⟩ := by
  cases o with
  | ret s => simp only [Out.sh, Out.fnd]; rw [Nat.add_comm]
  | fin v row s =>
    simp only [Out.sh, Out.fnd]
    split <;> simp only [Nat.add_comm]
theorem go_later {T : List Txn} {who C B st : Nat} (h : st ≤ B) : (goF T who C B (T.length + 1) [] st).fnd C = ⟨(foundF T who C (B - st)).v, (foundF T who C (B - st)).c, (foundF T who C (B - st)).row, st + (foundF T who C (B - st)).s⟩ := by
  have := goF_sh (T := T) (who := who) (C := C) (B := B - st) (d := st) (T.length + 1) [] 0
  rw [Nat.sub_add_cancel h, Nat.zero_add] at this
  rw [this, Out.sh_fnd]; rfl
theorem t1063 (T : List Txn) (hT : TabOk T) (N : Nat) (hN : N ≤ 1000000) : Holds Tryz.prog GL 17 [txnsA T, I N] [.a (srchN T (allN T) N (choicesL T) 0).a] := by
  refine fn_holds (vs := [.cell 4 37]) (by kernel_rfl) Tryz.func17 rfl rfl (by kernel_rfl) (by kernel_rfl) rfl ?_
  have hl6 := hT.len
  have hch := t1046 T (by omega)
  rw [choices_ref hl6] at hch
  have hCl := choices_lt hl6
  have hall := t1134 T hl6
  have hwho : allN T < 2 ^ T.length := by have := Nat.two_pow_pos T.length; unfold allN; omega
  have hcl : (choicesL T).length ≤ 64 := choices_len (bitsN (isSt T 2) T.length) (bitsN (isSt T 1) T.length)
  generalize hL0 : choicesL T = L at *
  (refine rO ?_; repeat' ((with_reducible first | refine rG ?_ | (refine rS ?_ ?_ <;> intro hp) | (refine rB ?_ ?_ <;> intro hb <;> try rw [hb]) | refine rD ?_ | refine rA ?_ | fail) <;> try simp only [go_sem, simprocAttr]))
  refine call_dat hch ?_
  (refine rO ?_; repeat' ((with_reducible first | refine rG ?_ | (refine rS ?_ ?_ <;> intro hp) | (refine rB ?_ ?_ <;> intro hb <;> try rw [hb]) | refine rD ?_ | refine rA ?_ | fail) <;> try simp only [go_sem, simprocAttr, List.length_map]))
  refine awp_loopA (fun p : Nat × Nat => [(0, .a (txnsA T)), (1, .a (I N)), (4, .ref 4 0), (5, .a (I p.2)), (10, .a (unsA L)), (11, .a (I L.length)), (12, .a (I p.1))]) (fun _ => [(4, .box [.a (I 0), .a (U 0), .a (.d (.sl [])), .a (I 0)])]) (fun p => p.1 ≤ L.length ∧ p.2 ≤ N ∧ srchN T (allN T) N L 0 = srchN T (allN T) N (L.drop p.1) p.2) (fun p => L.length - p.1) (0, 0) ?_ ?_ ⟨Nat.zero_le _, Nat.zero_le _, rfl⟩ ?_
  · simp only [go_sem, simprocAttr, List.length_map]; try rfl
  · simp only [go_sem, simprocAttr]; try rfl
  rintro ⟨j, st⟩ jj ⟨hj, hst, hq⟩
  (refine rO ?_; repeat' ((with_reducible first | refine rG ?_ | (refine rS ?_ ?_ <;> intro hp) | (refine rB ?_ ?_ <;> intro hb <;> try rw [hb]) | refine rD ?_ | refine rA ?_ | fail) <;> try simp only [go_sem, simprocAttr]))
  · have hjl : j < L.length := by omega
    have hx : L[j]? = some L[j] := List.getElem?_eq_getElem hjl
    have hwj := wrap_succ (n := L.length) hjl (by simp only [maxLen]; omega)
    have hC := (hCl _ (List.getElem_mem hjl)).2
    dsimp only at hst hq
    rw [srch_drop hjl] at hq
    have hfs := found_s T (allN T) L[j] (N - st)
    have hfr := t1060 T hT (allN T) L[j] N hwho hC hN (T.length + 1) [] st (by simp) List.nodup_nil (by simp) hst
    rw [go_later hst] at hfr
    generalize foundF T (allN T) L[j] (N - st) = F at hq hfs hfr
    generalize L[j] = c at hx hC hfr
    (refine rO ?_; repeat' ((with_reducible first | refine rG ?_ | (refine rS ?_ ?_ <;> intro hp) | (refine rB ?_ ?_ <;> intro hb <;> try rw [hb]) | refine rD ?_ | refine rA ?_ | fail) <;> try simp only [go_sem, simprocAttr, hx, uenc_eq, List.length_map]))
    refine call_dat hall ?_
    (refine rO ?_; repeat' ((with_reducible first | refine rG ?_ | (refine rS ?_ ?_ <;> intro hp) | (refine rB ?_ ?_ <;> intro hb <;> try rw [hb]) | refine rD ?_ | refine rA ?_ | fail) <;> try simp only [go_sem, simprocAttr]))
    refine SemOp.old ?_
    (refine rO ?_; repeat' ((with_reducible first | refine rG ?_ | (refine rS ?_ ?_ <;> intro hp) | (refine rB ?_ ?_ <;> intro hb <;> try rw [hb]) | refine rD ?_ | refine rA ?_ | fail) <;> try simp only [go_sem, simprocAttr, y_build0]))
    refine call_rest _ hfr ?_
    simp only [go_sem, simprocAttr]
    refine ⟨rfl, ?_⟩
    (refine rO ?_; repeat' ((with_reducible first | refine rG ?_ | (refine rS ?_ ?_ <;> intro hp) | (refine rB ?_ ?_ <;> intro hb <;> try rw [hb]) | refine rD ?_ | refine rA ?_ | fail) <;> try simp only [go_sem, simprocAttr, hwj]))
    · rw [if_pos (show F.v = 1 by omega)] at hq
      exact ⟨(j + 1, st + F.s), by simp only [go_sem, simprocAttr], by simp only [go_sem, simprocAttr], ⟨hjl, by dsimp only; omega, hq⟩, by dsimp only; omega⟩
    · rw [if_neg (show ¬ F.v = 1 by omega)] at hq
      rw [hq]
  · have hjl : j = L.length := by have := hj; dsimp only at this; omega
    dsimp only at hq
    rw [hjl, List.drop_length] at hq
    rw [hq]
    refine SemOp.old ?_
    (refine rO ?_; repeat' ((with_reducible first | refine rG ?_ | (refine rS ?_ ?_ <;> intro hp) | (refine rB ?_ ?_ <;> intro hb <;> try rw [hb]) | refine rD ?_ | refine rA ?_ | fail) <;> try simp only [go_sem, simprocAttr, y_build0]))
    rfl
end Go.VC
end
section
set_option maxRecDepth 100000
set_option linter.unusedSimpArgs false
set_option linter.unusedVariables false
set_option linter.unnecessarySimpa false
set_option linter.defProp false
namespace Go.VC
open Go.RowKit Go.Proofs Go.IntWalk
theorem t1135 (h : List Ev) : Holds Tryz.prog GL 12 [evsA h] [.a (.d (.fn 21 [.pt [.sl (h.map Ev.enc)]]))] := by
  refine fn_holds (vs := [.tmp 2]) (by kernel_rfl) Tryz.func12 rfl rfl (by kernel_rfl) (by kernel_rfl) rfl ?_
  (refine rO ?_; repeat' ((with_reducible first | refine rG ?_ | (refine rS ?_ ?_ <;> intro hp) | (refine rB ?_ ?_ <;> intro hb <;> try rw [hb]) | refine rD ?_ | refine rA ?_ | fail) <;> try simp only [go_sem, simprocAttr, y_assign_nf]))
theorem c1135 {h : List Ev} {dst : Option Tmp} {σ : S} {K : S → Prop} (hK : S.ret σ dst [.a (.d (.fn 21 [.pt [.sl (h.map Ev.enc)]]))] K) : callV Tryz.prog GL 12 [.a (evsA h)] dst σ K :=
  call_dat (t1135 h) hK
def preX (h : List Ev) : List (List A) := (List.range (h.length + 1)).map fun k => [I (k : Nat), evsA (h.take k)]
theorem preX_at {h : List Ev} {k : Nat} (hk : k ≤ h.length) : (preX h)[k]? = some [I (k : Nat), evsA (h.take k)] := by
  rw [preX, List.getElem?_map, List.getElem?_range (by omega)]; rfl
theorem preX_inv {h : List Ev} {k : Nat} {x : List A} (hx : (preX h)[k]? = some x) : k ≤ h.length ∧ x = [I (k : Nat), evsA (h.take k)] := by
  rw [preX, List.getElem?_map] at hx
  obtain ⟨j, hj, rfl⟩ := Option.map_eq_some_iff.1 hx
  obtain ⟨h1, h2⟩ := List.getElem?_eq_some_iff.1 hj
  rw [List.length_range] at h1
  rw [List.getElem_range] at h2
  subst h2
  exact ⟨by omega, rfl⟩
theorem preX_len (h : List Ev) : (preX h).length = h.length + 1 := by simp [preX]
structure PreI (L : Nat) (T : Array Value) (h : List Ev) (Inv : Nat → S → Prop) (k : Nat) (τ : S) : Prop where
  le : k ≤ h.length + 1
  r0 : τ.regs 0 = yR L
  r1 : τ.regs 1 = .a (.d (.pt [.sl (h.map Ev.enc)]))
  r6 : τ.regs 6 = .a (I ((h.length + 1 : Nat) : Int))
  r7 : τ.regs 7 = .a (I k)
  fv : fvOf (τ.mem 999999) = some T.toList
  inv : Inv k τ.leave
theorem iter1193 (h : List Ev) (hh : h.length ≤ 1000000) : IterV Tryz.prog GL 21 [.pt [.sl (h.map Ev.enc)]] (preX h) := by
  refine iter_body (by kernel_rfl) Tryz.func21 rfl rfl (by kernel_rfl) (by kernel_rfl) (by kernel_rfl) fun L T σ Inv Done hI hD hY h0 => ?_
  have hw1 : IntKind.i64.wrap ((h.length : Int) + 1) = ((h.length + 1 : Nat) : Int) := by rw [i64_in _ (by omega)]; omega
  (refine rO ?_; repeat' ((with_reducible first | refine rG ?_ | (refine rS ?_ ?_ <;> intro hp) | (refine rB ?_ ?_ <;> intro hb <;> try rw [hb]) | refine rD ?_ | refine rA ?_ | fail) <;> try simp only [go_sem, simprocAttr, PI, PY, List.map_cons, List.map_nil, List.length_map, hw1]))
  refine awp_loopG (PreI L T h Inv) (h.length + 1 - ·) 0 ⟨_, Ghost.refl _, Nat.zero_le _, ?_, ?_, ?_, ?_, ?_, ?_⟩ ?_
  iterate 5 (· simp only [go_sem, simprocAttr, PI, PY, List.map_cons, List.map_nil, List.length_map, hw1]; try rfl)
  · simp only [go_sem, simprocAttr, PI, PY]; exact h0
  intro k τ hJ
  obtain ⟨hk, r0, r1, r6, r7, fv, inv⟩ := hJ
  (refine rO ?_; repeat' ((with_reducible first | refine rG ?_ | (refine rS ?_ ?_ <;> intro hp) | (refine rB ?_ ?_ <;> intro hb <;> try rw [hb]) | refine rD ?_ | refine rA ?_ | fail) <;> try simp only [go_sem, simprocAttr, PI, PY, r0, r1, r6, r7]))
  · have hkl : k ≤ h.length := by omega
    have hwk : IntKind.i64.wrap ((k : Int) + 1) = ((k + 1 : Nat) : Int) := by rw [i64_in _ (by omega)]; omega
    have k0 : (0 : Int) ≤ (k : Int) := by omega
    have k1 : (k : Int) ≤ (h.length : Int) := by omega
    have htk : (h.map Ev.enc).take k = (h.take k).map Ev.enc := (List.map_take ..).symm
    (refine rO ?_; repeat' ((with_reducible first | refine rG ?_ | (refine rS ?_ ?_ <;> intro hp) | (refine rB ?_ ?_ <;> intro hb <;> try rw [hb]) | refine rD ?_ | refine rA ?_ | fail) <;> try simp only [go_sem, simprocAttr, PI, PY, r0, r1, r6, r7, k0, k1, htk, List.length_map, Int.toNat_natCast, Int.toNat_zero]))
    refine yield_sem (L := L) (T := T) (x := [I k, evsA (h.take k)]) (A' := Inv (k + 1)) (B' := Done) (by simp only [go_sem, simprocAttr, PI, PY, r0]) (by simp only [go_sem, simprocAttr, PI, PY, r0, r7, htk]; rfl) (by simp only [go_sem, simprocAttr, PI, PY, fv]) (by simp only [PY]; exact hY _ _ _ (preX_at hkl) inv) (fun σ' hA => ?_) (fun σ' hB => ?_)
    · (refine rO ?_; repeat' ((with_reducible first | refine rG ?_ | (refine rS ?_ ?_ <;> intro hp) | (refine rB ?_ ?_ <;> intro hb <;> try rw [hb]) | refine rD ?_ | refine rA ?_ | fail) <;> try simp only [go_sem, simprocAttr, PI, PY, r0, r1, r6, r7]))
      refine ⟨_, k + 1, Ghost.refl _, ⟨by omega, ?_, ?_, ?_, ?_, ?_, ?_⟩, by omega⟩
      iterate 5 (· simp only [go_sem, simprocAttr, PI, PY, r0, r1, r6, r7, hwk])
      · simp only [go_sem, simprocAttr, PI, PY]; exact hI _ _ hA
    · (refine rO ?_; repeat' ((with_reducible first | refine rG ?_ | (refine rS ?_ ?_ <;> intro hp) | (refine rB ?_ ?_ <;> intro hb <;> try rw [hb]) | refine rD ?_ | refine rA ?_ | fail) <;> try simp only [go_sem, simprocAttr, PI, PY, r0, r1, r6, r7]))
      refine iter_end (.inr rfl) (by simp only [go_sem, simprocAttr, PI, PY]) (.inr ?_)
      simp only [PY]; exact hD _ hB
  · refine iter_end (.inl rfl) (by simp only [go_sem, simprocAttr, PI, PY, fv]) (.inl ?_)
    simp only [PY]
    rw [preX_len, show h.length + 1 = k by omega]; exact inv
/-- What the check found: of a beginning. -/
structure Ckd where
  v : Nat
  at_ : Nat
  c : Nat
  row : List Nat
  s : Nat
abbrev Ckd.a (x : Ckd) : A := .ag [dI x.v, dI x.at_, .v (.int .u32 x.c), .sl ((rowI x.row).map ienc), dI x.s]
abbrev Ckd.bx (x : Ckd) : Ob := .box [.a (I x.v), .a (I x.at_), .a (U x.c), .a (intsA (rowI x.row)), .a (I x.s)]
def ckS (h : List Ev) (n : Int) : Nat → Ckd
  | 0 => ⟨0, 0, 0, [], 0⟩
  | k + 1 => ⟨(srchF (h.take k) n).v, k, (srchF (h.take k) n).c, (srchF (h.take k) n).row, (ckS h n k).s + (srchF (h.take k) n).s⟩
def ckE (h : List Ev) (n : Int) (k : Nat) : Ckd := ⟨(srchF (h.take k) n).v, k, (ckS h n k).c, (ckS h n k).row, (ckS h n k).s + (srchF (h.take k) n).s⟩
def badK (h : List Ev) (n : Int) (k : Nat) : Bool := !decide ((srchF (h.take k) n).v = 0)
def ckB (h : List Ev) (n : Int) : Ckd := if firstB (badK h n) (h.length + 1) ≤ h.length then ckE h n (firstB (badK h n) (h.length + 1)) else ckS h n (h.length + 1)
def ckF (h : List Ev) (n : Int) : Ckd := if maySE h n = 0 then ckB h n else ⟨0, 0, 0, [], 0⟩
theorem srchN_s {T : List Txn} {who B : Nat} : ∀ (L : List Nat) (st : Nat), st ≤ B → (srchN T who B L st).s ≤ B
  | [], st, h => h
  | c :: cs, st, h => by
    have := found_s T who c (B - st)
    simp only [srchN]
    split
    · exact srchN_s cs _ (by omega)
    · show st + _ ≤ B; omega
theorem srchF_s (h : List Ev) (n : Int) : (srchF h n).s ≤ 1000000 := by
  unfold srchF
  split
  · obtain ⟨_, h0, h1⟩ := mayS_ok ‹_›
    have := srchN_s (T := txns h) (who := allN (txns h)) (B := n.toNat) (choicesL (txns h)) 0 (Nat.zero_le _)
    omega
  · exact Nat.zero_le _
theorem ckS_s (h : List Ev) (n : Int) : ∀ k, (ckS h n k).s ≤ k * 1000000
  | 0 => Nat.le_refl _
  | k + 1 => by
    have := ckS_s h n k
    have := srchF_s (h.take k) n
    show (ckS h n k).s + _ ≤ _
    omega
structure CkI (h : List Ev) (n : Int) (i : Nat) (σ : S) : Prop where
  r3 : σ.regs 3 = .ref 3 0
  r4 : σ.regs 4 = .ref 4 0
  r8 : σ.regs 8 = .ref 8 0
  m3 : σ.mem 3 = some (.box [.a (I n)])
  m4 : σ.mem 4 = some (.box [.a (I 0), .a (I 0), .a (U 0), .a (.d (.sl [])), .a (I 0)])
  m8 : σ.mem 8 = some (ckS h n i).bx
  good : ∀ j, j < i → badK h n j = false
structure CkD (h : List Ev) (n : Int) (e : Ex) (σ : S) : Prop where
  ex : e = .exit 0
  r4 : σ.regs 4 = .ref 4 0
  r8 : σ.regs 8 = .ref 8 0
  m4 : σ.mem 4 = some (.box [.a (I 0), .a (I 0), .a (U 0), .a (.d (.sl [])), .a (I 0)])
  m8 : σ.mem 8 = some (ckB h n).bx
def Fck : List (List Nat) := [[2, 5, 6, 7], [5, 6, 7], []]
def Fcl : List (List Nat) := [[2, 3], []]
theorem t1068 (h : List Ev) (n : Int) (hh : h.length ≤ 1000) : Holds Tryz.prog GL 5 [evsA h, I n] [.a (ckF h n).a, .a (I (maySE h n))] := by
  refine fn_holds (vs := [.cell 4 26, .tmp 5]) (by kernel_rfl) Tryz.func5 rfl rfl (by kernel_rfl) (by kernel_rfl) rfl ?_
  have hr0 := t1056 h 0 0 n (by decide) (by decide)
  have e2 : ckF h n = if maySE h n = 0 then ckB h n else ⟨0, 0, 0, [], 0⟩ := rfl
  have e00 : rowE h 0 0 n = maySE h n := by
    unfold rowE
    split
    · rw [if_pos (by simp)]; exact ‹maySE h n = 0›.symm
    · rfl
  rw [e00] at hr0
  generalize rowF h 0 0 n = F0 at hr0
  by_cases hM : maySE h n = 0
  · rw [if_pos hM] at e2
    rw [e2, hM]
    rw [hM] at hr0
    (refine rO ?_; repeat' ((with_reducible first | refine rG ?_ | (refine rS ?_ ?_ <;> intro hp) | (refine rB ?_ ?_ <;> intro hb <;> try rw [hb]) | refine rD ?_ | refine rA ?_ | fail) <;> try simp only [go_sem, simprocAttr]))
    refine call_dat hr0 ?_
    (refine rO ?_; repeat' ((with_reducible first | refine rG ?_ | (refine rS ?_ ?_ <;> intro hp) | (refine rB ?_ ?_ <;> intro hb <;> try rw [hb]) | refine rD ?_ | apply c1135 | refine rA ?_ | fail) <;> try simp only [go_sem, simprocAttr]))
    refine range_sem (CkI h n) (CkD h n) (by simp only [go_sem, simprocAttr]) (iter1193 h (by omega)) (fun x hx => ?_) (by kernel_rfl) (by kernel_rfl) (fun j τ h => ?_) (fun e τ h => ?_) (fun L r => ?_) (fun L T r j x τ hr hx hI hrec => ?_) (fun τ hI => ?_) (fun e τ hD => ?_)
    · obtain ⟨j, hj⟩ := List.getElem?_of_mem hx
      obtain ⟨_, rfl⟩ := preX_inv hj; rfl
    · obtain ⟨r3, r4, r8, m3, m4, m8, good⟩ := h
      exact ⟨by simp only [go_sem, simprocAttr, PI, ud_r, r3], by simp only [go_sem, simprocAttr, PI, ud_r, r4], by simp only [go_sem, simprocAttr, PI, ud_r, r8], by rw [ud_m rfl, m3]; simp only [go_sem, simprocAttr, PI], by rw [ud_m rfl, m4]; simp only [go_sem, simprocAttr, PI], by rw [ud_m rfl, m8]; simp only [go_sem, simprocAttr, PI], good⟩
    · obtain ⟨ex, r4, r8, m4, m8⟩ := h
      exact ⟨ex, by simp only [go_sem, simprocAttr, PI, ud_r, r4], by simp only [go_sem, simprocAttr, PI, ud_r, r8], by rw [ud_m rfl, m4]; simp only [go_sem, simprocAttr, PI], by rw [ud_m rfl, m8]; simp only [go_sem, simprocAttr, PI]⟩
    · exact ⟨by simp only [go_sem, simprocAttr], by simp only [go_sem, simprocAttr], by simp only [go_sem, simprocAttr], by simp only [go_sem, simprocAttr], by simp only [go_sem, simprocAttr]; rfl, by simp only [go_sem, simprocAttr]; rfl, fun j hj => by omega⟩
    · obtain ⟨hj, rfl⟩ := preX_inv hx
      obtain ⟨r3, r4, r8, m3, m4, m8, good⟩ := hI
      have hs := t1061 (h.take j) n
      have hsS := ckS_s h n j
      have hsF := srchF_s (h.take j) n
      have hadd : IntKind.i64.wrap (((ckS h n j).s : Int) + ((srchF (h.take j) n).s : Int)) = (((ckS h n j).s + (srchF (h.take j) n).s : Nat) : Int) := by rw [i64_in _ (by omega)]; omega
      have hb : badK h n j = !decide ((srchF (h.take j) n).v = 0) := rfl
      have hS : ckS h n (j + 1) = ⟨(srchF (h.take j) n).v, j, (srchF (h.take j) n).c, (srchF (h.take j) n).row, (ckS h n j).s + (srchF (h.take j) n).s⟩ := rfl
      have hEe : ckE h n j = ⟨(srchF (h.take j) n).v, j, (ckS h n j).c, (ckS h n j).row, (ckS h n j).s + (srchF (h.take j) n).s⟩ := rfl
      generalize ckS h n j = G at *
      generalize srchF (h.take j) n = F at *
      (refine rO ?_; repeat' ((with_reducible first | refine rG ?_ | (refine rS ?_ ?_ <;> intro hp) | (refine rB ?_ ?_ <;> intro hb <;> try rw [hb]) | refine rD ?_ | refine rA ?_ | fail) <;> try simp only [go_sem, simprocAttr, PF, r3, r4, r8, m3, m4, m8, hrec]))
      refine call_dat hs ?_
      (refine rO ?_; repeat' ((with_reducible first | refine rG ?_ | (refine rS ?_ ?_ <;> intro hp) | (refine rB ?_ ?_ <;> intro hb <;> try rw [hb]) | refine rD ?_ | refine draw_F Fck (by decide +kernel) ?_ | refine draw_F Fcl (by decide +kernel) ?_ | refine rA ?_ | fail) <;> try simp only [go_sem, simprocAttr, PF, PG, Fck, Fcl, r3, r4, r8, m3, m4, m8, hrec, hadd]))
      · have hv0 : F.v = 0 := by omega
        rw [hv0] at hS
        exact ⟨by simp only [go_sem, simprocAttr, PF, r3], by simp only [go_sem, simprocAttr, PF, r4], by simp only [go_sem, simprocAttr, PF, r8], by simp only [go_sem, simprocAttr, PF, m3], by simp only [go_sem, simprocAttr, PF, m4], by simp only [go_sem, simprocAttr, PF, m8, hS, hv0]; rfl, fun q hq => by
          by_cases e : q = j
          · subst e; rw [hb, hv0]; rfl
          · exact good q (by omega)⟩
      · refine ⟨rfl, rfl, by simp only [go_sem, simprocAttr, PF, r4], by simp only [go_sem, simprocAttr, PF, r8], by simp only [go_sem, simprocAttr, PF, m4], ?_⟩
        have hk : firstB (badK h n) (h.length + 1) = j := firstB_hit (by omega) good (by rw [hb, decide_eq_false (show ¬ F.v = 0 by omega)]; rfl)
        rw [ckB, hk, if_pos hj, hEe]
        simp only [go_sem, simprocAttr, PF, m8]
    · obtain ⟨r3, r4, r8, m3, m4, m8, good⟩ := hI
      rw [preX_len] at m8 good
      have hB : ckB h n = ckS h n (h.length + 1) := by
        unfold ckB
        rw [firstB_none good, if_neg (by omega)]
      rw [hB]
      (refine rO ?_; repeat' ((with_reducible first | refine rG ?_ | (refine rS ?_ ?_ <;> intro hp) | (refine rB ?_ ?_ <;> intro hb <;> try rw [hb]) | refine rD ?_ | refine rA ?_ | fail) <;> try simp only [go_sem, simprocAttr, PF, r3, r4, r8, m3, m4, m8]))
    · obtain ⟨rfl, r4, r8, m4, m8⟩ := hD
      (refine rO ?_; repeat' ((with_reducible first | refine rG ?_ | (refine rS ?_ ?_ <;> intro hp) | (refine rB ?_ ?_ <;> intro hb <;> try rw [hb]) | refine rD ?_ | refine rA ?_ | fail) <;> try simp only [go_sem, simprocAttr, PF, r4, r8, m4, m8]))
  · rw [if_neg hM] at e2
    rw [e2]
    (refine rO ?_; repeat' ((with_reducible first | refine rG ?_ | (refine rS ?_ ?_ <;> intro hp) | (refine rB ?_ ?_ <;> intro hb <;> try rw [hb]) | refine rD ?_ | refine rA ?_ | fail) <;> try simp only [go_sem, simprocAttr]))
    refine call_dat hr0 ?_
    (refine rO ?_; repeat' ((with_reducible first | refine rG ?_ | (refine rS ?_ ?_ <;> intro hp) | (refine rB ?_ ?_ <;> intro hb <;> try rw [hb]) | refine rD ?_ | refine rA ?_ | fail) <;> try simp only [go_sem, simprocAttr, hM]))
    refine SemOp.old ?_
    (refine rO ?_; repeat' ((with_reducible first | refine rG ?_ | (refine rS ?_ ?_ <;> intro hp) | (refine rB ?_ ?_ <;> intro hb <;> try rw [hb]) | refine rD ?_ | refine rA ?_ | fail) <;> try simp only [go_sem, simprocAttr, y_build0]))
    rfl
end Go.VC
end
section
set_option maxRecDepth 100000
set_option linter.unusedSimpArgs false
set_option linter.unusedVariables false
set_option linter.unnecessarySimpa false
namespace Go.VC
open Go.RowKit Go.Proofs Go.IntWalk
/-- What a check found, of any numbers. -/
structure Cd where
  v : Int
  at_ : Int
  c : Int
  row : List Int
  s : Int
abbrev Cd.a (x : Cd) : A := .ag [dI x.v, dI x.at_, .v (.int .u32 x.c), .sl (x.row.map ienc), dI x.s]
def Ckd.cd (x : Ckd) : Cd := ⟨x.v, x.at_, x.c, rowI x.row, x.s⟩
def sameCd (a b : Cd) : Bool := a.v == b.v && a.at_ == b.at_ && a.c == b.c && a.s == b.s && a.row == b.row
theorem sameCd_refl (a : Cd) : sameCd a a = true := by simp [sameCd]
theorem t1070 (a b : Cd) : Holds Tryz.prog GL 7 [a.a, b.a] [.a (B (sameCd a b))] := by
  refine fn_holds (vs := [.tmp 4]) (by kernel_rfl) Tryz.func7 rfl rfl (by kernel_rfl) (by kernel_rfl) rfl ?_
  have h34 := t34 a.row b.row
  unfold sameCd
  obtain ⟨av, aa, ac, ar, as_⟩ := a
  obtain ⟨bv, ba, bc, br, bs⟩ := b
  simp only at h34 ⊢
  generalize (ar == br) = e at h34
  (refine rO ?_; repeat' ((with_reducible first | refine rG ?_ | (refine rS ?_ ?_ <;> intro hp) | (refine rB ?_ ?_ <;> intro hb <;> try rw [hb]) | refine rD ?_ | refine rA ?_ | fail) <;> try simp only [go_sem, simprocAttr]))
  · refine call_dat h34 ?_
    (refine rO ?_; repeat' ((with_reducible first | refine rG ?_ | (refine rS ?_ ?_ <;> intro hp) | (refine rB ?_ ?_ <;> intro hb <;> try rw [hb]) | refine rD ?_ | refine rA ?_ | fail) <;> try simp only [go_sem, simprocAttr]))
    all_goals simp_all
  all_goals simp_all
def fitB (n : Int) : Int := if 3000 < n ∧ n ≤ 1000000 then 3000 else n
theorem t1067 (n : Int) : Holds Tryz.prog GL 4 [I n] [.a (I (fitB n))] := by
  refine fn_holds (vs := [.tmp 2]) (by kernel_rfl) Tryz.func4 rfl rfl (by kernel_rfl) (by kernel_rfl) rfl ?_
  unfold fitB
  by_cases h1 : 3000 < n
  · have g1 : n > 3000 := h1
    by_cases h2 : n ≤ 1000000
    · rw [if_pos ⟨h1, h2⟩]
      (refine rO ?_; repeat' ((with_reducible first | refine rG ?_ | (refine rS ?_ ?_ <;> intro hp) | (refine rB ?_ ?_ <;> intro hb <;> try rw [hb]) | refine rD ?_ | refine rA ?_ | fail) <;> try simp only [go_sem, simprocAttr, g1, h2]))
    · rw [if_neg fun h => h2 h.2]
      (refine rO ?_; repeat' ((with_reducible first | refine rG ?_ | (refine rS ?_ ?_ <;> intro hp) | (refine rB ?_ ?_ <;> intro hb <;> try rw [hb]) | refine rD ?_ | refine rA ?_ | fail) <;> try simp only [go_sem, simprocAttr, g1, h2]))
  · have g1 : ¬ n > 3000 := h1
    rw [if_neg fun h => h1 h.1]
    (refine rO ?_; repeat' ((with_reducible first | refine rG ?_ | (refine rS ?_ ?_ <;> intro hp) | (refine rB ?_ ?_ <;> intro hb <;> try rw [hb]) | refine rD ?_ | refine rA ?_ | fail) <;> try simp only [go_sem, simprocAttr, g1]))
def aliveP : List Ev := [⟨0, 1, 0, 0⟩, ⟨1, 1, 0, 0⟩, ⟨2, 1, 0, 0⟩, ⟨3, 1, 0, 5⟩, ⟨8, 1, 0, 0⟩]
theorem aliveP_e : maySE aliveP 9 = 0 := by decide +kernel
theorem aliveP_v : ckF aliveP 9 = ⟨1, 4, 0, [0], 4⟩ := by kernel_rfl
theorem t1069 : Holds Tryz.prog GL 8 [] [.a (B true)] := by
  refine fn_holds (vs := [.tmp 0]) (by kernel_rfl) Tryz.func8 rfl rfl (by kernel_rfl) (by kernel_rfl) rfl ?_
  (refine rO ?_; repeat' ((with_reducible first | refine rG ?_ | (refine rS ?_ ?_ <;> intro hp) | (refine rB ?_ ?_ <;> intro hb <;> try rw [hb]) | refine rD ?_ | refine rA ?_ | fail) <;> try simp only [go_sem, simprocAttr]))
  refine call_rest _ (t1068 aliveP 9 (by decide)) ?_
  rw [aliveP_e, aliveP_v]
  simp only [go_sem, simprocAttr, aliveP, Ev.enc_eq]
  refine ⟨rfl, ?_⟩
  (refine rO ?_; repeat' ((with_reducible first | refine rG ?_ | (refine rS ?_ ?_ <;> intro hp) | (refine rB ?_ ?_ <;> intro hb <;> try rw [hb]) | refine rD ?_ | refine rA ?_ | fail) <;> try simp only [go_sem, simprocAttr, rowI, List.map_cons, List.map_nil, ienc_eq]))
theorem may_take {h : List Ev} {n : Int} (hM : maySE h n = 0) {k : Nat} (hk : k ≤ h.length) : maySE (h.take k) n = 0 := by
  obtain ⟨hE, h0, h1⟩ := mayS_ok hM
  rw [maySE, if_pos (check_take hE hk), if_pos ⟨h0, h1⟩]
end Go.VC
end
section
set_option maxRecDepth 100000
set_option linter.unusedSimpArgs false
set_option linter.unusedVariables false
set_option linter.unnecessarySimpa false
namespace Go.VC
open Go.RowKit Go.Proofs Go.IntWalk
section
variable {H : Type} {enc : TypeId × Value → H} {w : World} {base : Nat} {held : Bool}
def cdV (x : Cd) (s : Value) : Value := .agg #[.int .i64 x.v, .int .i64 x.at_, .int .u32 x.c, s, .int .i64 x.s]
theorem relA_cd {st : Nat → Prop} {x : Cd} {s : Value} (h : Rd st w s (.sl (x.row.map ienc))) : RelA st w (cdV x s) x.a :=
  ⟨[.int .i64 x.v, .int .i64 x.at_, .int .u32 x.c, s, .int .i64 x.s], rfl, F2.cons (.v rfl) (F2.cons (.v rfl) (F2.cons (.v rfl) (F2.cons h (F2.cons (.v rfl) F2.nil))))⟩
theorem cd_cells {fuel : Nat} {cs : List Value} {y : DataW H × List MemPlace} (h : DataW.trod enc Tryz.prog w base (fun _ => true) held fuel 26 cs = some y) : ∃ (x : Cd) (s : Value), cs = [.int .i64 x.v, .int .i64 x.at_, .int .u32 x.c, s, .int .i64 x.s] ∧ Rd (fun _ => True) w s (.sl (x.row.map ienc)) := by
  obtain ⟨xs, n, _, rfl, hl, hlen, hf⟩ := DataW.trod_struct Tryz.underlying26 h
  have h5 : cs.length = 5 := by rw [hl]; kernel_rfl
  have c3 : Tryz.prog.cellsOf 3 = 1 := by kernel_rfl
  have c28 : Tryz.prog.cellsOf 23 = 1 := by kernel_rfl
  have c30 : Tryz.prog.cellsOf 24 = 1 := by kernel_rfl
  match cs, h5, xs, hlen with
  | [a, b, c, d, e], _, [x0, x1, x2, x3, x4], _ =>
    have g := fun i f hi => hf i f hi
    obtain ⟨n0, e0⟩ := int_cell Tryz.underlying3 (by simpa [c3] using g 0 _ rfl)
    obtain ⟨n1, e1⟩ := int_cell Tryz.underlying3 (by simpa [c3] using g 1 _ rfl)
    obtain ⟨n2, e2⟩ := int_cell Tryz.underlying23 (by simpa [c28] using g 2 _ rfl)
    obtain ⟨l, hr⟩ := rd_ints30 (v := d) (by simpa [c30] using g 3 _ rfl)
    obtain ⟨n4, e4⟩ := int_cell Tryz.underlying3 (by simpa [c3] using g 4 _ rfl)
    exact ⟨⟨n0, n1, n2, l, n4⟩, d, by rw [e0, e1, e2, e4], hr⟩
theorem open_cd {r : Reach} {base' : Nat} {v : Value} {d : DataW H} {p : List MemPlace} (hv : Value.okWide Tryz.prog w r base' 26 v) (h : DataW.Trod enc Tryz.prog w base (fun _ => true) held 26 v d p) : ∃ (x : Cd) (s : Value), Rd (fun _ => True) w s (.sl (x.row.map ienc)) ∧ v = cdV x s := by
  unfold Value.okWide at hv
  rw [Tryz.underlying26] at hv
  obtain ⟨cs, rfl, _⟩ := hv
  obtain ⟨fuel, hf⟩ := h
  obtain ⟨x, s, he, hr⟩ := cd_cells hf
  refine ⟨x, s, hr, ?_⟩
  have : cs.toList = [.int .i64 x.v, .int .i64 x.at_, .int .u32 x.c, s, .int .i64 x.s] := he
  unfold cdV
  congr 1
  exact Array.toList_inj.1 this
end
theorem t2038 (a b : Cd) : Holds Tryz.prog GL 6 [a.a, b.a] [.a (B (sameCd a b))] := by
  refine fn_holds (vs := [.tmp 4]) (by kernel_rfl) Tryz.func6 rfl rfl (by kernel_rfl) (by kernel_rfl) rfl ?_
  have h34 := t1133 a.row b.row
  unfold sameCd
  obtain ⟨av, aa, ac, ar, as_⟩ := a
  obtain ⟨bv, ba, bc, br, bs⟩ := b
  simp only at h34 ⊢
  generalize (ar == br) = e at h34
  (refine rO ?_; repeat' ((with_reducible first | refine rG ?_ | (refine rS ?_ ?_ <;> intro hp) | (refine rB ?_ ?_ <;> intro hb <;> try rw [hb]) | refine rD ?_ | refine rA ?_ | fail) <;> try simp only [go_sem, simprocAttr]))
  · refine call_dat h34 ?_
    (refine rO ?_; repeat' ((with_reducible first | refine rG ?_ | (refine rS ?_ ?_ <;> intro hp) | (refine rB ?_ ?_ <;> intro hb <;> try rw [hb]) | refine rD ?_ | refine rA ?_ | fail) <;> try simp only [go_sem, simprocAttr]))
    all_goals simp_all
  all_goals simp_all
theorem t2041 (h : List Ev) (n : Int) (hh : h.length ≤ 1000) (hM : maySE h n = 0) : Holds Tryz.prog GL 10 [evsA h, I n] [.a (ckB h n).a] := by
  refine fn_holds (vs := [.cell 4 26]) (by kernel_rfl) Tryz.func10 rfl rfl (by kernel_rfl) (by kernel_rfl) rfl ?_
  (refine rO ?_; repeat' ((with_reducible first | refine rG ?_ | (refine rS ?_ ?_ <;> intro hp) | (refine rB ?_ ?_ <;> intro hb <;> try rw [hb]) | refine rD ?_ | refine rA ?_ | fail) <;> try simp only [go_sem, simprocAttr]))
  refine SemOp.old ?_
  (refine rO ?_; repeat' ((with_reducible first | refine rG ?_ | (refine rS ?_ ?_ <;> intro hp) | (refine rB ?_ ?_ <;> intro hb <;> try rw [hb]) | refine rD ?_ | refine rA ?_ | fail) <;> try simp only [go_sem, simprocAttr, y_build0]))
  refine awp_loopA (fun k : Nat => [(0, .a (evsA h)), (1, .a (I n)), (4, .ref 4 0), (5, .ref 5 0), (6, .a (I k))]) (fun k => [(4, .box [.a (I 0), .a (I 0), .a (U 0), .a (.d (.sl [])), .a (I 0)]), (5, (ckS h n k).bx)]) (fun k => k ≤ h.length + 1 ∧ ∀ j, j < k → badK h n j = false) (h.length + 1 - ·) 0 ?_ ?_ ⟨Nat.zero_le _, fun j hj => by omega⟩ ?_
  · simp only [go_sem, simprocAttr]; try rfl
  · simp only [go_sem, simprocAttr]; try exact ⟨rfl, rfl⟩
  rintro k jj ⟨hk, good⟩
  (refine rO ?_; repeat' ((with_reducible first | refine rG ?_ | (refine rS ?_ ?_ <;> intro hp) | (refine rB ?_ ?_ <;> intro hb <;> try rw [hb]) | refine rD ?_ | refine rA ?_ | fail) <;> try simp only [go_sem, simprocAttr, List.length_map]))
  · have hkl : k ≤ h.length := by omega
    have hMk := may_take hM hkl
    obtain ⟨hE, hn0, hn1⟩ := mayS_ok hMk
    obtain ⟨N, rfl⟩ : ∃ N : Nat, n = N := ⟨n.toNat, by omega⟩
    have k0' : (0 : Int) ≤ (k : Int) := by omega
    have k1' : (k : Int) ≤ (h.length : Int) := by omega
    have htk : (h.map Ev.enc).take k = (h.take k).map Ev.enc := (List.map_take ..).symm
    have hof := t1058 (h.take k) hE
    have hs := t1063 (txns (h.take k)) (tabOk hE) N (by omega)
    have eF : srchF (h.take k) (N : Int) = srchN (txns (h.take k)) (allN (txns (h.take k))) N (choicesL (txns (h.take k))) 0 := by rw [srchF, if_pos hMk, Int.toNat_natCast]
    rw [← eF] at hs
    have hsS := ckS_s h (N : Int) k
    have hsF := srchF_s (h.take k) (N : Int)
    have hadd : IntKind.i64.wrap (((ckS h (N : Int) k).s : Int) + ((srchF (h.take k) (N : Int)).s : Int)) = (((ckS h (N : Int) k).s + (srchF (h.take k) (N : Int)).s : Nat) : Int) := by rw [i64_in _ (by omega)]; omega
    have hb : badK h (N : Int) k = !decide ((srchF (h.take k) (N : Int)).v = 0) := rfl
    have hS : ckS h (N : Int) (k + 1) = ⟨(srchF (h.take k) (N : Int)).v, k, (srchF (h.take k) (N : Int)).c, (srchF (h.take k) (N : Int)).row, (ckS h (N : Int) k).s + (srchF (h.take k) (N : Int)).s⟩ := rfl
    have hEe : ckE h (N : Int) k = ⟨(srchF (h.take k) (N : Int)).v, k, (ckS h (N : Int) k).c, (ckS h (N : Int) k).row, (ckS h (N : Int) k).s + (srchF (h.take k) (N : Int)).s⟩ := rfl
    have hwk : IntKind.i64.wrap ((k : Int) + 1) = ((k + 1 : Nat) : Int) := by rw [i64_in _ (by omega)]; omega
    generalize ckS h (N : Int) k = G at *
    generalize srchF (h.take k) (N : Int) = F at *
    (refine rO ?_; repeat' ((with_reducible first | refine rG ?_ | (refine rS ?_ ?_ <;> intro hp) | (refine rB ?_ ?_ <;> intro hb <;> try rw [hb]) | refine rD ?_ | refine rA ?_ | fail) <;> try simp only [go_sem, simprocAttr, k0', k1', htk, List.length_map, Int.toNat_natCast, Int.toNat_zero]))
    refine call_dat hof ?_
    (refine rO ?_; repeat' ((with_reducible first | refine rG ?_ | (refine rS ?_ ?_ <;> intro hp) | (refine rB ?_ ?_ <;> intro hb <;> try rw [hb]) | refine rD ?_ | refine rA ?_ | fail) <;> try simp only [go_sem, simprocAttr]))
    refine call_dat hs ?_
    (refine rO ?_; repeat' ((with_reducible first | refine rG ?_ | (refine rS ?_ ?_ <;> intro hp) | (refine rB ?_ ?_ <;> intro hb <;> try rw [hb]) | refine rD ?_ | refine rA ?_ | fail) <;> try simp only [go_sem, simprocAttr, hadd, hwk]))
    · have hv0 : F.v = 0 := by omega
      exact ⟨k + 1, by simp only [go_sem, simprocAttr, hwk], by simp only [go_sem, simprocAttr, hS]; try exact ⟨rfl, rfl⟩, ⟨by omega, fun q hq => by
        by_cases e : q = k
        · subst e; rw [hb, hv0]; rfl
        · exact good q (by omega)⟩, by dsimp only; omega⟩
    · have hkk : firstB (badK h (N : Int)) (h.length + 1) = k := firstB_hit (by omega) good (by rw [hb, decide_eq_false (show ¬ F.v = 0 by omega)]; rfl)
      rw [ckB, hkk, if_pos hkl, hEe]
  · have hkl : k = h.length + 1 := by omega
    have hB : ckB h n = ckS h n (h.length + 1) := by
      unfold ckB
      rw [firstB_none (fun j hj => good j (by omega)), if_neg (by omega)]
    rw [hB, ← hkl]
def Fcd : List (List Nat) := [[0, 1, 2, 3, 4, 5, 6, 7, 8, 9, 10, 11, 12, 13, 14, 15, 16, 17, 18], [5, 6, 7, 8, 9, 10, 11, 12, 13, 14, 15, 16, 17, 18], [12, 13, 14, 15, 16, 17, 18], [], []]
theorem t2006 (h0 : List Ev) (n0 : Int) (a b : Cd) : Holds Tryz.prog GL 3 [evsA h0, I n0, a.a, b.a] [.a (B true)] := by
  refine fn_holds (vs := [.tmp 8]) (by kernel_rfl) Tryz.func3 rfl rfl (by kernel_rfl) (by kernel_rfl) rfl ?_
  have m0 : (0 : Int) ≤ min (h0.length : Int) 62 := by omega
  have m1 : min (h0.length : Int) 62 ≤ (h0.length : Int) := by omega
  have hc : List.take (min (h0.length : Int) 62).toNat (h0.map Ev.enc) = (h0.take 62).map Ev.enc := cutN 62 h0
  have hl62 : (h0.take 62).length ≤ 62 := by simp; omega
  generalize h0.take 62 = h at hc hl62
  obtain ⟨av, aa, ac, ar, as_⟩ := a
  obtain ⟨bv, ba, bc, br, bs⟩ := b
  have ma0 : (0 : Int) ≤ min (ar.length : Int) 10 := by omega
  have ma1 : min (ar.length : Int) 10 ≤ (ar.length : Int) := by omega
  have mb0 : (0 : Int) ≤ min (br.length : Int) 10 := by omega
  have mb1 : min (br.length : Int) 10 ≤ (br.length : Int) := by omega
  have ha : List.take (min (ar.length : Int) 10).toNat (ar.map ienc) = (ar.take 10).map ienc := cutI 10 ar
  have hb : List.take (min (br.length : Int) 10).toNat (br.map ienc) = (br.take 10).map ienc := cutI 10 br
  generalize ar.take 10 = ar' at ha
  generalize br.take 10 = br' at hb
  have h67 := t1067 n0
  generalize fitB n0 = n at h67
  (refine rO ?_; repeat' ((with_reducible first | refine rG ?_ | (refine rS ?_ ?_ <;> intro hp) | (refine rB ?_ ?_ <;> intro hb <;> try rw [hb]) | refine rD ?_ | refine draw_F Fcd (by decide +kernel) ?_ | refine rA ?_ | fail) <;> try simp only [go_sem, simprocAttr, List.length_map, m0, m1, hc, ma0, ma1, ha, mb0, mb1, hb, Int.toNat_zero, PG, Fcd]))
  refine call_dat h67 ?_
  (refine rO ?_; repeat' ((with_reducible first | refine rG ?_ | (refine rS ?_ ?_ <;> intro hp) | (refine rB ?_ ?_ <;> intro hb <;> try rw [hb]) | refine rD ?_ | refine rA ?_ | fail) <;> try simp only [go_sem, simprocAttr, List.length_map, m0, m1, hc, ma0, ma1, ha, mb0, mb1, hb, Int.toNat_zero, PG, Fcd]))
  refine call_dat (t1068 h n (by omega)) ?_
  (refine rO ?_; repeat' ((with_reducible first | refine rG ?_ | (refine rS ?_ ?_ <;> intro hp) | (refine rB ?_ ?_ <;> intro hb <;> try rw [hb]) | refine rD ?_ | refine rA ?_ | fail) <;> try simp only [go_sem, simprocAttr, hc]))
  refine callQ_dat (res := [B (sameCd ⟨av, aa, ac, ar', as_⟩ ⟨bv, ba, bc, br', bs⟩)]) (t2038 ⟨av, aa, ac, ar', as_⟩ ⟨bv, ba, bc, br', bs⟩) ?_
  (refine rO ?_; repeat' ((with_reducible first | refine rG ?_ | (refine rS ?_ ?_ <;> intro hp) | (refine rB ?_ ?_ <;> intro hb <;> try rw [hb]) | refine rD ?_ | refine rA ?_ | fail) <;> try simp only [go_sem, simprocAttr, hc]))
  refine callQ_dat (res := [B (sameCd ⟨av, aa, ac, ar', as_⟩ ⟨bv, ba, bc, br', bs⟩)]) (t1070 ⟨av, aa, ac, ar', as_⟩ ⟨bv, ba, bc, br', bs⟩) ?_
  generalize sameCd ⟨av, aa, ac, ar', as_⟩ ⟨bv, ba, bc, br', bs⟩ = e
  have hwy := t1032 h n
  have e2 : ckF h n = if maySE h n = 0 then ckB h n else ⟨0, 0, 0, [], 0⟩ := rfl
  have q69 := fun {σ : S} {KR : R → Prop} => callQ_dat (σ := σ) (KR := KR) (res := [B true]) t1069
  (refine rO ?_; repeat' ((with_reducible first | refine rG ?_ | (refine rS ?_ ?_ <;> intro hp) | (refine rB ?_ ?_ <;> intro hb <;> try rw [hb]) | refine rD ?_ | refine rA ?_ | fail) <;> try simp only [go_sem, simprocAttr]))
  · cases e <;> simp at hb
  refine callQ_dat (res := [B (sameCd ⟨av, aa, ac, ar', as_⟩ ⟨av, aa, ac, ar', as_⟩)]) (t2038 ⟨av, aa, ac, ar', as_⟩ ⟨av, aa, ac, ar', as_⟩) ?_
  rw [sameCd_refl]
  (refine rO ?_; repeat' ((with_reducible first | refine rG ?_ | (refine rS ?_ ?_ <;> intro hp) | (refine rB ?_ ?_ <;> intro hb <;> try rw [hb]) | refine rD ?_ | refine rA ?_ | fail) <;> try simp only [go_sem, simprocAttr, hc]))
  refine q69 ?_
  (refine rO ?_; repeat' ((with_reducible first | refine rG ?_ | (refine rS ?_ ?_ <;> intro hp) | (refine rB ?_ ?_ <;> intro hb <;> try rw [hb]) | refine rD ?_ | refine rA ?_ | fail) <;> try simp only [go_sem, simprocAttr, hc]))
  refine call_dat hwy ?_
  by_cases hM : maySE h n = 0
  · rw [if_pos hM] at e2
    have hs := t2041 h n (by omega) hM
    have hsm := t1070 (ckB h n).cd (ckB h n).cd
    rw [sameCd_refl] at hsm
    rw [e2]
    (refine rO ?_; repeat' ((with_reducible first | refine rG ?_ | (refine rS ?_ ?_ <;> intro hp) | (refine rB ?_ ?_ <;> intro hb <;> try rw [hb]) | refine rD ?_ | refine rA ?_ | fail) <;> try simp only [go_sem, simprocAttr, hc, hM]))
    refine callQ_dat (res := [(ckB h n).a]) hs ?_
    (refine rO ?_; repeat' ((with_reducible first | refine rG ?_ | (refine rS ?_ ?_ <;> intro hp) | (refine rB ?_ ?_ <;> intro hb <;> try rw [hb]) | refine rD ?_ | refine rA ?_ | fail) <;> try simp only [go_sem, simprocAttr, hc, hM]))
    refine callQ_dat (res := [B true]) hsm ?_
    (refine rO ?_; repeat' ((with_reducible first | refine rG ?_ | (refine rS ?_ ?_ <;> intro hp) | (refine rB ?_ ?_ <;> intro hb <;> try rw [hb]) | refine rD ?_ | refine rA ?_ | fail) <;> try simp only [go_sem, simprocAttr, hc, hM]))
  · rw [if_neg hM] at e2
    rw [e2]
    have hs0 := t1070 ⟨0, 0, 0, [], 0⟩ ⟨0, 0, 0, [], 0⟩
    rw [sameCd_refl] at hs0
    (refine rO ?_; repeat' ((with_reducible first | refine rG ?_ | (refine rS ?_ ?_ <;> intro hp) | (refine rB ?_ ?_ <;> intro hb <;> try rw [hb]) | refine rD ?_ | refine rA ?_ | fail) <;> try simp only [go_sem, simprocAttr, hc, hM]))
    refine SemOp.old ?_
    (refine rO ?_; repeat' ((with_reducible first | refine rG ?_ | (refine rS ?_ ?_ <;> intro hp) | (refine rB ?_ ?_ <;> intro hb <;> try rw [hb]) | refine rD ?_ | refine rA ?_ | fail) <;> try simp only [go_sem, simprocAttr, y_build0]))
    refine call_dat hs0 ?_
    (refine rO ?_; repeat' ((with_reducible first | refine rG ?_ | (refine rS ?_ ?_ <;> intro hp) | (refine rB ?_ ?_ <;> intro hb <;> try rw [hb]) | refine rD ?_ | refine rA ?_ | fail) <;> try simp only [go_sem, simprocAttr]))
end Go.VC
end
