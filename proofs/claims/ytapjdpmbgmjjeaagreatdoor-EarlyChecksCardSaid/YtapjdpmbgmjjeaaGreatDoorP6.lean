import Derived.RecoverIn
import Derived.Test.YtapjdpmbgmjjeaaGreatDoorP5
set_option linter.unusedVariables false
set_option linter.unusedSimpArgs false
set_option linter.unnecessarySimpa false
set_option linter.defProp false
set_option maxRecDepth 100000
section
set_option maxRecDepth 100000
namespace Go.VC
open Go.RowKit Go.Proofs Go.IntWalk
abbrev Op.a (o : Op) : A := .ag [dB o.w, dI o.var, dI o.val]
abbrev memM (m : List Op) : A := .ag [.sl (m.map Op.enc)]
def withM (m : List Op) (ops : List Op) : List Op := ops.foldl (fun m o => if o.w then o :: m else m) m
def getM : List Op → Int → Int
 | [], _ => 0
 | o :: m, v => if o.var = v then o.val else getM m v
theorem withM_s {m ops : List Op} {k : Nat} (hk : k < ops.length) : withM m (ops.take (k + 1)) = if ops[k].w then ops[k] :: withM m (ops.take k) else withM m (ops.take k) := by
 rw [List.take_succ_eq_append_getElem hk, withM, List.foldl_append]; rfl
theorem withM_len : ∀ (ops m : List Op), (withM m ops).length ≤ m.length + ops.length
 | [], m => by simp [withM]
 | o :: ops, m => by
  show (withM (if o.w then o :: m else m) ops).length ≤ _
  have := withM_len ops (if o.w then o :: m else m)
  split at this
  ·simp only [List.length_cons] at this ⊢; rename_i h; rw [if_pos h]; omega
  ·simp only [List.length_cons] at this ⊢; rename_i h; rw [if_neg h]; omega
def MemRel (m : List Op) (ms : List Int) : Prop := ms.length = 8 ∧ ∀ v : Nat, v < 8 → ms.getD v 0 = getM m v
theorem MemRel.wrt {m : List Op} {ms : List Int} (h : MemRel m ms) (o : Op) (hv : 0 ≤ o.var ∧ o.var < 8) : MemRel (if o.w then o :: m else m) (wrt ms o) := by
 unfold VC.wrt
 split
 ·refine ⟨by rw [List.length_set]; exact h.1, fun v hv8 => ?_⟩
  have := h.1
  rw [List.getD_eq_getElem?_getD, List.getElem?_set]
  by_cases e : o.var.toNat = v
  ·rw [if_pos e, if_pos (by omega)]
   simp only [getM, Option.getD_some]
   rw [if_pos (by omega)]
  ·rw [if_neg e, ← List.getD_eq_getElem?_getD, h.2 v hv8]
   simp only [getM]
   rw [if_neg (by omega)]
 ·exact h
theorem MemRel.with_ : ∀ {ops m : List Op} {ms : List Int}, MemRel m ms → (∀ o ∈ ops, 0 ≤ o.var ∧ o.var < 8) → MemRel (withM m ops) (withF ms ops)
 | [], m, ms, h, _ => h
 | o :: ops, m, ms, h, ho => by
  show MemRel (withM (if o.w then o :: m else m) ops) (withF (VC.wrt ms o) ops)
  exact (h.wrt o (ho o (by simp))).with_ fun x hx => ho x (by simp [hx])
theorem t1233 (m : List Op) (o : Op) (hm : m.length ≤ 1000000000) : Holds Tryz.prog GL 123 [memM m, o.a] [.a (memM (o :: m))] := by
 refine fn_holds (vs := [.cell 4 118]) (by kernel_rfl) Tryz.func123 rfl rfl (by kernel_rfl) (by kernel_rfl) rfl ?_
 have hb : (1 + m.length) * 24 ≤ 140737488355328 := by omega
 (refine rO ?_; repeat' ((with_reducible first | refine rG ?_ | (refine rS ?_ ?_ <;> intro hp) | (refine rB ?_ ?_ <;> intro hb <;> try rw [hb]) | refine rD ?_ | refine rA ?_ | fail) <;> try simp only [go_sem, simprocAttr, List.length_map, ops_lenT, hb, Op.enc_eq]))
 refine SemOp.old ?_
 (refine rO ?_; repeat' ((with_reducible first | refine rG ?_ | (refine rS ?_ ?_ <;> intro hp) | (refine rB ?_ ?_ <;> intro hb <;> try rw [hb]) | refine rD ?_ | refine rA ?_ | fail) <;> try simp only [go_sem, simprocAttr, y_build0, List.map_cons, Op.enc_eq]))
theorem getM_drop {m : List Op} {k : Nat} {v : Int} (hk : k < m.length) : getM (m.drop k) v = if m[k].var = v then m[k].val else getM (m.drop (k + 1)) v := by
 rw [List.drop_eq_getElem_cons hk]; rfl
theorem t1207 (m : List Op) (v : Int) (hm : m.length ≤ 1000000000) : Holds Tryz.prog GL 102 [memM m, I v] [.a (I (getM m v))] := by
 refine fn_holds (vs := [.tmp 4]) (by kernel_rfl) Tryz.func102 rfl rfl (by kernel_rfl) (by kernel_rfl) rfl ?_
 (refine rO ?_; repeat' ((with_reducible first | refine rG ?_ | (refine rS ?_ ?_ <;> intro hp) | (refine rB ?_ ?_ <;> intro hb <;> try rw [hb]) | refine rD ?_ | refine rA ?_ | fail) <;> try simp only [go_sem, simprocAttr, List.length_map]))
 refine awp_loopA (fun k : Nat => [(1, .a (I v)), (8, .a (opsA' m)), (9, .a (I m.length)), (10, .a (I k))]) (fun _ => []) (fun k => k ≤ m.length ∧ getM m v = getM (m.drop k) v) (m.length - ·) 0 ?_ ?_ ⟨Nat.zero_le _, rfl⟩ ?_
 ·simp only [go_sem, simprocAttr, List.length_map]
 ·simp only [go_sem, simprocAttr]
 intro k j ⟨hk, hq⟩
 (refine rO ?_; repeat' ((with_reducible first | refine rG ?_ | (refine rS ?_ ?_ <;> intro hp) | (refine rB ?_ ?_ <;> intro hb <;> try rw [hb]) | refine rD ?_ | refine rA ?_ | fail) <;> try simp only [go_sem, simprocAttr]))
 ·have hkl : k < m.length := by omega
  have hx : m[k]? = some m[k] := List.getElem?_eq_getElem hkl
  have hw := wrap_succ (n := m.length) hkl (by simp only [maxLen]; omega)
  rw [getM_drop hkl] at hq
  generalize m[k] = o at hx hq
  (refine rO ?_; repeat' ((with_reducible first | refine rG ?_ | (refine rS ?_ ?_ <;> intro hp) | (refine rB ?_ ?_ <;> intro hb <;> try rw [hb]) | refine rD ?_ | refine rA ?_ | fail) <;> try simp only [go_sem, simprocAttr, hx, Op.enc_eq, hw]))
  ·rw [hq, if_pos ‹_›]
  ·rw [if_neg ‹_›] at hq
   (refine ⟨k + 1, ?_, ?_, ⟨hkl, hq⟩, by dsimp only; omega⟩ <;> simp only [go_sem, simprocAttr, hw])
 ·rw [hq, List.drop_eq_nil_of_le (by omega)]; rfl
theorem q1207 {m : List Op} {v : Int} {hm : m.length ≤ 1000000000} {σ : S} {KR : R → Prop} (hK : KR (retR [(I (getM m v))])) : callVQ Tryz.prog GL 102 [.a (memM m), .a (I v)] σ KR :=
 callQ_dat (res := [(I (getM m v))]) (t1207 m v hm) hK
theorem t1208 (m ops : List Op) (hm : m.length ≤ 100000000) (ho : ops.length ≤ 1000000) : Holds Tryz.prog GL 103 [memM m, opsA' ops] [.a (memM (withM m ops))] := by
 refine fn_holds (vs := [.cell 4 118]) (by kernel_rfl) Tryz.func103 rfl rfl (by kernel_rfl) (by kernel_rfl) rfl ?_
 (refine rO ?_; repeat' ((with_reducible first | refine rG ?_ | (refine rS ?_ ?_ <;> intro hp) | (refine rB ?_ ?_ <;> intro hb <;> try rw [hb]) | refine rD ?_ | refine rA ?_ | fail) <;> try simp only [go_sem, simprocAttr, List.length_map]))
 refine awp_loopA (fun k : Nat => [(2, .ref 2 0), (4, .ref 4 0), (7, .a (opsA' ops)), (8, .a (I ops.length)), (9, .a (I k))]) (fun k => [(2, .box [.a (opsA' (withM m (ops.take k)))]), (4, .box [.a (.d (.sl []))])]) (fun k => k ≤ ops.length) (ops.length - ·) 0 ?_ ?_ (Nat.zero_le _) ?_
 ·simp only [go_sem, simprocAttr, List.length_map]
 ·simp only [go_sem, simprocAttr, List.take_zero]; try rfl
 intro k j hk
 (refine rO ?_; repeat' ((with_reducible first | refine rG ?_ | (refine rS ?_ ?_ <;> intro hp) | (refine rB ?_ ?_ <;> intro hb <;> try rw [hb]) | refine rD ?_ | refine rA ?_ | fail) <;> try simp only [go_sem, simprocAttr, List.length_map]))
 ·have hkl : k < ops.length := by omega
  have hx : ops[k]? = some ops[k] := List.getElem?_eq_getElem hkl
  have hw := wrap_succ (n := ops.length) hkl (by simp only [maxLen]; omega)
  have hs := withM_s (m := m) hkl
  have hl := withM_len (ops.take k) m
  rw [List.length_take] at hl
  generalize ops[k] = o at hx hs
  generalize withM m (ops.take k) = M at hs hl
  cases how : o.w with
  | true =>
   rw [how, if_pos rfl] at hs
   (refine rO ?_; repeat' ((with_reducible first | refine rG ?_ | (refine rS ?_ ?_ <;> intro hp) | (refine rB ?_ ?_ <;> intro hb <;> try rw [hb]) | refine rD ?_ | refine rA ?_ | fail) <;> try simp only [go_sem, simprocAttr, hx, Op.enc_eq, how, hw]))
   have h33 := t1233 M o (by omega)
   rw [show o.a = .ag [dB true, dI o.var, dI o.val] by rw [Op.a, how]] at h33
   refine call_dat h33 ?_
   (refine rO ?_; repeat' ((with_reducible first | refine rG ?_ | (refine rS ?_ ?_ <;> intro hp) | (refine rB ?_ ?_ <;> intro hb <;> try rw [hb]) | refine rD ?_ | refine rA ?_ | fail) <;> try simp only [go_sem, simprocAttr, hw]))
   refine ⟨k + 1, ?_, ?_, hkl, by dsimp only; omega⟩
   ·simp only [go_sem, simprocAttr, hw]
   ·simp only [go_sem, simprocAttr, hs]; rfl
  | false =>
   rw [how] at hs
   simp only [Bool.false_eq_true, if_false] at hs
   (refine rO ?_; repeat' ((with_reducible first | refine rG ?_ | (refine rS ?_ ?_ <;> intro hp) | (refine rB ?_ ?_ <;> intro hb <;> try rw [hb]) | refine rD ?_ | refine rA ?_ | fail) <;> try simp only [go_sem, simprocAttr, hx, Op.enc_eq, how, hw]))
   (refine ⟨k + 1, ?_, ?_, hkl, by dsimp only; omega⟩ <;> simp only [go_sem, simprocAttr, hw, hs])
 ·rw [List.take_of_length_le (by omega)]
theorem q1208 {m : List Op} {ops : List Op} {hm : m.length ≤ 100000000} {ho : ops.length ≤ 1000000} {σ : S} {KR : R → Prop} (hK : KR (retR [(memM (withM m ops))])) : callVQ Tryz.prog GL 103 [.a (memM m), .a (opsA' ops)] σ KR :=
 callQ_dat (res := [(memM (withM m ops))]) (t1208 m ops hm ho) hK
theorem t1163 (ops m : List Op) (ms : List Int) (hR : MemRel m ms) (ho : OpsIn ops) (hm : m.length ≤ 10000000) : Holds Tryz.prog GL 71 [opsA' ops, memM m] [.a (I (ownF ops ms))] := by
 refine fn_holds (vs := [.tmp 4]) (by kernel_rfl) Tryz.func71 rfl rfl (by kernel_rfl) (by kernel_rfl) rfl ?_
 have hlo := ho.1
 (refine rO ?_; repeat' ((with_reducible first | refine rG ?_ | (refine rS ?_ ?_ <;> intro hp) | (refine rB ?_ ?_ <;> intro hb <;> try rw [hb]) | refine rD ?_ | refine rA ?_ | fail) <;> try simp only [go_sem, simprocAttr, List.length_map]))
 refine awp_loopA (fun k : Nat => [(0, .a (opsA' ops)), (3, .ref 3 0), (7, .a (opsA' ops)), (8, .a (I ops.length)), (9, .a (I k))]) (fun k => [(3, .box [.a (opsA' m)])]) (fun k => k ≤ ops.length ∧ ∀ i, i < k → badOp ms ops i = false) (ops.length - ·) 0 ?_ ?_ ⟨Nat.zero_le _, fun i hi => by omega⟩ ?_
 ·simp only [go_sem, simprocAttr, List.length_map]
 ·simp only [go_sem, simprocAttr]; try rfl
 intro k j ⟨hk, hl⟩
 (refine rO ?_; repeat' ((with_reducible first | refine rG ?_ | (refine rS ?_ ?_ <;> intro hp) | (refine rB ?_ ?_ <;> intro hb <;> try rw [hb]) | refine rD ?_ | refine rA ?_ | fail) <;> try simp only [go_sem, simprocAttr, List.length_map]))
 ·have hkl : k < ops.length := by omega
  have hx : ops[k]? = some ops[k] := List.getElem?_eq_getElem hkl
  have hw := wrap_succ (n := ops.length) hkl (by simp only [maxLen]; omega)
  have hv := ho.2 _ (List.getElem_mem hkl)
  have hb : badOp ms ops k = (!ops[k].w && !decide ((withF ms (ops.take k)).getD ops[k].var.toNat 0 = ops[k].val)) := by simp only [badOp, hx]
  have hRk := hR.with_ (ops := ops.take k) fun o ho' => ho.2 o (List.mem_of_mem_take ho')
  have hg := hRk.2 ops[k].var.toNat (by omega)
  rw [show ((ops[k].var.toNat : Nat) : Int) = ops[k].var by omega] at hg
  rw [hg] at hb
  have hwl := withM_len (ops.take k) m
  rw [List.length_take] at hwl
  have htl : (ops.take k).length ≤ 1000000 := by rw [List.length_take]; omega
  have htk : List.take k (ops.map Op.enc) = (ops.take k).map Op.enc := by rw [List.map_take]
  have hkI : (k : Int) ≤ (ops.length : Int) := by omega
  generalize ops[k] = o at hx hv hb
  have h08 := fun {σ : S} {KR : R → Prop} => @q1208 m (ops.take k) (by omega) htl σ KR
  generalize withM m (ops.take k) = M at hb hwl h08
  cases how : o.w with
  | true =>
   rw [how, Bool.not_true, Bool.false_and] at hb
   (refine rO ?_; repeat' ((with_reducible first | refine rG ?_ | (refine rS ?_ ?_ <;> intro hp) | (refine rB ?_ ?_ <;> intro hb <;> try rw [hb]) | refine rD ?_ | refine rA ?_ | fail) <;> try simp only [go_sem, simprocAttr, hx, Op.enc_eq, how, hw]))
   (refine ⟨k + 1, ?_, ?_, ⟨hkl, nx_none hl hb⟩, by dsimp only; omega⟩ <;> simp only [go_sem, simprocAttr, hw])
  | false =>
   (refine rO ?_; repeat' ((with_reducible first | refine rG ?_ | (refine rS ?_ ?_ <;> intro hp) | (refine rB ?_ ?_ <;> intro hb <;> try rw [hb]) | refine rD ?_ | refine rA ?_ | fail) <;> try simp only [go_sem, simprocAttr, hx, Op.enc_eq, how, hw, htk, hkI, List.length_map, Int.toNat_zero, List.drop_zero, ops_lenT]))
   refine h08 ?_
   (refine rO ?_; repeat' ((with_reducible first | refine rG ?_ | (refine rS ?_ ?_ <;> intro hp) | (refine rB ?_ ?_ <;> intro hb <;> try rw [hb]) | refine rD ?_ | refine rA ?_ | fail) <;> try simp only [go_sem, simprocAttr, hx, Op.enc_eq, how, hw]))
   refine q1207 (hm := by omega) ?_
   generalize getM M o.var = y at hb
   (refine rO ?_; repeat' ((with_reducible first | refine rG ?_ | (refine rS ?_ ?_ <;> intro hp) | (refine rB ?_ ?_ <;> intro hb <;> try rw [hb]) | refine rD ?_ | refine rA ?_ | fail) <;> try simp only [go_sem, simprocAttr, hx, Op.enc_eq, how, hw]))
   ·rw [how, decide_eq_true ‹y = o.val›] at hb
    (refine ⟨k + 1, ?_, ?_, ⟨hkl, nx_none hl hb⟩, by dsimp only; omega⟩ <;> simp only [go_sem, simprocAttr, hw])
   ·rw [how, decide_eq_false ‹¬ y = o.val›] at hb
    rw [ownF, firstB_hit hkl hl hb]
 ·rw [ownF, firstB_none (p := badOp ms ops) (n := ops.length) (fun i hi => hl i (by omega))]
theorem q1163 {ops : List Op} {m : List Op} {ms : List Int} {hR : MemRel m ms} {ho : OpsIn ops} {hm : m.length ≤ 10000000} {σ : S} {KR : R → Prop} (hK : KR (retR [(I (ownF ops ms))])) : callVQ Tryz.prog GL 71 [.a (opsA' ops), .a (memM m)] σ KR :=
 callQ_dat (res := [(I (ownF ops ms))]) (t1163 ops m ms hR ho hm) hK
def behTo (l : List Txn) (C : Nat) (r : List Int) : Nat → List Op
 | 0 => []
 | k + 1 => match r[k]? with
  | some i => if C.testBit i.toNat = true then withM (behTo l C r k) (opsAt l i) else behTo l C r k
  | none => behTo l C r k
theorem opsAt_len {l : List Txn} (hl : ∀ t ∈ l, OpsIn t.ops) (i : Int) : OpsIn (opsAt l i) := by
 unfold opsAt
 split
 ·rename_i t ht; exact hl t (List.mem_of_getElem? ht)
 ·exact ⟨by simp, fun o ho => by cases ho⟩
theorem behTo_len {l : List Txn} (hl : ∀ t ∈ l, OpsIn t.ops) (C : Nat) (r : List Int) : ∀ k, (behTo l C r k).length ≤ k * 1000000
 | 0 => by simp [behTo]
 | k + 1 => by
  have ih := behTo_len hl C r k
  have hk : (k + 1) * 1000000 = k * 1000000 + 1000000 := Nat.succ_mul _ _
  rw [hk]
  generalize k * 1000000 = N at ih
  simp only [behTo]
  cases r[k]? with
  | none => exact Nat.le_trans ih (Nat.le_add_right _ _)
  | some i =>
   have h1 := withM_len (opsAt l i) (behTo l C r k)
   have h2 : (opsAt l i).length ≤ 1000000 := (opsAt_len hl i).1
   simp only []
   by_cases hc : C.testBit i.toNat = true
   ·rw [if_pos hc]; exact Nat.le_trans h1 (Nat.add_le_add ih h2)
   ·rw [if_neg hc]; exact Nat.le_trans ih (Nat.le_add_right _ _)
theorem behTo_take {l : List Txn} {C : Nat} {r : List Int} {n : Nat} : ∀ k, k ≤ n → behTo l C (r.take n) k = behTo l C r k
 | 0, _ => rfl
 | k + 1, hk => by
  simp only [behTo, behTo_take (l := l) (C := C) (r := r) (n := n) k (by omega), List.getElem?_take]
  rw [if_pos (by omega)]
theorem beh_rel {l : List Txn} (hl : ∀ t ∈ l, OpsIn t.ops) (C : Nat) (r : List Int) : ∀ k, MemRel (behTo l C r k) (memTo l C r k)
 | 0 => ⟨rfl, fun v hv => by
  have : v = 0 ∨ v = 1 ∨ v = 2 ∨ v = 3 ∨ v = 4 ∨ v = 5 ∨ v = 6 ∨ v = 7 := by omega
  rcases this with rfl | rfl | rfl | rfl | rfl | rfl | rfl | rfl <;> rfl⟩
 | k + 1 => by
  have ih := beh_rel hl C r k
  simp only [behTo, memTo]
  cases r[k]? with
  | none => exact ih
  | some i =>
   simp only []
   by_cases hc : C.testBit i.toNat = true
   ·rw [if_pos hc, if_pos hc]; exact ih.with_ (opsAt_len hl _).2
   ·rw [if_neg hc, if_neg hc]; exact ih
theorem t1164 (l : List Txn) (r : List Int) (C : Nat) (hC : C < 2 ^ 32) (hl : ∀ t ∈ l, OpsIn t.ops) (hin : r.all (inT l.length) = true) (hr : r.length ≤ 9) (hl1 : l.length ≤ 1000) : Holds Tryz.prog GL 72 [txnsA l, intsA r, U C] [.a (memM (behTo l C r r.length))] := by
 refine fn_holds (vs := [.cell 6 118]) (by kernel_rfl) Tryz.func72 rfl rfl (by kernel_rfl) (by kernel_rfl) rfl ?_
 (refine rO ?_; repeat' ((with_reducible first | refine rG ?_ | (refine rS ?_ ?_ <;> intro hp) | (refine rB ?_ ?_ <;> intro hb <;> try rw [hb]) | refine rD ?_ | refine rA ?_ | fail) <;> try simp only [go_sem, simprocAttr, List.length_map]))
 refine SemOp.old ?_
 (refine rO ?_; repeat' ((with_reducible first | refine rG ?_ | (refine rS ?_ ?_ <;> intro hp) | (refine rB ?_ ?_ <;> intro hb <;> try rw [hb]) | refine rD ?_ | refine rA ?_ | fail) <;> try simp only [go_sem, simprocAttr, y_build0]))
 refine awp_loopA (fun k : Nat => [(0, .a (txnsA l)), (2, .a (U C)), (6, .ref 6 0), (7, .ref 7 0), (11, .a (intsA r)), (12, .a (I r.length)), (13, .a (I k))]) (fun k => [(6, .box [.a (.d (.sl []))]), (7, .box [.a (opsA' (behTo l C r k))])]) (fun k => k ≤ r.length) (r.length - ·) 0 ?_ ?_ (Nat.zero_le _) ?_
 ·simp only [go_sem, simprocAttr, List.length_map]
 ·simp only [go_sem, simprocAttr]; try rfl
 intro k j hk
 (refine rO ?_; repeat' ((with_reducible first | refine rG ?_ | (refine rS ?_ ?_ <;> intro hp) | (refine rB ?_ ?_ <;> intro hb <;> try rw [hb]) | refine rD ?_ | refine rA ?_ | fail) <;> try simp only [go_sem, simprocAttr, List.length_map]))
 ·have hkl : k < r.length := by omega
  have hw := wrap_succ (n := r.length) hkl (by simp only [maxLen]; omega)
  obtain ⟨x, hx, hxl⟩ := inT_iff.1 (List.all_eq_true.1 hin r[k] (List.getElem_mem hkl))
  have hy : r[k]? = some (x : Int) := by rw [List.getElem?_eq_getElem hkl, hx]
  have ht : l[x]? = some l[x] := List.getElem?_eq_getElem hxl
  have hoa : opsAt l (x : Int) = l[x].ops := by simp only [opsAt, Int.toNat_natCast, ht]
  have hs : behTo l C r (k + 1) = if C.testBit x = true then withM (behTo l C r k) l[x].ops else behTo l C r k := by simp only [behTo, hy, hoa, Int.toNat_natCast]
  have hbl := behTo_len hl C r k
  have hol := (hl _ (List.getElem_mem hxl)).1
  generalize l[x] = t at ht hs hol
  generalize behTo l C r k = M at hs hbl
  (refine rO ?_; repeat' ((with_reducible first | refine rG ?_ | (refine rS ?_ ?_ <;> intro hp) | (refine rB ?_ ?_ <;> intro hb <;> try rw [hb]) | refine rD ?_ | refine rA ?_ | fail) <;> try simp only [go_sem, simprocAttr, hy, ienc_eq, hw]))
  refine call_dat (t100 C x hC (by omega)) ?_
  generalize C.testBit x = cb at hs
  cases cb with
  | true =>
   simp only [if_true] at hs
   (refine rO ?_; repeat' ((with_reducible first | refine rG ?_ | (refine rS ?_ ?_ <;> intro hp) | (refine rB ?_ ?_ <;> intro hb <;> try rw [hb]) | refine rD ?_ | refine rA ?_ | fail) <;> try simp only [go_sem, simprocAttr, hy, ht, Txn.enc_eq, hw]))
   refine q1208 (hm := by omega) (ho := hol) ?_
   (refine rO ?_; repeat' ((with_reducible first | refine rG ?_ | (refine rS ?_ ?_ <;> intro hp) | (refine rB ?_ ?_ <;> intro hb <;> try rw [hb]) | refine rD ?_ | refine rA ?_ | fail) <;> try simp only [go_sem, simprocAttr, hw]))
   (refine ⟨k + 1, ?_, ?_, hkl, by dsimp only; omega⟩ <;> simp only [go_sem, simprocAttr, hw, hs])
  | false =>
   simp only [Bool.false_eq_true, if_false] at hs
   (refine rO ?_; repeat' ((with_reducible first | refine rG ?_ | (refine rS ?_ ?_ <;> intro hp) | (refine rB ?_ ?_ <;> intro hb <;> try rw [hb]) | refine rD ?_ | refine rA ?_ | fail) <;> try simp only [go_sem, simprocAttr, hw]))
   (refine ⟨k + 1, ?_, ?_, hkl, by dsimp only; omega⟩ <;> simp only [go_sem, simprocAttr, hw, hs])
 ·obtain rfl : k = r.length := by omega
  rfl
theorem q1164 {l : List Txn} {r : List Int} {C : Nat} {hC : C < 2 ^ 32} {hl : ∀ t ∈ l, OpsIn t.ops} {hin : r.all (inT l.length) = true} {hr : r.length ≤ 9} {hl1 : l.length ≤ 1000} {σ : S} {KR : R → Prop} (hK : KR (retR [(memM (behTo l C r r.length))])) : callVQ Tryz.prog GL 72 [.a (txnsA l), .a (intsA r), .a (U C)] σ KR :=
 callQ_dat (res := [(memM (behTo l C r r.length))]) (t1164 l r C hC hl hin hr hl1) hK
theorem t1102 (l : List Txn) (r : List Int) (C : Nat) (hC : C < 2 ^ 32) (hl : ∀ t ∈ l, OpsIn t.ops) (hin : r.all (inT l.length) = true) (hr : r.length ≤ 9) (hl1 : l.length ≤ 1000) : Holds Tryz.prog GL 41 [txnsA l, intsA r, U C] [.a (I (legalN l C r))] := by
 refine fn_holds (vs := [.tmp 6]) (by kernel_rfl) Tryz.func41 rfl rfl (by kernel_rfl) (by kernel_rfl) rfl ?_
 (refine rO ?_; repeat' ((with_reducible first | refine rG ?_ | (refine rS ?_ ?_ <;> intro hp) | (refine rB ?_ ?_ <;> intro hb <;> try rw [hb]) | refine rD ?_ | refine rA ?_ | fail) <;> try simp only [go_sem, simprocAttr, List.length_map]))
 refine awp_loopA (fun k : Nat => [(0, .a (txnsA l)), (1, .a (intsA r)), (2, .a (U C)), (9, .a (intsA r)), (10, .a (I r.length)), (11, .a (I k))]) (fun _ => []) (fun k => k ≤ r.length ∧ ∀ i, i < k → legBad l C r i = false) (r.length - ·) 0 ?_ ?_ ⟨Nat.zero_le _, fun i hi => by omega⟩ ?_
 ·simp only [go_sem, simprocAttr, List.length_map]
 ·simp only [go_sem, simprocAttr]
 intro k j ⟨hk, hq⟩
 (refine rO ?_; repeat' ((with_reducible first | refine rG ?_ | (refine rS ?_ ?_ <;> intro hp) | (refine rB ?_ ?_ <;> intro hb <;> try rw [hb]) | refine rD ?_ | refine rA ?_ | fail) <;> try simp only [go_sem, simprocAttr, List.length_map]))
 ·have hkl : k < r.length := by omega
  have hw := wrap_succ (n := r.length) hkl (by simp only [maxLen]; omega)
  obtain ⟨x, hx, hxl⟩ := inT_iff.1 (List.all_eq_true.1 hin r[k] (List.getElem_mem hkl))
  have hy : r[k]? = some (x : Int) := by rw [List.getElem?_eq_getElem hkl, hx]
  have ht : l[x]? = some l[x] := List.getElem?_eq_getElem hxl
  have ho := hl _ (List.getElem_mem hxl)
  have hoa : opsAt l (x : Int) = l[x].ops := by simp only [opsAt, Int.toNat_natCast, ht]
  have hb : legBad l C r k = decide (ownF l[x].ops (memTo l C r k) < l[x].ops.length) := by simp only [legBad, hy, hoa]
  have hrel := beh_rel hl C r k
  have hbl := behTo_len hl C r k
  have htl : (r.take k).length = k := by rw [List.length_take]; omega
  have htin : (r.take k).all (inT l.length) = true := by
   rw [List.all_eq_true] at hin ⊢
   exact fun y hy => hin y (List.mem_of_mem_take hy)
  have hbt : behTo l C (r.take k) (r.take k).length = behTo l C r k := by rw [htl]; exact behTo_take k (Nat.le_refl _)
  have h64 := fun {σ : S} {KR : R → Prop} => @q1164 l (r.take k) C hC hl htin (by omega) hl1 σ KR
  rw [hbt] at h64
  have htk : List.take k (r.map ienc) = (r.take k).map ienc := by rw [List.map_take]
  have hkI : (k : Int) ≤ (r.length : Int) := by omega
  generalize l[x] = t at ht hb ho
  generalize behTo l C r k = M at hrel hbl h64
  generalize memTo l C r k = ms at hb hrel
  (refine rO ?_; repeat' ((with_reducible first | refine rG ?_ | (refine rS ?_ ?_ <;> intro hp) | (refine rB ?_ ?_ <;> intro hb <;> try rw [hb]) | refine rD ?_ | refine rA ?_ | fail) <;> try simp only [go_sem, simprocAttr, hy, ienc_eq, hw, ht, Txn.enc_eq, htk, hkI, List.length_map, Int.toNat_zero, List.drop_zero]))
  refine h64 ?_
  (refine rO ?_; repeat' ((with_reducible first | refine rG ?_ | (refine rS ?_ ?_ <;> intro hp) | (refine rB ?_ ?_ <;> intro hb <;> try rw [hb]) | refine rD ?_ | refine rA ?_ | fail) <;> try simp only [go_sem, simprocAttr, hy, ht, Txn.enc_eq]))
  refine q1163 (hR := hrel) (ho := ho) (hm := by omega) ?_
  (refine rO ?_; repeat' ((with_reducible first | refine rG ?_ | (refine rS ?_ ?_ <;> intro hp) | (refine rB ?_ ?_ <;> intro hb <;> try rw [hb]) | refine rD ?_ | refine rA ?_ | fail) <;> try simp only [go_sem, simprocAttr, hy, ht, Txn.enc_eq, List.length_map, hw]))
  ·rw [decide_eq_true (by omega)] at hb
   rw [legalN, firstB_hit hkl hq hb]
  ·rw [decide_eq_false (by omega)] at hb
   (refine ⟨k + 1, ?_, ?_, ⟨hkl, nx_none hq hb⟩, by dsimp only; omega⟩ <;> simp only [go_sem, simprocAttr, hw])
 ·rw [legalN, firstB_none (p := legBad l C r) (n := r.length) (fun i hi => hq i (by omega))]
end Go.VC
end
section
set_option maxRecDepth 100000
namespace Go.VC
open Go.RowKit Go.Proofs
def SemD (P : Program) (gl : Nat → Option (List D)) (code : Code) (Q : Ex → S → Prop) (σ : S) : Prop :=
 ∀ (c : Cx) (β : Nat → Value) (a : Act) (w : World) (n : Nat), c.P = P → c.gl = gl → c.P.follows .mixedOrders = true → dstOK c.N code = true → Sim c σ β a w → code.wpIn (WF none) n c.P (fun e a' w' => a'.defers = a.defers ∧ Qh c Q e a' w') a w
section
variable {P : Program} {gl : Nat → Option (List D)} {σ : S} {Q : Ex → S → Prop}
theorem sd_skip (h : Q .normal σ) : SemD P gl .skip Q σ := fun c β a w n hP hgl hm hd hs => wpIn_skip ⟨rfl, σ, β, hs, h⟩
theorem sd_seq {x y : Code} (h : SemD P gl x (Ex.then (SemD P gl y Q) Q) σ) : SemD P gl (.seq x y) Q σ := fun c β a w n hP hgl hm hd hs => by
 simp only [dstOK, Bool.and_eq_true] at hd
 refine wpIn_seq (wpIn_mono (h c β a w n hP hgl hm hd.1 hs) fun e a' w' he => ?_)
 obtain ⟨hD, he⟩ := he
 cases e with
 | normal =>
  obtain ⟨σ', β', hs', hk⟩ := he
  exact wpIn_mono (hk c β' a' w' n hP hgl hm hd.2 hs') fun e a2 w2 h2 => ⟨h2.1.trans hD, h2.2⟩
 | exit id => exact ⟨hD, he⟩
 | ret => exact ⟨hD, he⟩
 | goto l => exact ⟨hD, he⟩
 | panic ch => exact ⟨hD, he⟩
 | outgrown => exact he.elim
theorem sd_cond {x : Operand} {y z : Code} {b : Bool} (hb : σ.eval gl x = .a (.d (.v (.bool b)))) (hy : b = true → SemD P gl y Q σ) (hz : b = false → SemD P gl z Q σ) : SemD P gl (.cond x y z) Q σ := fun c β a w n hP hgl hm hd hs => by
 simp only [dstOK, Bool.and_eq_true] at hd
 have hv := hs.eval x
 rw [hgl, hb] at hv
 exact wpIn_cond_split hv.inv_v (fun e => hy e c β a w n hP hgl hm hd.1 hs) (fun e => hz e c β a w n hP hgl hm hd.2 hs)
theorem sd_block {id : Nat} {x : Code} (h : SemD P gl x (Ex.inBlock id Q) σ) : SemD P gl (.block id x) Q σ := fun c β a w n hP hgl hm hd hs => by
 refine wpIn_block (wpIn_mono (h c β a w n hP hgl hm hd hs) fun e a' w' he => ?_)
 obtain ⟨hD, he⟩ := he
 cases e with
 | normal => exact ⟨hD, he⟩
 | exit id' =>
  obtain ⟨σ', β', hs', hk⟩ := he
  simp only [Ex.inBlock] at hk
  simp only [Exit.inBlock]
  split at hk
  ·rw [if_pos ‹_›]; exact ⟨hD, σ', β', hs', hk⟩
  ·rw [if_neg ‹_›]; exact ⟨hD, σ', β', hs', hk⟩
 | ret => exact ⟨hD, he⟩
 | goto l => exact ⟨hD, he⟩
 | panic ch => exact ⟨hD, he⟩
 | outgrown => exact he.elim
theorem dst_ok {N : Nat} {id : Nat} {ops : Array Oper} {draw : Bool} (hd : dstOK N (.region id ops draw) = true) : ∀ o ∈ ops.toList, ∀ d, o.dst = some d → d < N := fun o ho d hod => by
 have := List.all_eq_true.1 hd o ho
 rw [hod] at this
 simpa using this
theorem sd_region {id : Nat} {l : List Oper} (h : opsA P gl l.toArray l σ (Q .normal)) : SemD P gl (.region id l.toArray false) Q σ := fun c β a w n hP hgl hm hd hs => by
 subst hP; subst hgl
 exact wpIn_region_list (opsA_sound (K := Q .normal) (D := a.defers) (Q := fun e a' w' => a'.defers = a.defers ∧ Qh c Q e a' w') (fun σ β a w hs hD hk => ⟨hD, σ, β, hs, hk⟩) l (by simpa using dst_ok hd) hs rfl h)
theorem sd_draw {id : Nat} {l : List Oper} (h : opsQ P gl l.toArray l σ (Q .normal)) (hok : DrawOk l.toArray := by unfold DrawOk; decide +kernel) : SemD P gl (.region id l.toArray true) Q σ := fun c β a w n hP hgl hm hd hs => by
 subst hP; subst hgl
 simp only [DrawOk, Bool.and_eq_true] at hok
 have := any_lex (K := Q .normal) l 0 true (Array.replicate l.toArray.size false) σ (by simp) hok.2 h
 exact wpIn_region_any hm (anyA_sound (K := Q .normal) (D := a.defers) (Q := fun e a' w' => a'.defers = a.defers ∧ Qh c Q e a' w') (fun σ β a w hs hD hk => ⟨hD, σ, β, hs, hk⟩) (dst_ok hd) l.toArray.size _ (hs.drawn _) rfl (by simpa using this))
theorem sd_lag {id : Nat} {ops : Array Oper} (hB : lagB ops = true) (h : opsL P gl ops ops.toList 0 σ (Q .normal)) : SemD P gl (.region id ops true) Q σ := by
 intro c β a w n hP hgl hm hdN hs
 subst hP; subst hgl
 refine wpIn_region_any hm (lag_sound (K := Q .normal) (D := a.defers) (Q := fun e a' w' => a'.defers = a.defers ∧ Qh c Q e a' w') hB (fun σ β a w hs hD hk => ⟨hD, σ, β, hs, hk⟩) (dst_ok hdN) ops.size ops.toList 0 _ (by simp) (by simp) ?_ ?_ ((hs.drawn _).part rfl rfl rfl fun t => .inr ⟨?_, rfl⟩) rfl h)
 ·have : ∀ m, cnt (List.replicate m false) = m := fun m => by simp [cnt]
  simp [this]
 ·refine ⟨by simp, fun j _ hj => by simp [hj], fun i o d hi => absurd hi (Nat.not_lt_zero _), fun i o hi => absurd hi (Nat.not_lt_zero _), fun k' j hk' hd => ?_⟩
  have hk : k' < ops.size := by
   rcases Nat.lt_or_ge k' ops.size with h | h
   ·exact h
   ·simp [Array.getElem?_eq_none, h] at hk'
  obtain ⟨oj, hoj, _⟩ := (lag_at hB (Array.getElem?_eq_getElem hk)).dep j hd
  simp [size_of_at hoj]
 ·rw [lagP_else]
  rintro ⟨i, o, hU, _, _⟩
  exact absurd hU.1 (Nat.not_lt_zero _)
theorem sd_drawF {id : Nat} {l : List Oper} (F : List (List Nat)) (hB : (lagB l.toArray && lagFs l.toArray l F 0) = true) (h : opsF P gl l l F σ (Q .normal)) : SemD P gl (.region id l.toArray true) Q σ := by
 rw [Bool.and_eq_true] at hB
 exact sd_lag hB.1 (opsF_L l F 0 hB.2 h)
end
def ifaceOb (T : TypeId) (x : A) : SemOb where
 os := []
 p := fun _ st w bv => ∃ v, bv = .iface T v ∧ RelA st w v x
 lt := fun h b hb => by obtain ⟨v, rfl, _⟩ := h; cases hb
 mono := fun H h _ => by obtain ⟨v, e, hr⟩ := h; exact ⟨v, e, hr.mono H⟩
 dep := fun _ h => h
section
variable {P : Program} {gl : Nat → Option (List D)} {σ : S} {K : S → Prop} {dst : Option Tmp} {ty : TypeId} {pos : String} {after : Array Edge} {g : Option (Nat × Bool)}
theorem run_eq_iface {w : World} {d : Nat} {t : TypeId} {ms : Array (String × TypeId)} {T : TypeId} {v : Value} (ht : P.underlying t = some (.interface ms)) : (Op.equalIn (d + 1) t (.iface T v) .nilIface).run P w = .ok false w := by
 simp only [Op.equalIn, Sem.run_bind, run_under ht, Result.andThen_ok]
 rfl
theorem run_eq_nil {w : World} {d : Nat} {t : TypeId} {ms : Array (String × TypeId)} (ht : P.underlying t = some (.interface ms)) : (Op.equalIn (d + 1) t .nilIface .nilIface).run P w = .ok true w := by
 simp only [Op.equalIn, Sem.run_bind, run_under ht, Result.andThen_ok]
 rfl
theorem sem_if_nil {ms : Array (String × TypeId)} {t t' q : Nat} (ht : P.underlying t = some (.interface ms)) {x : Operand} {T : TypeId} {y : A} (hx : σ.eval gl x = .own q) (hm : σ.mem q = some (.sem (ifaceOb T y))) (hk : K (σ.put dst (.a (.d (.v (.bool false)))))) : SemOp P gl ⟨dst, .binOp .eql t x (.const .nilIface) t', ty, pos, after, g⟩ σ K := by
 intro c β a w hP hgl hs hd
 subst hP; subst hgl
 have hv := (hx ▸ hs.eval x).inv_own
 obtain ⟨v, hb, hr⟩ := hs.obj _ _ hm
 rw [hb] at hv
 refine Run.val (v := .bool false) (w' := w) (fun _ e => by cases e) ?_ ⟨_, β, hk, hs.put hd (.a (.v rfl))⟩
 have hr := run_eq_iface (P := c.P) (w := w) (d := 9999) (T := T) (v := v) ht
 have hn : a.eval (.const .nilIface) = .nilIface := rfl
 simp [execOp, hv, hn, eqGuard, binOp, Op.equal, Op.maxDepth, hr]
theorem sem_nil_nil {ms : Array (String × TypeId)} {t t' : Nat} (ht : P.underlying t = some (.interface ms)) {x : Operand} (hx : σ.eval gl x = .a (.d (.v .nilIface))) (hk : K (σ.put dst (.a (.d (.v (.bool true)))))) : SemOp P gl ⟨dst, .binOp .eql t x (.const .nilIface) t', ty, pos, after, g⟩ σ K := by
 intro c β a w hP hgl hs hd
 subst hP; subst hgl
 have hv := (hx ▸ hs.eval x).inv_v
 refine Run.val (v := .bool true) (w' := w) (fun _ e => by cases e) ?_ ⟨_, β, hk, hs.put hd (.a (.v rfl))⟩
 have hr := run_eq_nil (P := c.P) (w := w) (d := 9999) ht
 have hn : a.eval (.const .nilIface) = .nilIface := rfl
 simp [execOp, hv, hn, eqGuard, binOp, Op.equal, Op.maxDepth, hr]
theorem sem_assert {q tI T : Nat} {x : Operand} {y : A} {offs : List (Nat × Nat × Bool)} (hT : tk P T = .struct offs) (hx : σ.eval gl x = .own q) (hm : σ.mem q = some (.sem (ifaceOb T y))) (hk : K (σ.put dst (.tp [.a y, .a (.d (.v (.bool true)))]))) : SemOp P gl ⟨dst, .typeAssert x tI T true, ty, pos, after, g⟩ σ K := by
 intro c β a w hP hgl hs hd
 subst hP; subst hgl
 have hv := (hx ▸ hs.eval x).inv_own
 obtain ⟨v, hb, hr⟩ := hs.obj _ _ hm
 rw [hb] at hv
 obtain ⟨fs, hu, _⟩ := tk_struct hT
 have hrun : (Instr.typeAssert (.iface T v) tI T true).run c.P w = .ok (.tuple #[v, .bool true]) w := by
  simp only [Instr.typeAssert, Sem.run_bind, run_under hu, Result.andThen_ok, if_true]
  rfl
 refine Run.val (v := .tuple #[v, .bool true]) (w' := w) (fun _ e => by cases e) ?_ ⟨_, β, hk, hs.put hd (.tp (vs := [v, .bool true]) rfl fun j u r hu hr' => ?_)⟩
 ·simp [execOp, hv, hrun]
 ·match j with
  | 0 => simp at hu hr'; subst hu; subst hr'; exact .a hr
  | 1 => simp at hu hr'; subst hu; subst hr'; exact .a (.v rfl)
  | j + 2 => simp at hu
end
section
variable {c : Cx} {σ : S} {β : Nat → Value} {a : Act} {w : World}
def cxDf (c : Cx) (df : List Deferred) : Cx := { c with df := df }
theorem Sim.redf {df : List Deferred} {a' : Act} (h : Sim c σ β a w) (ht : a'.tmps = a.tmps) (hd : a'.defers = df) : Sim (cxDf c df) σ β a' w := by
 obtain ⟨Ds, _, m⟩ := h.df
 exact ⟨h.keep, by rw [ht]; exact h.size, ⟨[], (by rw [hd]; rfl), (List.nodup_append.1 m.nd).2.1, fun D hD => m.ok D (List.mem_append_right _ hD), m.lp⟩, h.ext, h.obj, h.blk, h.dis, fun t => by rw [ht]; exact h.reg t, h.env⟩
theorem enter_st {N : Nat} {rs : List R} {Ds : List Nat} {vs : List Value} : ∀ b, stF c σ β w b → stF (cxIn c N Ds) (S.enter vs rs σ) (βIn β) w b ∧ w.heap[b]? = w.heap[b]? := fun b hb => ⟨⟨hb.1, hb.2.1, fun o x hx => by
  rcases enter_at hx with ⟨rfl, _⟩ | ⟨o', y, rfl, hy, _⟩
  ·simp [βIn, undef_own]
  ·rw [βIn_add]; exact hb.2.2.1 o' y hy, hb.2.2.2⟩, rfl⟩
theorem marks_outD {n : Nat} {fn : Func} {R : Ending → World → Prop} {u : FrameMode} (hu : u ≠ .run) : ∀ (Ds : List Nat) {a : Act} {w : World}, Sim c σ β a w → a.defers = Ds.map markD ++ c.df → MarksOk c σ β w (Ds ++ c.M) →
  (∀ a' w', a'.tmps = a.tmps → a'.defers = c.df → Sim c σ β a' w' → (∀ b, stF c σ β w b → stF c σ β w' b ∧ w'.heap[b]? = w.heap[b]?) → LeavesInM Fence.wide n c.P fn a'.tmps R c.df u w') → LeavesInM Fence.wide n c.P fn a.tmps R (Ds.map markD ++ c.df) u w
 | [], a, w, hs, hd, hm, hR => hR a w rfl hd hs fun b hb => ⟨hb, rfl⟩
 | D :: Ds, a, w, hs, hd, hm, hR => by
  obtain ⟨h1, h2, h3⟩ := hm.ok D (by simp)
  have hlt := lt_of_some h2
  have hnd := hm.nd
  simp only [List.cons_append, List.nodup_cons] at hnd
  refine ⟨hu, .inl ⟨D, w.putObj D (.deferred none), rfl, run_takeDeferred h2, ?_⟩⟩
  have ho : ∀ k, k ≠ D → (w.putObj D (.deferred none)).heap[k]? = w.heap[k]? := fun k hk => World.putObj_heap_other hk
  have hk : Keep (fun b => b = D) w (w.putObj D (.deferred none)) := ⟨rfl, rfl, rfl, by simp [World.putObj], fun k _ hk => ho k hk⟩
  have H : ∀ b, stF c σ β w b → stF c σ β (w.putObj D (.deferred none)) b ∧ (w.putObj D (.deferred none)).heap[b]? = w.heap[b]? := fun b hb => by
   have hne : b ≠ D := fun e => hb.2.2.2.1 _ (e ▸ h2)
   exact ⟨⟨Nat.lt_of_lt_of_le hb.1 hk.size, hb.2.1, hb.2.2.1, hb.2.2.2.same (ho b hne)⟩, ho b hne⟩
  have hm' : MarksOk c σ β (w.putObj D (.deferred none)) (Ds ++ c.M) := ⟨hnd.2, fun D' hD' => by
   obtain ⟨g1, g2, g3⟩ := hm.ok D' (by simp only [List.cons_append, List.mem_cons]; exact .inr hD')
   exact ⟨g1, (ho D' fun e => hnd.1 (e ▸ hD')).trans g2, g3⟩, fun y hy => by
   obtain ⟨g1, g2, g3⟩ := hm.lp y hy
   exact ⟨g1, (ho y.1 fun e => by rw [e, h2] at g2; cases g2).trans g2, g3⟩⟩
  exact marks_outD hu Ds (a := { a with defers := Ds.map markD ++ c.df }) (w := w.putObj D (.deferred none))
   ⟨hs.keep.trans hk (fun j e hj => by omega), hs.size, ⟨Ds, rfl, hm'⟩, c.hE H hs.ext, fun o x hx => (hs.obj o x hx).mono H fun b hb => ho b fun e => h3 o x hx (e ▸ hb), hs.blk, hs.dis, fun t => (hs.reg t).mono H, hs.env.mono H⟩
   rfl hm' fun a' w' h1 h2 h3 h4 => hR a' w' h1 h2 h3 fun b hb => ⟨(h4 b (H b hb).1).1, (h4 b (H b hb).1).2.trans (H b hb).2⟩
end
noncomputable def postC (vs : List Value) (K : S → Prop) : Ex → S → Prop
 | .normal, σ | .ret, σ => fvOf (σ.mem 999999) = some vs ∧ K σ.leave
 | _, _ => False
def PanOk (c : Cx) (σ : S) (β : Nat → Value) (w : World) (u : FrameMode) (p : Option (TypeId × A)) : Prop := match p with
 | none => u = .returning
 | some (T, x) => ∃ v, u = .panicking [{ v := .iface T v, recovered := false }] ∧ RelA (stF c σ β w) w v x
noncomputable def S.recov (σ : S) (d : Tmp) : Option (TypeId × A) → S
 | none => σ.put (some d) (.a (.d (.v .nilIface)))
 | some (T, x) => (σ.newOb 999990 (.sem (ifaceOb T x))).put (some d) (.own 999990)
theorem closD {P : Program} {gl : Nat → Option (List D)} {f : FuncId} {fn : Func} {y : Code} {id : Nat} {d : Tmp} {ty : TypeId} {pos : String} {after : Array Edge} {rs : List R} {σ : S} {K : S → Prop} {p : Option (TypeId × A)} {at_ : Array TypeId} (hm : P.follows .mixedOrders = true)
  (hf : P.funcs[f]? = some fn) (hb : fn.body = some (.seq (.region id #[⟨some d, .call { callee := .builtin .recover, args := #[], argTypes := at_ }, ty, pos, after, none⟩] false) y)) (hres : fn.results = #[]) (hd : dstOK fn.ntmps y = true) (hdn : d < fn.ntmps) (hN : decide (rs.length ≤ fn.ntmps) = true)
  (h : ∀ vs, SemD P gl y (postC vs K) ((S.enter vs rs σ).recov d p))
  {c : Cx} {β : Nat → Value} {a : Act} {w : World} {vs : List Value} {u : FrameMode} {n : Nat} (hP : c.P = P) (hgl : c.gl = gl) (hs : Sim c σ β a w) (hv : F2 (RelR β (stF c σ β w) w) vs rs) (hp : PanOk c σ β w u p) :
  CallsDIn Fence.wide n P f vs.toArray u w fun e u' w' => ∃ v, e = .returned v ∧ settle u' = .returning ∧ ∃ σ' β', Sim c σ' β' a w' ∧ K σ' := by
 subst hP; subst hgl
 refine callsDIn_of_wpSIn hf hb trivial fun c₀ cs hu => wpSIn_seq (wpSIn_region ?_)
 obtain ⟨Ds, hds, hM⟩ := hs.df
 have hs1 := enter_sim hs hM hv (N := fn.ntmps) (by simpa using hN)
 have hst := enter_st (c := c) (σ := σ) (β := β) (w := w) (N := fn.ntmps) (rs := rs) (Ds := Ds) (vs := a.tmps.toList)
 -- what is done behind 'recover'
 have main : ∀ (v : Value) (m : FrameMode), settle m = .returning → (∃ β1, Sim (cxIn c fn.ntmps Ds) ((S.enter a.tmps.toList rs σ).recov d p) β1 (({ tmps := vs.toArray ++ Array.replicate (fn.ntmps - vs.toArray.size) undef, defers := [] } : Act).put (some d) v) w) →
   (Exit.thenS (y.wpSIn Fence.wide n c.P (bodyPostS c.P fn c₀ cs fun e u' w' => ∃ v, e = .returned v ∧ settle u' = .returning ∧ ∃ σ' β', Sim c σ' β' a w' ∧ K σ')) (bodyPostS c.P fn c₀ cs fun e u' w' => ∃ v, e = .returned v ∧ settle u' = .returning ∧ ∃ σ' β', Sim c σ' β' a w' ∧ K σ')) .normal (({ tmps := vs.toArray ++ Array.replicate (fn.ntmps - vs.toArray.size) undef, defers := [] } : Act).put (some d) v) ({ c₀ with mode := m } :: cs) w := by
  rintro v m hmode ⟨β1, hs2⟩
  refine wpSIn_of_wpIn rfl (wpIn_mono (h a.tmps.toList (cxIn c fn.ntmps Ds) β1 _ w n rfl rfl hm hd hs2) fun e a' w' he => ?_)
  obtain ⟨hD, he⟩ := he
  have hD : a'.defers = [] := hD
  have out : ∀ σ' β', Sim (cxIn c fn.ntmps Ds) σ' β' a' w' → postC a.tmps.toList K .ret σ' → bodyPostS c.P fn c₀ cs (fun e u' w' => ∃ v, e = .returned v ∧ settle u' = .returning ∧ ∃ σ' β', Sim c σ' β' a w' ∧ K σ') .ret a' ({ c₀ with mode := m } :: cs) w' := by
   rintro σ' β' hs' ⟨hfv, hk⟩
   obtain ⟨rs', hfr⟩ : ∃ rs', σ'.mem 999999 = some (.frame a.tmps.toList rs') := by
    unfold fvOf at hfv
    split at hfv
    ·rename_i vs' rs' e; cases hfv; exact ⟨rs', e⟩
    ·cases hfv
   obtain ⟨hl, _⟩ := leave_sim (a := a) hs' hfr hs.size hds
   refine ⟨hD, m, rfl, .tuple #[], ?_, .tuple #[], rfl, hmode, _, _, hl, hk⟩
   have e1 : results fn a'.tmps = (do let vs ← fn.results.mapM (resG a'.tmps); pure (if h : vs.size = 1 then vs[0] else .tuple vs)) := rfl
   have e2 : (fn.results.mapM (resG a'.tmps)).run c.P w' = .ok #[] w' := by rw [hres]; simp
   rw [e1, Sem.run_bind, e2, Result.andThen_ok]
   rfl
  cases e with
  | normal => obtain ⟨σ', β', hs', hk⟩ := he; exact out σ' β' hs' hk
  | ret => obtain ⟨σ', β', hs', hk⟩ := he; exact out σ' β' hs' hk
  | exit id => obtain ⟨σ', β', hs', hk⟩ := he; exact hk.elim
  | goto l => exact he.elim
  | panic ch => obtain ⟨_, _, _, _, _, _, _, _, hk⟩ := he; exact hk.elim
  | outgrown => exact he.elim
 have hrun : ∀ ev : Operand → Value, (execOp ev ⟨some d, .call { callee := .builtin .recover, args := #[], argTypes := at_ }, ty, pos, after, none⟩).run c.P w = .ok .recover w := fun ev => by
  simp [execOp, resolve, invoke, builtin]
 cases p with
 | none =>
  have hp : u = .returning := hp
  subst hp
  have e0 : recoverD (c₀ :: cs) = none := by simp [recoverD, hu]
  rw [show List.range (#[(⟨some d, .call { callee := .builtin .recover, args := #[], argTypes := at_ }, ty, pos, after, none⟩ : Oper)]).size = [0] from rfl]
  simp only [wpOpsSIn, List.getElem?_toArray, List.getElem?_cons_zero, wanted_none, if_true]
  refine ⟨fun _ _ => trivial, ?_⟩
  rw [hrun]
  simp only [e0]
  have hc0 : ({ c₀ with mode := .returning } : Frame) = c₀ := by rw [← hu]
  have hq := hs1.put (dst := some d) (r := .a (.d (.v .nilIface))) (v := .nilIface) (fun d' e => by cases e; exact hdn) (.a (show Rd _ _ _ _ from .v rfl))
  have := main .nilIface .returning rfl ⟨_, hq⟩
  rw [hc0] at this
  exact this
 | some q =>
  obtain ⟨T, x⟩ := q
  obtain ⟨v, rfl, hr⟩ := hp
  have e0 : recoverD (c₀ :: cs) = some (.iface T v, { c₀ with mode := .panicking [{ v := .iface T v, recovered := true }] } :: cs) := by simp [recoverD, hu]
  rw [show List.range (#[(⟨some d, .call { callee := .builtin .recover, args := #[], argTypes := at_ }, ty, pos, after, none⟩ : Oper)]).size = [0] from rfl]
  simp only [wpOpsSIn, List.getElem?_toArray, List.getElem?_cons_zero, wanted_none, if_true]
  refine ⟨fun _ _ => trivial, ?_⟩
  rw [hrun]
  simp only [e0]
  have hn := hs1.new (o := 999990) (x := .sem (ifaceOb T x)) (bv := .iface T v) (w' := w) ⟨rfl, rfl, rfl, Nat.le_refl _, fun _ _ _ => rfl⟩ (fun b hb => by cases hb) ⟨v, rfl, (hr.mono hst).mono fun b hb => ⟨st_new (Nat.le_refl _) (fun b hb => rfl) (fun b hb => by cases hb) hb, rfl⟩⟩
  have hq := hn.put (dst := some d) (r := .own 999990) (v := .iface T v) (fun d' e => by cases e; exact hdn) (.own (by simp [upd]) rfl)
  exact main (.iface T v) (.panicking [{ v := .iface T v, recovered := true }]) rfl ⟨_, hq⟩
end Go.VC
end
section
set_option maxRecDepth 100000
namespace Go.VC
open Go.RowKit Go.Proofs
theorem CallsDIn.mono' {F : Fence} {n : Nat} {P : Program} {f : FuncId} {args : Array Value} {u : FrameMode} {w : World} {R R' : Ending → FrameMode → World → Prop} (h : CallsDIn F n P f args u w R) (k : ∀ e u' w', R e u' w' → R' e u' w') : CallsDIn F n P f args u w R' :=
 ⟨h.1, fun c cs hu hr => let ⟨e, u', w', fr, hR, rest⟩ := h.2 c cs hu hr; ⟨e, u', w', fr, k _ _ _ hR, rest⟩⟩
def ClosK (P : Program) (gl : Nat → Option (List D)) (y : Code) (dg : Tmp) (caps : List (Nat × Nat)) (K5 : S → Prop) (p : Option (TypeId × A)) (σ : S) : Prop :=
 ∀ vs', SemD P gl y (postC vs' K5) ((S.enter vs' (caps.map fun c => .ref c.1 c.2) σ).recov dg p)
def postX (cvs : List Value) (caps : List (Nat × Nat)) (cl : Option (TypeId × A) → S → Prop) : Ex → S → Prop
 | .normal, σ => (∃ rs, σ.mem 999991 = some (.frame cvs rs) ∧ ∀ (j : Nat) (c : Nat × Nat), caps[j]? = some c → rs j = .ref c.1 c.2) ∧ cl none σ
 | .panic t r, σ => (∃ rs, σ.mem 999991 = some (.frame cvs rs) ∧ ∀ (j : Nat) (c : Nat × Nat), caps[j]? = some c → rs j = .ref c.1 c.2) ∧ ∃ x, r = .a x ∧ cl (some (t, x)) σ
 | _, _ => False
def capsR (caps : List (Nat × Nat)) (t : Nat) : R := match caps[t]? with
 | some c => .ref c.1 c.2
 | none => .any
noncomputable def endDf (P : Program) (vs : List Value) (t : Tmp) (T : TypeId) (K : S → List R → Prop) (σ : S) : Prop :=
 fvOf (σ.mem 999999) = some vs ∧ ∃ o off r, σ.regs t = .ref o off ∧ loadR P σ T (.ref o off) = some r ∧ K σ.leave [r.down]
theorem inl_defer {P : Program} {gl : Nat → Option (List D)} {f g : FuncId} {fn gn : Func} {x0 x2 y : Code} {rs : List R} {t : Tmp} {T : TypeId} {σ : S} {K : S → List R → Prop} {caps : List (Nat × Nat)} {cl : List Operand} {d dg : Tmp} {id idg : Nat} {k : Call} {ty ty' tyg : TypeId} {pos pos' posg : String} {after after' afterg : Array Edge} {at_ : Array TypeId} (hm : P.follows .mixedOrders = true)
  (hf : P.funcs[f]? = some fn) (hb : fn.body = some (.seq x0 (.seq (.region id #[⟨some d, .makeFunc (.func g) #[] cl.toArray, ty, pos, after, none⟩, ⟨none, .defer k, ty', pos', after', none⟩] false) (.seq x2 .ret)))) (hk : k.callee = .value (.tmp d)) (hka : k.args = #[]) (hres : fn.results = #[.cell t T]) (hname : (fn.name == "runtime.NumGoroutine") = false) (hd : dstOK fn.ntmps x0 = true) (hdd : d < fn.ntmps) (hd2 : dstOK fn.ntmps x2 = true) (hN : decide (rs.length ≤ fn.ntmps) = true)
  (hg : P.funcs[g]? = some gn) (hgb : gn.body = some (.seq (.region idg #[⟨some dg, .call { callee := .builtin .recover, args := #[], argTypes := at_ }, tyg, posg, afterg, none⟩] false) y)) (hgres : gn.results = #[]) (hgd : dstOK gn.ntmps y = true) (hgdn : dg < gn.ntmps) (hgN : decide (caps.length ≤ gn.ntmps) = true) (hgname : (gn.name == "runtime.NumGoroutine") = false)
  (hc9 : ∀ c ∈ caps, c.1 ≠ 999991)
  (h : ∀ vs, SemD P gl x0 (fun e σ1 => e = .normal ∧ cl.map (σ1.eval gl) = caps.map (fun c => .ref c.1 c.2) ∧ ∀ cvs, SemCode P gl x2 (postX cvs caps (ClosK P gl y dg caps (endDf P vs t T K))) ((σ1.put (some d) (.clo g caps)).newOb 999991 (.frame cvs (capsR caps)))) (S.enter vs rs σ)) : Inl P gl f rs σ K := by
 refine ⟨⟨fn, hf, by rw [hb]; rfl, hname⟩, fun c β a w vs hP hgl hs hv => ?_⟩
 subst hP; subst hgl
 have h := h a.tmps.toList
 rw [← callsIn_wide (n := 0)]
 refine callsIn_of_wp_marks hf hb trivial ?_
 obtain ⟨Ds, hds, hM⟩ := hs.df
 refine wpIn_seq (wpIn_mono (h (cxIn c fn.ntmps Ds) _ _ _ 0 rfl rfl hm hd (enter_sim hs hM hv (by simpa using hN))) fun e a1 w1 he => ?_)
 obtain ⟨hD1, he⟩ := he
 have hD1 : a1.defers = [] := hD1
 cases e with
 | exit id => obtain ⟨_, _, _, hk⟩ := he; cases hk.1
 | ret => obtain ⟨_, _, _, hk⟩ := he; cases hk.1
 | goto l => exact he.elim
 | panic ch => obtain ⟨_, _, _, _, _, _, _, _, hk⟩ := he; cases hk.1
 | outgrown => exact he.elim
 | normal =>
 obtain ⟨σ1, β1, hs1, _, hcaps, hx2⟩ := he
 show Code.wpIn _ _ _ (.seq _ _) _ _ _
 refine wpIn_seq (wpIn_region_list ?_)
 simp only [wpListIn, wanted_none (o := ⟨some d, .makeFunc (.func g) #[] cl.toArray, ty, pos, after, none⟩) rfl, if_true]
 refine sem_clo (P := c.P) (gl := c.gl) (K := fun σ' => σ' = σ1.put (some d) (.clo g caps)) hcaps rfl (cxIn c fn.ntmps Ds) β1 a1 w1 rfl rfl hs1 (fun d' e => by cases e; exact hdd) none 0 _ _ ?_
 rintro v w2 ⟨σ2, β2, rfl, hs2⟩
 have hsz : d < a1.tmps.size := by rw [hs1.size]; exact hdd
 have htd : (a1.put (some d) v).tmps.getD d undef = v := by simp [Act.put, hsz]
 have hrv := hs2.reg d
 rw [show (a1.put (some d) v).tmps.getD d undef = v from htd, show (σ1.put (some d) (.clo g caps)).regs d = .clo g caps by simp [S.put, upd]] at hrv
 obtain ⟨cvs, rfl, hcv⟩ : ∃ cvs : List Value, v = .func (.func g) #[] cvs.toArray ∧ F2 (fun v c => ∃ b, β2 c.1 = .pointer (some ⟨b, 0, none⟩) ∧ v = .pointer (some ⟨b, c.2, none⟩)) cvs caps := by
  cases hrv with
  | clo hl => exact ⟨_, rfl, hl⟩
 have hev : (a1.put (some d) (.func (.func g) #[] cvs.toArray)).eval (.tmp d) = .func (.func g) #[] cvs.toArray := htd
 simp only [wanted_none (o := ⟨none, .defer k, ty', pos', after', none⟩) rfl, if_true]
 refine ⟨fun _ _ => trivial, ?_⟩
 have hdef : (Oper.semAt Fence.wide.round (a1.put (some d) (.func (.func g) #[] cvs.toArray)).eval ⟨none, .defer k, ty', pos', after', none⟩).run c.P w2 = .ok (.defer { target := .fn (.func g) cvs.toArray, args := #[] }) w2 := by
  rw [show Fence.wide.round = none from rfl, Oper.semAt_none]
  simp [execOp, resolve, hk, hka, hev, Deferred.ofValue]
 rw [hdef]
 have hs3 := Sim.redf (df := [{ target := .fn (.func g) cvs.toArray, args := #[] }]) (a' := { (a1.put (some d) (.func (.func g) #[] cvs.toArray)) with defers := { target := .fn (.func g) cvs.toArray, args := #[] } :: (a1.put (some d) (.func (.func g) #[] cvs.toArray)).defers }) hs2 rfl (by
  show _ :: a1.defers = _
  rw [hD1])
 generalize hc2 : cxDf (cxIn c fn.ntmps Ds) [{ target := .fn (.func g) cvs.toArray, args := #[] }] = c2 at hs3
 have hs4 := hs3.new (o := 999991) (x := .frame cvs (capsR caps)) (bv := undef) (w' := w2) ⟨rfl, rfl, rfl, Nat.le_refl _, fun _ _ _ => rfl⟩ (fun b hb => by simp [undef_own] at hb) ⟨undef_own, fun j => by
  unfold capsR
  split
  ·rename_i cp hcp
   obtain ⟨u, hu, b, hb, rfl⟩ := hcv.get hcp
   rw [List.getD_eq_getElem?_getD, hu]
   refine .ref (b := b) ?_
   rw [show upd β2 999991 undef cp.1 = β2 cp.1 by simp [upd, hc9 cp (List.mem_of_getElem? hcp)]]
   exact hb
  ·exact .any⟩
 have hc2P : c2.P = c.P := by rw [← hc2]; rfl
 have hc2g : c2.gl = c.gl := by rw [← hc2]; rfl
 have hc2N : c2.N = fn.ntmps := by rw [← hc2]; rfl
 have hc2d : c2.df = [{ target := .fn (.func g) cvs.toArray, args := #[] }] := by rw [← hc2]; rfl
 -- the closure is called
 have leave : ∀ (p : Option (TypeId × A)) (u : FrameMode) (σ3 : S) (β3 : Nat → Value) (a3 : Act) (w3 : World), u ≠ .run → Sim c2 σ3 β3 a3 w3 → PanOk c2 σ3 β3 w3 u p →
   (∃ rs, σ3.mem 999991 = some (.frame cvs rs) ∧ ∀ (j : Nat) (c : Nat × Nat), caps[j]? = some c → rs j = .ref c.1 c.2) → ClosK c.P c.gl y dg caps (endDf c.P a.tmps.toList t T K) p σ3 →
   LeavesInM Fence.wide 0 c.P fn a3.tmps (fun e w' => ∃ (us : List Value) (rs' : List R) (σ' : S) (β' : Nat → Value), e = .returned (retV us) ∧ Sim c σ' β' a w' ∧ F2 (RelR β' (stF c σ' β' w') w') us rs' ∧ K σ' rs') a3.defers u w3 := by
  intro p u σ3 β3 a3 w3 hu hs3 hpan hfr hcl
  obtain ⟨Ds3, hds3, hM3⟩ := hs3.df
  rw [hds3, ← hc2P]
  refine marks_outD hu Ds3 hs3 hds3 hM3 fun a4 w4 ht4 hd4 hs4 hH => ?_
  rw [hc2d]
  have hvs : F2 (RelR β3 (stF c2 σ3 β3 w4) w4) cvs (caps.map fun c => .ref c.1 c.2) := by
   obtain ⟨rs3, hfr, hrs⟩ := hfr
   obtain ⟨_, hfr⟩ := hs4.obj _ _ hfr
   refine ⟨by rw [List.length_map]; exact hcv.1, fun j u r hu hr => ?_⟩
   rw [List.getElem?_map] at hr
   obtain ⟨cp, hcp, rfl⟩ := Option.map_eq_some_iff.1 hr
   have := hfr j
   rw [hrs j cp hcp, List.getD_eq_getElem?_getD, hu] at this
   exact this
  have hpan4 : PanOk c2 σ3 β3 w4 u p := by
   cases p with
   | none => exact hpan
   | some q => obtain ⟨v, e, hr⟩ := hpan; exact ⟨v, e, hr.mono hH⟩
  refine ⟨hu, .inr ⟨fun h => by simp [Fence.wide] at h, .func g, cvs.toArray, g, (#[] ++ cvs.toArray : Array Value), rfl, ?_, fun _ _ => trivial, ?_⟩⟩
  ·simp only [invoke]
   exact funcs_run ⟨gn, by rw [hc2P]; exact hg, by rw [hgb]; rfl, hgname⟩
  ·have hca : (#[] ++ cvs.toArray : Array Value) = cvs.toArray := by simp
   rw [hca, hc2P]
   refine CallsDIn.mono' (closD (n := 0 - 1) hm hg hgb hgres hgd hgdn (by simpa using hgN) hcl hc2P hc2g hs4 hvs hpan4) fun e u' w' hq => ?_
   obtain ⟨v, rfl, hset, σ5, β5, hs5, hfv, o5, off5, r5, hr5, hl5, hk5⟩ := hq
   show LeavesInM _ _ _ _ _ _ [] (settle u') w'
   rw [hset]
   have hs6 := Sim.redf (df := []) (a' := { a4 with defers := [] }) hs5 rfl rfl
   rw [show cxDf c2 [] = cxIn c fn.ntmps Ds by rw [← hc2]; rfl] at hs6
   obtain ⟨rs', hfr'⟩ : ∃ rs', σ5.mem 999999 = some (.frame a.tmps.toList rs') := by
    unfold fvOf at hfv
    split at hfv
    ·rename_i vs' rs' e; cases hfv; exact ⟨rs', e⟩
    ·cases hfv
   obtain ⟨hl, hst⟩ := leave_sim (a := a) hs6 hfr' hs.size hds
   have hβ : ∀ o, 1000000 ≤ o → (fun o => β5 (upId o)) (o - 1000000) = β5 o := fun o ho => congrArg β5 (upId_of ho)
   obtain ⟨val, hrun, hrel⟩ := load_run (p := .tmp t) hs6 (show loadR (cxIn c fn.ntmps Ds).P σ5 T (σ5.eval _ (.tmp t)) = some r5 by rw [show σ5.eval (cxIn c fn.ntmps Ds).gl (.tmp t) = σ5.regs t from rfl, hr5]; exact hl5)
   have hpt := hs6.reg t
   rw [hr5] at hpt
   obtain ⟨b, _, hpt⟩ := hpt.inv_ref
   have hrg : (resG a4.tmps (.cell t T)).run c.P w' = .ok val w' := by
    have h1 : ({ a4 with defers := [] } : Act).eval (.tmp t) = .pointer (some ⟨b, off5, none⟩) := hpt
    have h2 : a4.tmps.getD t undef = .pointer (some ⟨b, off5, none⟩) := hpt
    rw [h1] at hrun
    have hrun : (loadVar T ⟨b, off5, none⟩).run (cxIn c fn.ntmps Ds).P w' = .ok val w' := by simpa [Instr.loadAt, Instr.sureAddr] using hrun
    simp only [resG, h2, asAddr, Sem.run_bind, Sem.run_pure, Result.andThen_ok]
    exact hrun
   refine ⟨val, ?_, [val], [r5.down], _, _, rfl, hl, F2.cons (RelR.down (β' := fun o => β5 (upId o)) hβ (hrel.mono hst)) F2.nil, hk5⟩
   have e1 : results fn a4.tmps = (do let vs ← fn.results.mapM (resG a4.tmps); pure (if h : vs.size = 1 then vs[0] else .tuple vs)) := rfl
   have e2 : (fn.results.mapM (resG a4.tmps)).run c.P w' = .ok (fn.results.toList.map (resV c.P a4.tmps w')).toArray w' := run_mapM_arr _ (resV c.P a4.tmps w') fun v hv => by
    rw [hres] at hv
    simp only [List.mem_singleton, Array.mem_toList_iff, Array.mem_singleton] at hv
    subst hv
    rw [resV_of hrg]; exact hrg
   rw [e1, Sem.run_bind, e2, Result.andThen_ok, hres]
   show Result.ok (resV c.P a4.tmps w' (.cell t T)) w' = _
   rw [resV_of hrg]
 show Code.wpIn _ _ _ (.seq x2 .ret) _ _ _
 have hx := hx2 cvs c2 _ _ _ none 0 hc2P hc2g (by rw [hc2P]; exact hm) (by rw [hc2N]; exact hd2) (.inl rfl) hs4
 rw [hc2P] at hx
 refine wpIn_seq (wpIn_mono hx fun e a3 w3 he => ?_)
 cases e with
 | exit id => obtain ⟨_, _, _, hk⟩ := he; exact hk.elim
 | ret => obtain ⟨_, _, _, hk⟩ := he; exact hk.elim
 | goto l => exact he.elim
 | outgrown => exact he.elim
 | normal =>
  obtain ⟨σ3, β3, hs3', hfr, hcl⟩ := he
  exact wpIn_ret (leave none .returning σ3 β3 a3 w3 (by simp) hs3' rfl hfr hcl)
 | panic ch =>
  obtain ⟨σ3, β3, t3, v3, r3, rfl, hs3', hr3, hfr, x3, rfl, hcl⟩ := he
  exact leave (some (t3, x3)) (.panicking [{ v := .iface t3 v3, recovered := false }]) σ3 β3 a3 w3 (by simp) hs3' ⟨v3, rfl, by cases hr3 with | a h => exact h⟩ hfr hcl
end Go.VC
end
section
set_option maxRecDepth 100000
namespace Go.VC
open Go.RowKit Go.Proofs Go.IntWalk
theorem InlP.nilArg {P : Program} {gl : Nat → Option (List D)} {f : FuncId} {r1 r3 : R} {σ : S} {K : S → List R → Prop} {KP : TypeId → R → S → Prop} (h : InlP P gl f [r1, .a (.d (.sl [])), r3] σ K KP) : InlP P gl f [r1, .cs [], r3] σ K KP :=
 ⟨h.1, fun c β a w vs hP hgl hs hv => h.2 c β a w vs hP hgl hs (by
  obtain ⟨u1, l1, rfl, h1, hv⟩ := hv.of_cons
  obtain ⟨u2, l2, rfl, h2, hv2⟩ := hv.of_cons
  obtain ⟨p, n, rfl, h3⟩ := h2.inv_cs
  exact F2.cons h1 (F2.cons (RelR.a (x := .d (.sl [])) (show Rd _ _ _ _ from h3)) hv2))⟩
structure Fnd where
 v : Nat
 c : Nat
 row : List Nat
 s : Nat
abbrev Fnd.a (x : Fnd) : A := .ag [dI x.v, .v (.int .u32 x.c), .sl ((rowI x.row).map ienc), dI x.s]
def Out.fnd (C : Nat) : Out → Fnd
 | .ret s => ⟨1, 0, [], s⟩
 | .fin v row s => if v = 0 then ⟨0, C, row, s⟩ else ⟨v, 0, [], s⟩
def foundF (T : List Txn) (who C B : Nat) : Fnd := (goF T who C B (T.length + 1) [] 0).fnd C
theorem clos_end {P : Program} {vs vs' : List Value} {T : TypeId} {bs : Nat} {z : List Value} {σ σ3 τ : S} {o : Nat} {K : S → List R → Prop} {ds : List D} (hT : tinf P T = some ⟨4, bs, true, z⟩) (kpc : KeepsB 900000000 vs' 2 σ3 τ) (kp : KeepsB 800000000 vs o σ σ3) (r2 : σ3.regs 2 = .ref 2 0)
  (m2 : τ.mem (upId 2) = some (.box (ds.map fun d => .a (.d d)))) (hl : ds.length = 4) (hK : ∀ σ' : S, LeftB 800000000 o σ σ' → K σ' [.a (.ag ds)]) : postC vs' (endDf P vs 2 T K) .normal τ := by
 have L := KeepsB.leave (Nat.le_refl _) kpc
 have kp2 : KeepsB 800000000 vs o σ τ.leave := ⟨L.m rfl rfl kp.fr up_frame, fun o' x h1 h2 h3 => by
  have := of_decide_eq_true h2
  have := upId_eq o'
  exact L.m (by simp; omega) (decide_eq_true (by omega)) (kp.ob o' x h1 h2 h3) (up_obj x)⟩
 have hm2 : τ.leave.mem 2 = some (.box (ds.map fun d => .a (.d d))) := by
  rw [lv_m rfl, m2]
  simp only [Option.map_some, Ob.down, List.map_map]
  rfl
 refine ⟨by rw [kpc.fr]; rfl, by rw [kp2.fr]; rfl, 2, 0, .a (.ag ds), L.r r2 up_ref1, ?_, hK _ (KeepsB.leave (by omega) kp2)⟩
 have ht : List.take 4 (ds.map fun d => R.a (.d d)) = ds.map fun d => R.a (.d d) := List.take_of_length_le (by simp [hl])
 simp only [loadR, hT, hm2, List.drop_zero, ht, allD_map, Nat.zero_add, List.length_map, hl, Nat.le_refl, if_true, Option.map_some]
theorem search_inl (h : List Ev) (hE : checkE h = 0) (who C B : Nat) (hw : who < 2 ^ (txns h).length) (hC : C < 2 ^ 32) (hB : B ≤ 1000000) {σ : S} {o : Nat} {K : S → List R → Prop} (ho : decide (o < 800000000) = true) (mo : σ.mem o = some (.box (seaR h (txns h) who C B 0)))
  (hK : ∀ σ' : S, LeftB 800000000 o σ σ' → K σ' [.a (foundF (txns h) who C B).a]) : Inl Tryz.prog GL 48 [.ref o 0] σ K := by
 have hO1 := of_decide_eq_true ho
 have hO : decide (o < 999000000) = true := decide_eq_true (by omega)
 have hOU : decide (upId o < 1000000000) = true := up_lt hO
 refine inl_defer (caps := [(1, 0), (2, 0)]) (by kernel_rfl) Tryz.func48 rfl rfl rfl rfl (by kernel_rfl) rfl (by decide) rfl rfl Tryz.func74 rfl rfl rfl (by decide) rfl (by kernel_rfl) (by decide) fun vs => ?_
 refine sd_region ?_
 (refine rO ?_; repeat' ((with_reducible first | refine rG ?_ | (refine rS ?_ ?_ <;> intro hp) | (refine rB ?_ ?_ <;> intro hb <;> try rw [hb]) | refine rD ?_ | refine rA ?_ | fail) <;> try simp only [go_sem, simprocAttr, PI, hO, hOU, mo]))
 generalize hcl : ClosK Tryz.prog GL _ _ _ _ = CL
 have hoU : decide (upId o < Bd ((txns h).length + 1)) = true := decide_eq_true (by have := upId_eq o; have := txns_len6 h; unfold Bd; omega)
 have hl6 := txns_len6 h
 -- what the closure does
 have clos : ∀ (p : Option (TypeId × A)) (σ3 : S) (s' : Nat), KeepsB 800000000 vs o σ σ3 → σ3.mem 1 = some (.box [.ref (upId o) 0]) → σ3.mem 2 = some (.box [.a (I 0), .a (U 0), .a (.d (.sl [])), .a (I 0)]) → σ3.mem (upId o) = some (.box (seaR h (txns h) who C B s')) → σ3.regs 2 = .ref 2 0 →
   ((p = none ∧ goF (txns h) who C B ((txns h).length + 1) [] 0 = .ret s') ∨ ∃ v row', p = some (124, .ag [dI (v : Nat), .sl ((rowI row').map ienc)]) ∧ goF (txns h) who C B ((txns h).length + 1) [] 0 = .fin v row' s') → CL p σ3 := by
  intro p σ3 s' kp m1 m2 mo3 r2 hp
  rw [← hcl]
  intro vs'
  have hU2 : decide (upId o < 999000000) = true := decide_eq_true (by have := upId_eq o; omega)
  have kpc0 : KeepsB 900000000 vs' 2 σ3 (S.enter vs' [.ref 1 0, .ref 2 0] σ3) := KeepsB.enter (Nat.le_refl _)
  have hT44 : tinf Tryz.prog 37 = some ⟨4, 48, true, [.int .i64 0, .int .u32 0, .slice none 0 0, .int .i64 0]⟩ := by kernel_rfl
  have hfo : foundF (txns h) who C B = (goF (txns h) who C B ((txns h).length + 1) [] 0).fnd C := rfl
  rcases hp with ⟨rfl, hgo⟩ | ⟨v, row', rfl, hgo⟩
  ·rw [hgo] at hfo
   simp only [S.recov, List.map_cons, List.map_nil]
   refine sd_block (sd_seq (sd_region ?_))
   (refine rO ?_; repeat' ((with_reducible first | refine rG ?_ | (refine rS ?_ ?_ <;> intro hp) | (refine rB ?_ ?_ <;> intro hb <;> try rw [hb]) | refine rD ?_ | refine rA ?_ | fail) <;> try simp only [go_sem, simprocAttr, PI]))
   refine sem_nil_nil Tryz.underlying20 (by simp only [go_sem, simprocAttr]) ?_
   (refine rO ?_; repeat' ((with_reducible first | refine rG ?_ | (refine rS ?_ ?_ <;> intro hp) | (refine rB ?_ ?_ <;> intro hb <;> try rw [hb]) | refine rD ?_ | refine rA ?_ | fail) <;> try simp only [go_sem, simprocAttr, PI]))
   refine sd_cond (b := true) (by simp only [go_sem, simprocAttr]) (fun _ => ?_) (fun e => by cases e)
   refine sd_seq (sd_region ?_)
   (refine rO ?_; repeat' ((with_reducible first | refine rG ?_ | (refine rS ?_ ?_ <;> intro hp) | (refine rB ?_ ?_ <;> intro hb <;> try rw [hb]) | refine rD ?_ | refine rA ?_ | fail) <;> try simp only [go_sem, simprocAttr, PI]))
   refine sd_region ?_
   (refine rO ?_; repeat' ((with_reducible first | refine rG ?_ | (refine rS ?_ ?_ <;> intro hp) | (refine rB ?_ ?_ <;> intro hb <;> try rw [hb]) | refine rD ?_ | refine rA ?_ | fail) <;> try simp only [go_sem, simprocAttr, PI, m1, m2, mo3, hU2]))
   refine SemOp.old ?_
   (refine rO ?_; repeat' ((with_reducible first | refine rG ?_ | (refine rS ?_ ?_ <;> intro hp) | (refine rB ?_ ?_ <;> intro hb <;> try rw [hb]) | refine rD ?_ | refine rA ?_ | fail) <;> try simp only [go_sem, simprocAttr, PI, y_load0, m1, m2, mo3, hU2]))
   refine SemOp.old ?_
   (refine rO ?_; repeat' ((with_reducible first | refine rG ?_ | (refine rS ?_ ?_ <;> intro hp) | (refine rB ?_ ?_ <;> intro hb <;> try rw [hb]) | refine rD ?_ | refine rA ?_ | fail) <;> try simp only [go_sem, simprocAttr, PI, y_build0, m1, m2, mo3, hU2]))
   refine clos_end (ds := [dI 1, .v (.int .u32 0), .sl [], dI s']) hT44 (by repeat' first | (with_reducible exact kpc0) | (with_reducible refine KeepsB.put ?_) | (with_reducible refine KeepsB.setU ?_) | refine KeepsB.new rfl ?_ | exact kpc0) kp r2 (by simp only [go_sem, simprocAttr, PI, m2]; try rfl) rfl (fun σ' hL => ?_)
   have := hK σ' hL
   rw [hfo] at this; exact this
  ·rw [hgo] at hfo
   simp only [S.recov, List.map_cons, List.map_nil]
   refine sd_block (sd_seq (sd_region ?_))
   (refine rO ?_; repeat' ((with_reducible first | refine rG ?_ | (refine rS ?_ ?_ <;> intro hp) | (refine rB ?_ ?_ <;> intro hb <;> try rw [hb]) | refine rD ?_ | refine rA ?_ | fail) <;> try simp only [go_sem, simprocAttr, PI]))
   refine sem_if_nil Tryz.underlying20 (q := 999990) (T := 124) (y := .ag [dI (v : Nat), .sl ((rowI row').map ienc)]) (by simp only [go_sem, simprocAttr]) (by simp only [go_sem, simprocAttr]) ?_
   (refine rO ?_; repeat' ((with_reducible first | refine rG ?_ | (refine rS ?_ ?_ <;> intro hp) | (refine rB ?_ ?_ <;> intro hb <;> try rw [hb]) | refine rD ?_ | refine rA ?_ | fail) <;> try simp only [go_sem, simprocAttr, PI]))
   refine sd_cond (b := false) (by simp only [go_sem, simprocAttr]) (fun e => by cases e) (fun _ => ?_)
   refine sd_seq (sd_region ?_)
   (refine rO ?_; repeat' ((with_reducible first | refine rG ?_ | (refine rS ?_ ?_ <;> intro hp) | (refine rB ?_ ?_ <;> intro hb <;> try rw [hb]) | refine rD ?_ | refine rA ?_ | fail) <;> try simp only [go_sem, simprocAttr, PI]))
   refine sem_assert (q := 999990) (y := .ag [dI (v : Nat), .sl ((rowI row').map ienc)]) (offs := [(0, 1, false), (1, 1, false)]) (by kernel_rfl) (by simp only [go_sem, simprocAttr]) (by simp only [go_sem, simprocAttr]) ?_
   (refine rO ?_; repeat' ((with_reducible first | refine rG ?_ | (refine rS ?_ ?_ <;> intro hp) | (refine rB ?_ ?_ <;> intro hb <;> try rw [hb]) | refine rD ?_ | refine rA ?_ | fail) <;> try simp only [go_sem, simprocAttr, PI]))
   refine sd_cond (b := true) (by simp only [go_sem, simprocAttr]) (fun _ => ?_) (fun e => by cases e)
   refine sd_seq (sd_region ?_)
   (refine rO ?_; repeat' ((with_reducible first | refine rG ?_ | (refine rS ?_ ?_ <;> intro hp) | (refine rB ?_ ?_ <;> intro hb <;> try rw [hb]) | refine rD ?_ | refine rA ?_ | fail) <;> try simp only [go_sem, simprocAttr, PI]))
   refine sd_seq (sd_draw ?_)
   (refine rO ?_; repeat' ((with_reducible first | refine rG ?_ | (refine rS ?_ ?_ <;> intro hp) | (refine rB ?_ ?_ <;> intro hb <;> try rw [hb]) | refine rD ?_ | refine rA ?_ | fail) <;> try simp only [go_sem, simprocAttr, PI, m1, m2, mo3, hU2]))
   refine sd_seq (sd_region ?_)
   (refine rO ?_; repeat' ((with_reducible first | refine rG ?_ | (refine rS ?_ ?_ <;> intro hp) | (refine rB ?_ ?_ <;> intro hb <;> try rw [hb]) | refine rD ?_ | refine rA ?_ | fail) <;> try simp only [go_sem, simprocAttr, PI]))
   ·have hv0 : v = 0 := by omega
    refine sd_cond (b := true) (by simp only [go_sem, simprocAttr]) (fun _ => ?_) (fun e => by cases e)
    refine sd_drawF [[4, 5], []] (by decide +kernel) ?_
    (refine rO ?_; repeat' ((with_reducible first | refine rG ?_ | (refine rS ?_ ?_ <;> intro hp) | (refine rB ?_ ?_ <;> intro hb <;> try rw [hb]) | refine rD ?_ | refine rA ?_ | fail) <;> try simp only [go_sem, simprocAttr, PG, PI, m1, m2, mo3, hU2]))
    refine clos_end (ds := [dI v, .v (.int .u32 C), .sl ((rowI row').map ienc), dI s']) hT44 (by repeat' first | (with_reducible exact kpc0) | (with_reducible refine KeepsB.put ?_) | (with_reducible refine KeepsB.setU ?_) | refine KeepsB.new rfl ?_ | refine KeepsB.set rfl ?_ | exact kpc0) kp r2 (by simp only [go_sem, simprocAttr, PI, m2]; try rfl) rfl (fun σ' hL => ?_)
    have := hK σ' hL
    rw [hfo] at this
    simp only [Out.fnd, if_pos hv0] at this
    rw [hv0]; exact this
   ·have hv0 : ¬ v = 0 := by omega
    refine sd_cond (b := false) (by simp only [go_sem, simprocAttr]) (fun e => by cases e) (fun _ => ?_)
    refine sd_skip ?_
    (refine rO ?_; repeat' ((with_reducible first | refine rG ?_ | (refine rS ?_ ?_ <;> intro hp) | (refine rB ?_ ?_ <;> intro hb <;> try rw [hb]) | refine rD ?_ | refine rA ?_ | fail) <;> try simp only [go_sem, simprocAttr, PI]))
    refine clos_end (ds := [dI v, .v (.int .u32 0), .sl [], dI s']) hT44 (by repeat' first | (with_reducible exact kpc0) | (with_reducible refine KeepsB.put ?_) | (with_reducible refine KeepsB.setU ?_) | refine KeepsB.new rfl ?_ | refine KeepsB.set rfl ?_ | exact kpc0) kp r2 (by simp only [go_sem, simprocAttr, PI, m2]; try rfl) rfl (fun σ' hL => ?_)
    have := hK σ' hL
    rw [hfo] at this
    simp only [Out.fnd, if_neg hv0] at this
    exact this
 intro cvs
 refine sc_region (raw_cons rfl ?_)
 simp only [go_sem, simprocAttr, PI, hO, hOU, mo]
 refine SemOp.old ?_
 simp only [go_sem, simprocAttr, PI, y_load0, hO, hOU, mo]
 refine raw_call (g := 75) (rs := [.ref (upId o) 0, .cs [], .a (U 0)]) rfl rfl (by simp only [go_sem, simprocAttr, PI, List.map_cons, List.map_nil]; rfl) ?_
 refine InlP.nilArg ?_
 have hmo : (S.enter vs [.ref o 0] σ).mem (upId o) = some (.box (seaR h (txns h) who C B 0)) := by simp only [go_sem, simprocAttr, PI, hO, mo]; rfl
 have kp0 : KeepsB 800000000 vs o σ (S.enter vs [.ref o 0] σ) := KeepsB.enter (by omega)
 have hB8 : 800000000 + 1000000 ≤ Bd ((txns h).length + 1) := by unfold Bd; omega
 have d1 : decide (1 < Bd ((txns h).length + 1)) = true := decide_eq_true (by omega)
 have d2 : decide (2 < Bd ((txns h).length + 1)) = true := decide_eq_true (by omega)
 have d9 : decide (999991 < Bd ((txns h).length + 1)) = true := decide_eq_true (by omega)
 have hx1 : Ob.down (Ob.up (.box [.ref (upId o) 0])) = .box [.ref (upId o) 0] := by simp [Ob.up, Ob.down, R.up, R.down, upId_sub, upId_le]
 have hx9 : Ob.down (Ob.up (.frame cvs (capsR [(1, 0), (2, 0)]))) = .frame cvs (capsR [(1, 0), (2, 0)]) := by
  show Ob.frame cvs (fun t => ((capsR [(1, 0), (2, 0)] t).up).down) = _
  congr 1; funext t
  unfold capsR
  split
  ·exact up_ref1
  ·rfl
 have hcaps : ∀ (j : Nat) (c : Nat × Nat), ([(1, 0), (2, 0)] : List (Nat × Nat))[j]? = some c → capsR [(1, 0), (2, 0)] j = .ref c.1 c.2 := fun j c hc => by unfold capsR; rw [hc]
 refine from_inl h hE who C B hw hC hB ((txns h).length + 1) [] 0 (by omega) (by simp) List.nodup_nil (fun k hk => by cases hk) (Nat.zero_le _) hoU (by simp only [go_sem, simprocAttr, PI, hO, hOU, mo]; rfl) ?_ ?_
 ·intro s' σ' hgo hs' hL hm
  have kp2 := KeepsB.left (Bd := 800000000) (vs := vs) (σ0 := σ) (h := (by repeat' first | (with_reducible exact kp0) | (with_reducible refine KeepsB.put ?_) | refine KeepsB.new rfl ?_ | exact kp0)) hB8 hL
  have m1 := hL.m (o := 1) (x := .box [.ref (upId o) 0]) (by simp only [go_sem, simprocAttr, PI]) d1 (by simp only [go_sem, simprocAttr, PI]) hx1
  have m2 := hL.m (o := 2) (x := .box [.a (I 0), .a (U 0), .a (.d (.sl [])), .a (I 0)]) (by simp only [go_sem, simprocAttr, PI]) d2 (by simp only [go_sem, simprocAttr, PI]; rfl) rfl
  have m9 := hL.m (o := 999991) (x := .frame cvs (capsR [(1, 0), (2, 0)])) (by simp only [go_sem, simprocAttr, PI]) d9 (by simp only [go_sem, simprocAttr, PI]) hx9
  have r2 := hL.r (t := 2) (r := .ref 2 0) (by simp only [go_sem, simprocAttr, PI]) up_ref1
  exact ⟨⟨_, m9, hcaps⟩, clos none _ s' (KeepsB.put kp2) m1 m2 hm (by simp only [go_sem, simprocAttr, PI, r2]) (.inl ⟨rfl, hgo⟩)⟩
 ·intro v row' s' σ' hgo hs' hL hm
  have kp2 := KeepsB.left (Bd := 800000000) (vs := vs) (σ0 := σ) (h := (by repeat' first | (with_reducible exact kp0) | (with_reducible refine KeepsB.put ?_) | refine KeepsB.new rfl ?_ | exact kp0)) hB8 hL
  have m1 := hL.m (o := 1) (x := .box [.ref (upId o) 0]) (by simp only [go_sem, simprocAttr, PI]) d1 (by simp only [go_sem, simprocAttr, PI]) hx1
  have m2 := hL.m (o := 2) (x := .box [.a (I 0), .a (U 0), .a (.d (.sl [])), .a (I 0)]) (by simp only [go_sem, simprocAttr, PI]) d2 (by simp only [go_sem, simprocAttr, PI]; rfl) rfl
  have m9 := hL.m (o := 999991) (x := .frame cvs (capsR [(1, 0), (2, 0)])) (by simp only [go_sem, simprocAttr, PI]) d9 (by simp only [go_sem, simprocAttr, PI]) hx9
  have r2 := hL.r (t := 2) (r := .ref 2 0) (by simp only [go_sem, simprocAttr, PI]) up_ref1
  exact ⟨⟨_, m9, hcaps⟩, _, rfl, clos _ _ s' kp2 m1 m2 hm r2 (.inr ⟨v, row', rfl, hgo⟩)⟩
end Go.VC
end
section
set_option maxRecDepth 100000
namespace Go.VC
open Go.RowKit Go.Proofs Go.IntWalk
theorem rowI_len (row : List Nat) : (rowI row).length = row.length := by simp [rowI]
end Go.VC
end
section
set_option maxRecDepth 100000
namespace Go.VC
open Go.RowKit Go.Proofs Go.IntWalk
structure TabOk (T : List Txn) : Prop where
 len : T.length ≤ 6
 st : StT T
 ops : ∀ t ∈ T, OpsIn t.ops
end Go.VC
end
section
set_option maxRecDepth 100000
namespace Go.VC
open Go.RowKit Go.Proofs Go.IntWalk
structure Fd where
 v : Int
 c : Int
 row : List Int
 s : Int
abbrev Fd.a (x : Fd) : A := .ag [dI x.v, .v (.int .u32 x.c), .sl (x.row.map ienc), dI x.s]
def Fnd.fd (x : Fnd) : Fd := ⟨x.v, x.c, rowI x.row, x.s⟩
def sameFd (a b : Fd) : Bool := a.v == b.v && a.c == b.c && a.s == b.s && a.row == b.row
theorem sameFd_refl (a : Fd) : sameFd a a = true := by simp [sameFd]
theorem t1034 (a b : Fd) : Holds Tryz.prog GL 17 [a.a, b.a] [.a (B (sameFd a b))] := by
 refine fn_holds (vs := [.tmp 4]) (by kernel_rfl) Tryz.func17 rfl rfl (by kernel_rfl) (by kernel_rfl) rfl ?_
 have h34 := t34 a.row b.row
 unfold sameFd
 obtain ⟨av, ac, ar, as_⟩ := a
 obtain ⟨bv, bc, br, bs⟩ := b
 simp only at h34 ⊢
 generalize (ar == br) = e at h34
 (refine rO ?_; repeat' ((with_reducible first | refine rG ?_ | (refine rS ?_ ?_ <;> intro hp) | (refine rB ?_ ?_ <;> intro hb <;> try rw [hb]) | refine rD ?_ | refine rA ?_ | fail) <;> try simp only [go_sem, simprocAttr]))
 ·refine call_dat h34 ?_
  (refine rO ?_; repeat' ((with_reducible first | refine rG ?_ | (refine rS ?_ ?_ <;> intro hp) | (refine rB ?_ ?_ <;> intro hb <;> try rw [hb]) | refine rD ?_ | refine rA ?_ | fail) <;> try simp only [go_sem, simprocAttr]))
  simp_all
 all_goals simp_all
def maySE (h : List Ev) (n : Int) : Int := if checkE h = 0 then (if 0 ≤ n ∧ n ≤ 1000000 then 0 else 1) else checkE h
def maySV (h : List Ev) (n : Int) : List Nat := if maySE h n = 0 then afterR (txns h) else []
theorem t1128 (h : List Ev) (n : Int) : Holds Tryz.prog GL 47 [evsA h, I n] [.a (unsA (maySV h n)), .a (I (maySE h n))] := by
 refine fn_holds (vs := [.tmp 4, .tmp 5]) (by kernel_rfl) Tryz.func47 rfl rfl (by kernel_rfl) (by kernel_rfl) rfl ?_
 have h56 := t56 h
 rw [tabD_txns] at h56
 unfold maySV maySE
 by_cases hE : checkE h = 0
 ·have hA : aftersV h = afterR (txns h) := by rw [aftersV, if_pos hE]
  rw [hE] at h56 ⊢
  generalize txns h = T at *
  (refine rO ?_; repeat' ((with_reducible first | refine rG ?_ | (refine rS ?_ ?_ <;> intro hp) | (refine rB ?_ ?_ <;> intro hb <;> try rw [hb]) | refine rD ?_ | refine rA ?_ | fail) <;> try simp only [go_sem, simprocAttr]))
  refine call_dat h56 ?_
  by_cases hn : 0 ≤ n ∧ n ≤ 1000000
  ·rw [if_pos rfl, if_pos hn, if_pos rfl]
   have n1 : ¬ n < 0 := by omega
   have n2 : ¬ n > 1000000 := by omega
   (refine rO ?_; repeat' ((with_reducible first | refine rG ?_ | (refine rS ?_ ?_ <;> intro hp) | (refine rB ?_ ?_ <;> intro hb <;> try rw [hb]) | refine rD ?_ | apply c15 | refine rA ?_ | fail) <;> try simp only [go_sem, simprocAttr, hE, hA, n1, n2]))
  ·rw [if_pos rfl, if_neg hn, if_neg (by decide)]
   (refine rO ?_; repeat' ((with_reducible first | refine rG ?_ | (refine rS ?_ ?_ <;> intro hp) | (refine rB ?_ ?_ <;> intro hb <;> try rw [hb]) | refine rD ?_ | apply c15 | refine rA ?_ | fail) <;> try simp only [go_sem, simprocAttr, hE, hA]))
   exact absurd ⟨by omega, by omega⟩ hn
 ·generalize txns h = T at *
  generalize checkE h = c at *
  simp only [if_neg hE]
  (refine rO ?_; repeat' ((with_reducible first | refine rG ?_ | (refine rS ?_ ?_ <;> intro hp) | (refine rB ?_ ?_ <;> intro hb <;> try rw [hb]) | refine rD ?_ | refine rA ?_ | fail) <;> try simp only [go_sem, simprocAttr]))
  refine call_dat h56 ?_
  (refine rO ?_; repeat' ((with_reducible first | refine rG ?_ | (refine rS ?_ ?_ <;> intro hp) | (refine rB ?_ ?_ <;> intro hb <;> try rw [hb]) | refine rD ?_ | refine rA ?_ | fail) <;> try simp only [go_sem, simprocAttr, hE]))
theorem t1032 (h : List Ev) (n : Int) : Holds Tryz.prog GL 10 [evsA h, I n] [.a (I (maySE h n))] := by
 refine fn_holds (vs := [.tmp 4]) (by kernel_rfl) Tryz.func10 rfl rfl (by kernel_rfl) (by kernel_rfl) rfl ?_
 have hwy := t19 h
 rw [show whyI h = checkE h from (why_next h).symm] at hwy
 unfold maySE
 (refine rO ?_; repeat' ((with_reducible first | refine rG ?_ | (refine rS ?_ ?_ <;> intro hp) | (refine rB ?_ ?_ <;> intro hb <;> try rw [hb]) | refine rD ?_ | refine rA ?_ | fail) <;> try simp only [go_sem, simprocAttr]))
 refine call_dat hwy ?_
 by_cases hE : checkE h = 0
 ·rw [if_pos hE]
  by_cases hn : 0 ≤ n ∧ n ≤ 1000000
  ·rw [if_pos hn]
   have n1 : ¬ n < 0 := by omega
   have n2 : ¬ n > 1000000 := by omega
   (refine rO ?_; repeat' ((with_reducible first | refine rG ?_ | (refine rS ?_ ?_ <;> intro hp) | (refine rB ?_ ?_ <;> intro hb <;> try rw [hb]) | refine rD ?_ | refine rA ?_ | fail) <;> try simp only [go_sem, simprocAttr, hE, n1, n2]))
  ·rw [if_neg hn]
   (refine rO ?_; repeat' ((with_reducible first | refine rG ?_ | (refine rS ?_ ?_ <;> intro hp) | (refine rB ?_ ?_ <;> intro hb <;> try rw [hb]) | refine rD ?_ | refine rA ?_ | fail) <;> try simp only [go_sem, simprocAttr, hE]))
   exact absurd ⟨by omega, by omega⟩ hn
 ·rw [if_neg hE]
  (refine rO ?_; repeat' ((with_reducible first | refine rG ?_ | (refine rS ?_ ?_ <;> intro hp) | (refine rB ?_ ?_ <;> intro hb <;> try rw [hb]) | refine rD ?_ | refine rA ?_ | fail) <;> try simp only [go_sem, simprocAttr, hE]))
theorem one_go {r : R} : one [r] = r := rfl
def rowE (h : List Ev) (who C : Nat) (n : Int) : Int := if maySE h n = 0 then (if (who ||| C) / 2 ^ (txns h).length = 0 then 0 else 7) else maySE h n
def rowF (h : List Ev) (who C : Nat) (n : Int) : Fnd := if rowE h who C n = 0 then foundF (txns h) who C n.toNat else ⟨0, 0, [], 0⟩
theorem mayS_ok {h : List Ev} {n : Int} (hm : maySE h n = 0) : checkE h = 0 ∧ 0 ≤ n ∧ n ≤ 1000000 := by
 unfold maySE at hm
 split at hm
 ·split at hm
  ·exact ⟨‹_›, ‹_ ∧ _›⟩
  ·cases hm
 ·exact absurd hm ‹_›
theorem t1056 (h : List Ev) (who C : Nat) (n : Int) (hw : who < 2 ^ 32) (hC : C < 2 ^ 32) : Holds Tryz.prog GL 23 [evsA h, U who, U C, I n] [.a (rowF h who C n).a, .a (I (rowE h who C n))] := by
 refine fn_holds (vs := [.cell 8 37, .tmp 9]) (by kernel_rfl) Tryz.func23 rfl rfl (by kernel_rfl) (by kernel_rfl) rfl ?_
 have hm := t1128 h n
 have hl6 := txns_len6 h
 have e2 : rowF h who C n = if rowE h who C n = 0 then foundF (txns h) who C n.toNat else ⟨0, 0, [], 0⟩ := rfl
 have hwc : who ||| C < 2 ^ 32 := Nat.or_lt_two_pow hw hC
 have hor := u32_or hw hC
 have hal := afterR_len (txns h)
 have hshr := u32_shr (b := who ||| C) (k := (txns h).length) (by omega)
 by_cases hM : maySE h n = 0
 ·obtain ⟨hE, hn0, hn1⟩ := mayS_ok hM
  have e1 : rowE h who C n = if (who ||| C) / 2 ^ (txns h).length = 0 then 0 else 7 := by rw [rowE, if_pos hM]
  rw [maySV, if_pos hM, hM] at hm
  by_cases hb : (who ||| C) / 2 ^ (txns h).length = 0
  ·rw [if_pos hb] at e1
   rw [e1, if_pos rfl] at e2
   rw [e1, e2]
   (refine rO ?_; repeat' ((with_reducible first | refine rG ?_ | (refine rS ?_ ?_ <;> intro hp) | (refine rB ?_ ?_ <;> intro hb <;> try rw [hb]) | refine rD ?_ | refine rA ?_ | fail) <;> try simp only [go_sem, simprocAttr]))
   refine call_dat hm ?_
   have hlt := (Nat.div_eq_zero_iff_lt (Nat.two_pow_pos _)).1 hb
   have hw2 : who < 2 ^ (txns h).length := Nat.lt_of_le_of_lt Nat.left_le_or hlt
   obtain ⟨N, rfl⟩ : ∃ N : Nat, n = N := ⟨n.toNat, by omega⟩
   rw [Int.toNat_natCast]
   (refine rO ?_; repeat' ((with_reducible first | refine rG ?_ | (refine rS ?_ ?_ <;> intro hp) | (refine rB ?_ ?_ <;> intro hb <;> try rw [hb]) | refine rD ?_ | refine rA ?_ | fail) <;> try simp only [go_sem, simprocAttr, hor, hshr, hal, List.length_map, hb]))
   refine SemOp.old ?_
   (refine rO ?_; repeat' ((with_reducible first | refine rG ?_ | (refine rS ?_ ?_ <;> intro hp) | (refine rB ?_ ?_ <;> intro hb <;> try rw [hb]) | refine rD ?_ | refine rA ?_ | fail) <;> try simp only [go_sem, simprocAttr, y_build0]))
   refine call_inl (search_inl h hE who C N hw2 hC (by omega) (o := 38) rfl (by simp only [go_sem, simprocAttr]; simp [seaR]) fun σ' hL => ?_)
   have m8 := hL.m (o := 8) (x := .box [.a (I 0), .a (U 0), .a (.d (.sl [])), .a (I 0)]) rfl rfl (by simp only [go_sem, simprocAttr]; rfl) rfl
   have r8 := hL.r (t := 8) (r := .ref 8 0) (by simp only [go_sem, simprocAttr]) up_ref1
   (refine rO ?_; repeat' ((with_reducible first | refine rG ?_ | (refine rS ?_ ?_ <;> intro hp) | (refine rB ?_ ?_ <;> intro hb <;> try rw [hb]) | refine rD ?_ | refine rA ?_ | fail) <;> try simp only [go_sem, simprocAttr, m8, r8, one_go]))
  ·rw [if_neg hb] at e1
   rw [e1, if_neg (by decide)] at e2
   rw [e1, e2]
   have hbI : ¬ (((who ||| C) / 2 ^ (txns h).length : Nat) : Int) = 0 := by omega
   (refine rO ?_; repeat' ((with_reducible first | refine rG ?_ | (refine rS ?_ ?_ <;> intro hp) | (refine rB ?_ ?_ <;> intro hb <;> try rw [hb]) | refine rD ?_ | refine rA ?_ | fail) <;> try simp only [go_sem, simprocAttr]))
   refine call_dat hm ?_
   (refine rO ?_; repeat' ((with_reducible first | refine rG ?_ | (refine rS ?_ ?_ <;> intro hp) | (refine rB ?_ ?_ <;> intro hb <;> try rw [hb]) | refine rD ?_ | refine rA ?_ | fail) <;> try simp only [go_sem, simprocAttr, hor, hshr, hal, List.length_map, hbI]))
   refine SemOp.old ?_
   (refine rO ?_; repeat' ((with_reducible first | refine rG ?_ | (refine rS ?_ ?_ <;> intro hp) | (refine rB ?_ ?_ <;> intro hb <;> try rw [hb]) | refine rD ?_ | refine rA ?_ | fail) <;> try simp only [go_sem, simprocAttr, y_build0]))
   rfl
 ·have e1 : rowE h who C n = maySE h n := by rw [rowE, if_neg hM]
  rw [e1, if_neg hM] at e2
  rw [maySV, if_neg hM] at hm
  rw [e1, e2]
  (refine rO ?_; repeat' ((with_reducible first | refine rG ?_ | (refine rS ?_ ?_ <;> intro hp) | (refine rB ?_ ?_ <;> intro hb <;> try rw [hb]) | refine rD ?_ | refine rA ?_ | fail) <;> try simp only [go_sem, simprocAttr]))
  refine call_dat hm ?_
  (refine rO ?_; repeat' ((with_reducible first | refine rG ?_ | (refine rS ?_ ?_ <;> intro hp) | (refine rB ?_ ?_ <;> intro hb <;> try rw [hb]) | refine rD ?_ | refine rA ?_ | fail) <;> try simp only [go_sem, simprocAttr, hM]))
  refine SemOp.old ?_
  (refine rO ?_; repeat' ((with_reducible first | refine rG ?_ | (refine rS ?_ ?_ <;> intro hp) | (refine rB ?_ ?_ <;> intro hb <;> try rw [hb]) | refine rD ?_ | refine rA ?_ | fail) <;> try simp only [go_sem, simprocAttr, y_build0]))
  rfl
end Go.VC
end
section
set_option maxRecDepth 100000
namespace Go.VC
open Go.RowKit Go.Proofs Go.IntWalk
theorem stT (h : List Ev) : StT (txns h) := fun t ht => by
 unfold txns at ht
 split at ht
 ·rename_i h0
  obtain ⟨kp, hk, rfl⟩ := List.mem_map.1 ht
  have := ((tabT (check_wfl h0) h.length (Nat.le_refl _)).told kp hk).st
  show kp.st ≤ 3
  rw [this]
  unfold stateOf
  (repeat' split) <;> decide
 ·cases ht
end Go.VC
end
section
set_option maxRecDepth 100000
namespace Go.VC
open Go.RowKit Go.Proofs Go.IntWalk
theorem t1133 (a b : List Int) : Holds Tryz.prog GL 44 [intsA a, intsA b] [.a (B (a == b))] := by
 refine fn_holds_is (vs := [.tmp 4]) (by kernel_rfl) Tryz.func44 rfl rfl (by kernel_rfl) (by kernel_rfl) rfl fun his => ?_
 have hlen := his.1.len
 rw [List.length_map] at hlen
 (refine rO ?_; repeat' ((with_reducible first | refine rG ?_ | (refine rS ?_ ?_ <;> intro hp) | (refine rB ?_ ?_ <;> intro hb <;> try rw [hb]) | refine rD ?_) <;> try simp only [go_sem, simprocAttr, List.length_map]))
 ·have hab := hp
  refine awp_loopA (fun k : Nat => [(0, .a (intsA a)), (1, .a (intsA b)), (12, .a (I a.length)), (13, .a (I k))]) (fun _ => []) (fun k => k ≤ a.length ∧ a.take k = b.take k) (a.length - ·) 0 ?_ ?_ ⟨Nat.zero_le _, rfl⟩ ?_
  ·simp only [go_sem, simprocAttr] <;> rfl
  ·simp only [go_sem, simprocAttr]
  intro k j ⟨hk, hl⟩
  (refine rO ?_; repeat' ((with_reducible first | refine rG ?_ | (refine rS ?_ ?_ <;> intro hp) | (refine rB ?_ ?_ <;> intro hb <;> try rw [hb]) | refine rD ?_) <;> try simp only [go_sem, simprocAttr]))
  ·have hkl : k < a.length := by omega
   have hkb : k < b.length := by omega
   have hx : a[k]? = some a[k] := List.getElem?_eq_getElem hkl
   have hy : b[k]? = some b[k] := List.getElem?_eq_getElem hkb
   have hw := wrap_succ hkl hlen
   (refine rO ?_; repeat' ((with_reducible first | refine rG ?_ | (refine rS ?_ ?_ <;> intro hp) | (refine rB ?_ ?_ <;> intro hb <;> try rw [hb]) | refine rD ?_) <;> try simp only [go_sem, simprocAttr, hx, hy, ienc_eq, hw]))
   ·exact ⟨k + 1, by simp only [go_sem, simprocAttr], by simp only [go_sem, simprocAttr], ⟨hkl, by rw [List.take_succ_eq_append_getElem hkl, List.take_succ_eq_append_getElem hkb, hl, hp]⟩, by dsimp only; omega⟩
   ·have : a ≠ b := fun e => by subst e; exact hp rfl
    simp [this]
  ·have : a = b := by
    rw [List.take_of_length_le (by omega), List.take_of_length_le (by omega)] at hl; exact hl
   simp [this]
 ·have : a ≠ b := fun e => by subst e; exact hp rfl
  simp [this]
theorem t1062 (a b : Fd) : Holds Tryz.prog GL 27 [a.a, b.a] [.a (B (sameFd a b))] := by
 refine fn_holds (vs := [.tmp 4]) (by kernel_rfl) Tryz.func27 rfl rfl (by kernel_rfl) (by kernel_rfl) rfl ?_
 have h34 := t1133 a.row b.row
 unfold sameFd
 obtain ⟨av, ac, ar, as_⟩ := a
 obtain ⟨bv, bc, br, bs⟩ := b
 simp only at h34 ⊢
 generalize (ar == br) = e at h34
 (refine rO ?_; repeat' ((with_reducible first | refine rG ?_ | (refine rS ?_ ?_ <;> intro hp) | (refine rB ?_ ?_ <;> intro hb <;> try rw [hb]) | refine rD ?_ | refine rA ?_ | fail) <;> try simp only [go_sem, simprocAttr]))
 ·refine call_dat h34 ?_
  (refine rO ?_; repeat' ((with_reducible first | refine rG ?_ | (refine rS ?_ ?_ <;> intro hp) | (refine rB ?_ ?_ <;> intro hb <;> try rw [hb]) | refine rD ?_ | refine rA ?_ | fail) <;> try simp only [go_sem, simprocAttr]))
  all_goals simp_all
 all_goals simp_all
end Go.VC
end
section
set_option maxRecDepth 100000
namespace Go.VC
open Go.RowKit
section
variable {P : Program} {gl : Nat → Option (List D)} {σ : S} {o : Oper} {d : Nat} {x : Ob}
def allocS (σ : S) (d : Nat) (x : Ob) : S := (σ.newOb d x).put (some d) (.ref d 0)
theorem const_kill (v : Value) : (constR v).kill d = constR v := by
 unfold constR
 (repeat' split) <;> rfl
theorem eval_alloc {y : Operand} (h : y ≠ .tmp d) : (allocS σ d x).eval gl y = (σ.eval gl y).kill d := by
 cases y with
 | tmp t =>
  have ht : t ≠ d := fun e => h (by rw [e])
  simp [allocS, S.eval, S.put, S.newOb, upd, ht]
 | const v => exact (const_kill v).symm
 | global g => simp only [S.eval]; split <;> rfl
 | func f => rfl
theorem kill_inv {r r' : R} (h : r.kill d = r') (hn : r' ≠ .any) : r = r' ∧ r.says d = false := by
 unfold R.kill at h
 cases hs : r.says d with
 | true => rw [hs, if_pos rfl] at h; exact absurd h.symm hn
 | false => rw [hs] at h; exact ⟨by simpa using h, rfl⟩
theorem mem_alloc {o' : Nat} (h : o' ≠ d) : (allocS σ d x).mem o' = (σ.mem o').map (Ob.kill d) := by
 simp [allocS, S.put, S.newOb, upd, h]
theorem kbox_inv {z : Ob} {cs' : List R} (h : Ob.kill d z = .box cs') : ∃ cs, z = .box cs ∧ cs' = cs.map (R.kill d) := by
 cases z with
 | box cs => cases h; exact ⟨cs, rfl, rfl⟩
 | sem y => simp only [Ob.kill] at h; split at h <;> cases h
 | _ => cases h
theorem klog_inv {z : Ob} {e s : Nat} {xs : List (List D)} (h : Ob.kill d z = .log e s xs) : z = .log e s xs := by
 cases z with
 | log => exact h
 | sem y => simp only [Ob.kill] at h; split at h <;> cases h
 | _ => cases h
theorem kmpo_inv {z : Ob} {kv : List (Int × D)} (h : Ob.kill d z = .mpo kv) : z = .mpo kv := by
 cases z with
 | mpo => exact h
 | sem y => simp only [Ob.kill] at h; split at h <;> cases h
 | _ => cases h
theorem allD_kill : ∀ {cs : List R} {ds : List D}, allD (cs.map (R.kill d)) = some ds → allD cs = some ds
 | [], ds, h => h
 | c :: cs, ds, h => by
  rw [List.map_cons] at h
  cases hc : c.kill d with
  | a y =>
   rw [hc] at h
   obtain ⟨rfl, _⟩ := kill_inv hc (by simp)
   cases y with
   | d y =>
    simp only [allD] at h ⊢
    obtain ⟨ds', h1, rfl⟩ := Option.map_eq_some_iff.1 h
    rw [allD_kill h1]; rfl
   | ag ys => simp [allD] at h
  | _ => rw [hc] at h; simp [allD] at h
theorem says_ref {o' off : Nat} (h : (R.ref o' off).says d = false) : o' ≠ d := by simpa [R.says, R.says0] using h
theorem says_eref {o' i s j : Nat} (h : (R.eref o' i s j).says d = false) : o' ≠ d := by simpa [R.says, R.says0] using h
theorem says_own {o' : Nat} (h : (R.own o').says d = false) : o' ≠ d := by simpa [R.says, R.says0] using h
theorem says_omp {o' : Nat} (h : (R.omp o').says d = false) : o' ≠ d := by simpa [R.says, R.says0] using h
theorem not_says {r : R} (h : r.says d = false) : r.kill d = r := by rw [R.kill, h]; rfl
theorem load_kill {t : TypeId} {p r : R} (h : loadR P (allocS σ d x) t (p.kill d) = some r) : ∃ r', loadR P σ t p = some r' ∧ r'.kill d = r := by
 unfold loadR at h ⊢
 split at h
 ·cases h
 ·rename_i ti hti
  split at h
  ·rename_i o' off hp
   obtain ⟨rfl, hs⟩ := kill_inv hp (by simp)
   rw [mem_alloc (says_ref hs)] at h
   split at h
   ·rename_i cs' hm
    obtain ⟨z, hz, hk⟩ := Option.map_eq_some_iff.1 hm
    obtain ⟨cs, rfl, rfl⟩ := kbox_inv hk
    simp only [hz]
    split at h
    ·split at h
     ·obtain ⟨ds, h1, rfl⟩ := Option.map_eq_some_iff.1 h
      rw [← List.map_drop, ← List.map_take] at h1
      rename_i hle
      rw [List.length_map] at hle
      exact ⟨.a (.ag ds), by rw [if_pos hle, allD_kill h1]; rfl, rfl⟩
     ·cases h
    ·rw [List.getElem?_map] at h
     obtain ⟨r', h1, rfl⟩ := Option.map_eq_some_iff.1 h
     exact ⟨r', h1, rfl⟩
   ·cases h
  ·rename_i cs hp
   obtain ⟨rfl, _⟩ := kill_inv hp (by simp)
   refine ⟨r, h, ?_⟩
   split at h
   ·split at h
    ·cases h; rfl
    ·cases h
   ·obtain ⟨y, _, rfl⟩ := Option.map_eq_some_iff.1 h; rfl
  ·rename_i o' i s j hp
   obtain ⟨rfl, hs⟩ := kill_inv hp (by simp)
   rw [mem_alloc (says_eref hs)] at h
   split at h
   ·rename_i e' s' xs hm
    obtain ⟨z, hz, hk⟩ := Option.map_eq_some_iff.1 hm
    obtain rfl := klog_inv hk
    simp only [hz]
    refine ⟨r, h, ?_⟩
    (repeat' split at h) <;> first | (cases h; done) | (cases h; rfl) | (obtain ⟨y, _, rfl⟩ := Option.map_eq_some_iff.1 h; rfl) | (simp at h; obtain ⟨_, rfl⟩ := h; rfl)
   ·cases h
  ·cases h
theorem arg_kill {r : R} {y : A} (h : argA (allocS σ d x) (r.kill d) = some y) : argA σ r = some y := by
 cases hs : r.says d with
 | true => rw [R.kill, hs] at h; simp [argA] at h
 | false =>
  rw [not_says hs] at h
  cases r with
  | own o' =>
   simp only [argA] at h ⊢
   rw [mem_alloc (says_own hs)] at h
   split at h
   ·rename_i hm
    obtain ⟨z, hz, hk⟩ := Option.map_eq_some_iff.1 hm
    obtain rfl := klog_inv hk
    rw [hz]; exact h
   ·cases h
  | omp o' =>
   simp only [argA] at h ⊢
   rw [mem_alloc (says_omp hs)] at h
   split at h
   ·rename_i hm
    obtain ⟨z, hz, hk⟩ := Option.map_eq_some_iff.1 hm
    obtain rfl := kmpo_inv hk
    rw [hz]; exact h
   ·cases h
  | ref o' off =>
   simp only [argA] at h ⊢
   rw [mem_alloc (says_ref hs)] at h
   split at h
   ·rename_i hm
    obtain ⟨z, hz, hk⟩ := Option.map_eq_some_iff.1 hm
    obtain ⟨cs, rfl, rfl⟩ := kbox_inv hk
    obtain ⟨ds, h1, rfl⟩ := Option.map_eq_some_iff.1 h
    rw [hz]
    simp only [allD_kill h1, Option.map_some]
   ·cases h
  | _ => exact h
theorem args_kill : ∀ {rs : List R} {ys : List A}, argsA (allocS σ d x) (rs.map (R.kill d)) = some ys → argsA σ rs = some ys
 | [], ys, h => h
 | r :: rs, ys, h => by
  rw [List.map_cons] at h
  simp only [argsA] at h ⊢
  split at h
  ·rename_i h1 h2
   rw [arg_kill h1, args_kill h2]; exact h
  ·cases h
theorem map_kill : ∀ {rs : List R} {ys : List A}, rs.map (R.kill d) = ys.map R.a → rs = ys.map R.a
 | [], [], _ => rfl
 | [], a :: ys, h => by cases h
 | r :: rs, [], h => by cases h
 | r :: rs, a :: ys, h => by
  simp only [List.map_cons, List.cons.injEq] at h ⊢
  exact ⟨(kill_inv h.1 (by simp)).1, map_kill h.2⟩
theorem ret_kill {res : List A} : (retR res).kill d = retR res := by
 cases res with
 | nil => rfl
 | cons a ys =>
  cases ys with
  | nil => rfl
  | cons b ys =>
   refine not_says ?_
   simp [retR, one, R.says, R.says0]
def killO (o : Oper) : Bool := o.guard.isNone && match o.op with
 | .move _ | .load _ _ | .fieldAddr _ _ _ | .indexAddr _ _ _ | .binOp _ _ _ _ _ | .extract _ _ | .slice _ _ _ _ _ | .build _ _ => true
 | .call k => match k.callee with
  | .value _ => true
  | _ => false
 | _ => false
theorem bnd_kill {n q : Int} : ∀ {l : Option Operand}, (∀ y, l = some y → y ≠ .tmp d) → bnd (allocS σ d x) gl n l = some q → bnd σ gl n l = some q
 | none, _, h => h
 | some y, hl, h => by
  unfold bnd at h ⊢
  dsimp only at h ⊢
  rw [eval_alloc (hl y rfl)] at h
  split at h
  ·rename_i e
   rw [(kill_inv e (by simp)).1]; exact h
  ·cases h
theorem sliceK_kill {xs : List (List D)} {sz : Nat} {l l' h h' : Option Int} {m m' : Option (Option Int)} {K : R → Prop} (hl : ∀ q, l = some q → l' = some q) (hh : ∀ q, h = some q → h' = some q) (hn : m = none → m' = none) (hm : ∀ q, m = some (some q) → m' = some (some q)) (hK : sliceK xs sz l h m K) : sliceK xs sz l' h' m' fun r => K (r.kill d) := by
 unfold sliceK at hK ⊢
 cases l with
 | none => exact hK.elim
 | some a =>
  cases h with
  | none => exact hK.elim
  | some b =>
   rw [hl _ rfl, hh _ rfl]
   dsimp only at hK ⊢
   obtain ⟨h1, h2, h3, h4, h5⟩ := hK
   refine ⟨h1, h2, h3, h4, ?_⟩
   cases m with
   | none => rw [hn rfl]; exact h5
   | some m =>
    cases m with
    | none => exact h5.elim
    | some q => rw [hm _ rfl]; exact h5
theorem partsD_kill : ∀ {l : List (Nat × Operand)} {ps : List (Nat × A)}, (∀ p ∈ l, p.2 ≠ .tmp d) → partsD (allocS σ d x) gl l = some ps → partsD σ gl l = some ps
 | [], ps, _, h => h
 | (i, y) :: rest, ps, hl, h => by
  unfold partsD at h ⊢
  rw [eval_alloc (hl _ (List.mem_cons_self ..))] at h
  split at h
  ·rename_i z zs h1 h2
   have e1 : dataA (σ.eval gl y) = some z := by
    cases hs : (σ.eval gl y).says d with
    | true => rw [R.kill, hs] at h1; cases h1
    | false => rw [not_says hs] at h1; exact h1
   rw [e1, partsD_kill (fun p hp => hl p (List.mem_cons_of_mem _ hp)) h2]; exact h
  ·cases h
theorem says_at {r : R} (h : r.says0 d = false) : r.says d = false := by
 cases r <;> first | exact h | (simp [R.says0] at h)
theorem opQ_kill {K : R → Prop} (hk : killO o = true) (hop : ∀ y ∈ o.op.operands, y ≠ .tmp d) (h : opQ P gl o (allocS σ d x) K) : opQ P gl o σ fun r => K (r.kill d) := by
 unfold opQ at h ⊢
 unfold killO at hk
 cases ho : o.op <;> simp only [ho, Bool.and_false, Bool.false_eq_true] at hk h hop ⊢
 case move y => rw [eval_alloc (hop y (by simp [Op.operands]))] at h; exact h
 case load t p =>
  rw [eval_alloc (hop p (by simp [Op.operands]))] at h
  split at h
  ·rename_i r hr
   obtain ⟨r', h1, rfl⟩ := load_kill hr
   rw [h1]; exact h
  ·exact h.elim
 case fieldAddr t p f =>
  rw [eval_alloc (hop p (by simp [Op.operands]))] at h
  split at h
  ·split at h
   ·obtain ⟨h0, h⟩ := h
    refine ⟨h0, ?_⟩
    split at h
    ·rename_i hp
     obtain ⟨e, hs⟩ := kill_inv hp (by simp)
     rw [e] at hs
     rw [e]
     dsimp only
     rw [not_says (by simpa [R.says, R.says0] using hs)]; exact h
    ·rename_i hp
     obtain ⟨e, hs⟩ := kill_inv hp (by simp)
     rw [e]; exact h
    ·rename_i hp
     obtain ⟨e, hs⟩ := kill_inv hp (by simp)
     rw [e] at hs
     rw [e]
     dsimp only
     rw [not_says (by simpa [R.says, R.says0] using hs)]; exact h
    ·exact h.elim
   ·exact h.elim
  ·exact h.elim
 case indexAddr t y i =>
  rw [eval_alloc (hop y (by simp [Op.operands])), eval_alloc (hop i (by simp [Op.operands]))] at h
  split at h
  ·rename_i hi
   obtain ⟨ei, _⟩ := kill_inv hi (by simp)
   rw [ei]
   dsimp only
   split at h
   ·split at h
    ·split at h
     ·rename_i hp
      obtain ⟨e, hs⟩ := kill_inv hp (by simp)
      rw [e]; exact h
     ·rename_i hp
      obtain ⟨e, hs⟩ := kill_inv hp (by simp)
      rw [e]; exact h
     ·rename_i hp
      obtain ⟨e, hs⟩ := kill_inv hp (by simp)
      rw [e] at hs
      rw [mem_alloc (says_own hs)] at h
      split at h
      ·rename_i hm
       obtain ⟨z, hz, hkz⟩ := Option.map_eq_some_iff.1 hm
       obtain rfl := klog_inv hkz
       rw [e]
       dsimp only
       rw [hz]
       dsimp only
       unfold idxK at h ⊢
       refine ⟨h.1, ?_⟩
       have h2 := h.2
       split at h2
       ·refine ⟨h2.1, ?_⟩
        rw [not_says (by simpa [R.says, R.says0] using hs)]; exact h2.2
       ·exact h2
      ·exact h.elim
     ·exact h.elim
    ·exact h.elim
   ·split at h
    ·obtain ⟨h0, h1, h⟩ := h
     refine ⟨h0, h1, ?_⟩
     split at h
     ·rename_i hp
      obtain ⟨e, hs⟩ := kill_inv hp (by simp)
      rw [e] at hs
      rw [e]
      dsimp only
      rw [not_says (by simpa [R.says, R.says0] using hs)]; exact h
     ·rename_i hp
      obtain ⟨e, hs⟩ := kill_inv hp (by simp)
      rw [e]; exact h
     ·exact h.elim
    ·exact h.elim
   ·exact h.elim
  ·exact h.elim
 case binOp op t y z ty =>
  rw [eval_alloc (hop y (by simp [Op.operands])), eval_alloc (hop z (by simp [Op.operands]))] at h
  cases hy : (σ.eval gl y).says d with
  | true =>
   rw [show (σ.eval gl y).kill d = .any by rw [R.kill, hy]; rfl] at h
   exact False.elim h
  | false =>
   rw [not_says hy] at h
   cases hz : (σ.eval gl z).says d with
   | true =>
    rw [show (σ.eval gl z).kill d = .any by rw [R.kill, hz]; rfl] at h
    split at h <;> first | exact h.elim | (rename_i e2; cases e2)
   | false => rw [not_says hz] at h; exact h
 case extract y i =>
  rw [eval_alloc (hop y (by simp [Op.operands]))] at h
  split at h
  ·rename_i rs hp
   obtain ⟨e, hs⟩ := kill_inv hp (by simp)
   rw [e] at hs
   rw [e]
   dsimp only
   split at h
   ·rename_i r hr
    have : r.says d = false := says_at (by
     have := List.mem_of_getElem? hr
     simp only [R.says, List.any_eq_false] at hs
     simpa using hs r this)
    show K (r.kill d)
    rw [not_says this]; exact h
   ·exact h.elim
  ·exact h.elim
 case slice t y l hi m =>
  have hy : y ≠ .tmp d := hop y (by simp [Op.operands])
  have h1 : ∀ z, l = some z → z ≠ .tmp d := fun z e => hop z (by simp [Op.operands, e])
  have h2 : ∀ z, hi = some z → z ≠ .tmp d := fun z e => hop z (by simp [Op.operands, e])
  have h3 : ∀ z, m = some z → z ≠ .tmp d := fun z e => hop z (by simp [Op.operands, e])
  have hm : ∀ q : Int, (m.map fun y => bnd (allocS σ d x) gl 0 (some y)) = some (some q) → (m.map fun y => bnd σ gl 0 (some y)) = some (some q) := fun q e => by
   cases m with
   | none => cases e
   | some z =>
    simp only [Option.map_some, Option.some.injEq] at e ⊢
    exact bnd_kill (fun y e => by cases e; exact h3 z rfl) e
  have hm0 : (m.map fun y => bnd (allocS σ d x) gl 0 (some y)) = none → (m.map fun y => bnd σ gl 0 (some y)) = none := fun e => by
   cases m with
   | none => rfl
   | some z => cases e
  rw [eval_alloc hy] at h
  split at h
  ·split at h
   ·split at h
    ·rename_i hp
     rw [(kill_inv hp (by simp)).1]
     exact ⟨h.1, sliceK_kill (fun q => bnd_kill h1) (fun q => bnd_kill h2) hm0 hm h.2⟩
    ·rename_i hp
     rw [(kill_inv hp (by simp)).1]
     exact ⟨h.1, sliceK_kill (fun q => bnd_kill h1) (fun q => bnd_kill h2) hm0 hm h.2⟩
    ·exact h.elim
   ·exact h.elim
  ·exact h.elim
 case build t ps =>
  split at h
  ·rename_i ds e
   obtain ⟨qs, e1, e2⟩ := Option.bind_eq_some_iff.1 e
   rw [partsD_kill (fun p hp => hop p.2 (by simp only [Op.operands, List.mem_toArray, List.mem_map]; exact ⟨p, by simpa using hp, rfl⟩)) e1, Option.bind_some, e2]
   exact h
  ·exact h.elim
 case call k =>
  have hargs : ∀ y ∈ k.args.toList, y ≠ .tmp d := fun y hy => hop y (by simp only [Op.operands, Call.operands]; rw [Array.mem_append]; right; simpa using hy)
  cases hc : k.callee with
  | builtin b => rw [hc] at hk; simp at hk
  | invoke r m => rw [hc] at h; exact h.elim
  | value f =>
   rw [hc] at h
   dsimp only at h ⊢
   rw [eval_alloc (hop f (by simp [Op.operands, Call.operands, hc]))] at h
   have e : k.args.toList.map ((allocS σ d x).eval gl) = (k.args.toList.map (σ.eval gl)).map (R.kill d) := by
    rw [List.map_map]; exact List.map_congr_left fun y hy => eval_alloc (hargs y hy)
   rw [e] at h
   split at h
   ·rename_i g caps hf
    obtain ⟨ef, _⟩ := kill_inv hf (by simp)
    rw [ef]
    dsimp only
    obtain ⟨ys, res, h1, h2, h3, h4⟩ := h
    have ec : (caps.map fun d => R.a (.d d)) = (caps.map fun d => R.a (.d d)).map (R.kill d) := by rw [List.map_map]; rfl
    rw [ec, ← List.map_append] at h1 h3
    refine ⟨ys, res, args_kill h1, h2, h3.imp id map_kill, ?_⟩
    show K ((retR res).kill d)
    rw [ret_kill]; exact h4
   ·exact h.elim
variable {ops : Array Oper}
theorem store_put {t : TypeId} {p r : R} {dst : Option Tmp} {u : R} : storeR P (σ.put dst u) t p r = (storeR P σ t p r).map fun σ' => σ'.put dst u := by
 cases dst with
 | none => simp [S.put]
 | some e =>
  unfold storeR
  have hm : (σ.put (some e) u).mem = σ.mem := rfl
  rw [hm]
  (repeat' split) <;> first | rfl | simp_all
def Comm (P : Program) (gl : Nat → Option (List D)) (ops : Array Oper) (oi oj : Oper) : Prop :=
 ∀ (σ : S) (r : R) (K : S → Prop), Tells P gl ops oi r σ → stD P gl ops oj (σ.put oi.dst r) K → stD P gl ops oj σ fun σ' => Tells P gl ops oi r σ' ∧ K (σ'.put oi.dst r)
theorem Comm.quiet {oi oj : Oper} (hq : quietO oj = true) (ha : oi.apart ops oj = true) : Comm P gl ops oi oj := fun σ r K hy h => st_put hq ha hy h
def regsO (o : Oper) : Bool := o.guard.isNone && match o.op with
 | .extract _ _ | .move _ => true
 | _ => false
theorem tells_set {oi : Oper} {r : R} {σ' : S} (hi : regsO oi = true) (he : σ'.regs = σ.regs) (h : Tells P gl ops oi r σ) : Tells P gl ops oi r σ' := by
 unfold regsO at hi
 simp only [Bool.and_eq_true, Option.isNone_iff_eq_none] at hi
 obtain ⟨hg, hi⟩ := hi
 have hev : ∀ y, σ'.eval gl y = σ.eval gl y := fun y => by cases y <;> simp [S.eval, he]
 have hw : ∀ τ, wantA ops oi τ = some true := fun τ => by simp [wantA, hg]
 rcases h with ⟨_, h2⟩ | ⟨h1, _⟩
 ·refine .inl ⟨hw _, fun K hk => ?_⟩
  have := h2 K hk
  unfold opQ at this ⊢
  split at hi
  ·rename_i y i ho
   rw [ho] at this ⊢
   dsimp only at this ⊢
   rw [hev]; exact this
  ·rename_i y ho
   rw [ho] at this ⊢
   dsimp only at this ⊢
   rw [hev]; exact this
  ·cases hi
 ·rw [hw] at h1; cases h1
theorem Comm.store {oi oj : Oper} {t : TypeId} {p y : Operand} (hj : oj.op = .store t p y) (hjd : oj.dst = none) (hjg : oj.guard = none) (hi : regsO oi = true) (ha : oi.apart ops oj = true) : Comm P gl ops oi oj := fun σ r K hy h => by
 obtain ⟨h1, _, _⟩ := Oper.apart_spec ha
 have hq : quietO oj = false := by unfold quietO; rw [hj]
 have hx : isX P oj = false := by unfold isX; rw [hj]
 have hw : ∀ τ, wantA ops oj τ = some true := fun τ => by simp [wantA, hjg]
 have hst : ∀ (τ : S) (K : S → Prop), stD P gl ops oj τ K = (match storeR P τ t (τ.eval gl p) (τ.eval gl y) with | some σ' => K σ' | none => False) := fun τ K => by
  unfold stD inD opA
  rw [hw, hq, hx]
  simp only [opA0, hj, hjd, S.put]
  cases storeR P τ t (τ.eval gl p) (τ.eval gl y) <;> rfl
 rw [hst] at h ⊢
 have e1 : (σ.put oi.dst r).eval gl p = σ.eval gl p := eval_put (looks_op (by rw [hj]; simp [Op.operands]) h1)
 have e2 : (σ.put oi.dst r).eval gl y = σ.eval gl y := eval_put (looks_op (by rw [hj]; simp [Op.operands]) h1)
 rw [e1, e2, store_put] at h
 cases hs : storeR P σ t (σ.eval gl p) (σ.eval gl y) with
 | none => rw [hs] at h; exact h
 | some σ' =>
  rw [hs] at h
  refine ⟨tells_set hi ?_ hy, h⟩
  unfold storeR at hs
  (repeat' split at hs) <;> first | (cases hs; rfl) | (cases hs; done) | simp_all
theorem any_first2 {K : S → Prop} {dep : Nat → Bool} {i : Nat} {oi : Oper} {r : R} (hi : ops[i]? = some oi) (hqi : quietO oi = true) :
  ∀ (fuel : Nat) (listed : Array Bool) (σ : S),
   (∀ j, dep j = true → listed.getD j true = false ∧ ∃ oj, ops[j]? = some oj ∧ ∃ e ∈ oj.after, Region.binds .any e = true ∧ (e.on = i ∨ dep e.on = true)) →
   (∀ j oj, ops[j]? = some oj → j ≠ i → listed.getD j true = false → dep j = false → Comm P gl ops oi oj ∧ ∀ (τ : S) (K K' : S → Prop), (∀ σ, K σ → K' σ) → stD P gl ops oj τ K → stD P gl ops oj τ K') →
   i ∈ Region.ready .any ops listed → Tells P gl ops oi r σ → anyA P gl ops K fuel (listed.setIfInBounds i true) (σ.put oi.dst r) → anyA P gl ops K (fuel + 1) listed σ := by
 intro fuel
 induction fuel with
 | zero =>
  intro listed σ hdep hfree hr hy H
  refine ⟨fun h => (by rw [h] at hr; cases hr), fun j hj oj hoj => ?_⟩
  by_cases hji : j = i
  ·subst hji; rw [hi] at hoj; cases hoj; exact hy.st hqi H
  ·have := ready_mono hj hji
   rw [H.1] at this
   cases this
 | succ fuel ih =>
  intro listed σ hdep hfree hr hy H
  refine ⟨fun h => (by rw [h] at hr; cases hr), fun j hj oj hoj => ?_⟩
  by_cases hji : j = i
  ·subst hji; rw [hi] at hoj; cases hoj; exact hy.st hqi H
  ·have h1 := H.2 j (ready_mono hj hji) oj hoj
   obtain ⟨hjun, oj', hoj', hall⟩ := mem_ready.1 hj
   rw [hoj] at hoj'; cases hoj'
   have key : ∀ m, listed.getD m true = false → listed.getD m false = true → False := fun m h0 h1 => by
    rcases Nat.lt_or_ge m listed.size with h' | h'
    ·simp [h'] at h0 h1; rw [h0] at h1; cases h1
    ·simp [Array.getElem?_eq_none h'] at h1
   have hnot : dep j = false := by
    cases hdj : dep j with
    | false => rfl
    | true =>
     obtain ⟨_, oj', ho', e, he, hb, hon⟩ := hdep j hdj
     rw [hoj] at ho'; cases ho'
     have h9 := hall e he hb
     rcases hon with hon | hon
     ·rw [hon] at h9; exact (key _ (mem_ready.1 hr).1 h9).elim
     ·exact (key _ (hdep _ hon).1 h9).elim
   obtain ⟨hcm, hmn⟩ := hfree j oj hoj hji hjun hnot
   have h2 := hcm σ r _ hy h1
   have hfree' : ∀ k ok, ops[k]? = some ok → k ≠ i → (listed.setIfInBounds j true).getD k true = false →
     dep k = false → Comm P gl ops oi ok ∧ ∀ (τ : S) (K K' : S → Prop), (∀ σ, K σ → K' σ) → stD P gl ops ok τ K → stD P gl ops ok τ K' := fun k ok hk hki hun hno => by
    refine hfree k ok hk hki ?_ hno
    by_cases hjk : j = k
    ·subst hjk; exact hjun
    ·rw [getD_set_ne true hjk] at hun; exact hun
   have hdep' : ∀ k, dep k = true → (listed.setIfInBounds j true).getD k true = false ∧ ∃ oj, ops[k]? = some oj ∧ ∃ e ∈ oj.after, Region.binds .any e = true ∧ (e.on = i ∨ dep e.on = true) := fun k hk => by
    have hjk : j ≠ k := fun e => by rw [e, hk] at hnot; cases hnot
    exact ⟨by rw [getD_set_ne true hjk]; exact (hdep k hk).1, (hdep k hk).2⟩
   refine hmn _ _ _ (fun σ' h3 => ih (listed.setIfInBounds j true) σ' hdep' hfree' (ready_mono hr (Ne.symm hji)) h3.1 ?_) h2
   rw [Array.setIfInBounds_comm _ _ hji]
   exact h3.2
theorem allocS_put {dst : Option Tmp} {r : R} (h : dst ≠ some d) : allocS (σ.put dst r) d x = (allocS σ d x).put dst (r.kill d) := by
 cases dst with
 | none => rfl
 | some e =>
  have he : e ≠ d := fun e' => h (by rw [e'])
  simp only [allocS, S.put, S.newOb]
  congr 1
  funext t
  simp only [upd]
  by_cases h1 : t = d
  ·subst h1
   rw [if_pos rfl, if_neg (Ne.symm he), if_pos rfl]
  ·rw [if_neg h1]
   by_cases h2 : t = e
   ·subst h2; rw [if_pos rfl, if_pos rfl]
   ·rw [if_neg h2, if_neg h2, if_neg h1]
theorem st_alloc {oi oj : Oper} (hid : oi.dst = some d) (hq : quietO oj = true) (hk : killO oj = true) (ha : oi.apart ops oj = true) {K : S → Prop} (h : stD P gl ops oj (allocS σ d x) K) : stD P gl ops oj σ fun σ' => K (allocS σ' d x) := by
 obtain ⟨h1, h2, _⟩ := Oper.apart_spec ha
 have hg : oj.guard = none := by unfold killO at hk; simp only [Bool.and_eq_true, Option.isNone_iff_eq_none] at hk; exact hk.1
 have hw : ∀ τ, wantA ops oj τ = some true := fun τ => by simp [wantA, hg]
 unfold stD inD at h ⊢
 rw [hw, hq] at h ⊢
 dsimp only at h ⊢
 have := opQ_kill hk (fun y hy e => looks_op hy h1 d hid e) h
 refine opQ_mono (fun r hr => ?_) this
 rw [allocS_put (h2 d hid)]; exact hr
theorem stD_monoA {K K' : S → Prop} (hk : ∀ σ, K σ → K' σ) (h : stD P gl ops o σ K) : stD P gl ops o σ K' := by
 unfold stD inD at h ⊢
 split at h
 ·split at h
  ·exact opQ_mono (fun r hr => hk _ hr) h
  ·exact opA_mono hk h
 ·exact hk _ h
 ·exact h
theorem st_allocS {oi : Oper} {t : TypeId} {cs : List R} (hop : oi.op = .alloc t) (hid : oi.dst = some d) (hg : oi.guard = none) (hz : (tinf P t).bind zR = some cs) {K : S → Prop} : stD P gl ops oi σ K ↔ K (allocS σ d (.box cs)) := by
 obtain ⟨dst, op, ty, pos, after, g⟩ := oi
 dsimp only at hop hid hg
 subst hop hid hg
 unfold stD inD
 have hw : wantA ops ⟨some d, .alloc t, ty, pos, after, none⟩ σ = some true := rfl
 rw [hw]
 show opA P gl _ σ K ↔ _
 rw [y_alloc, hz]
 rfl
theorem any_firstA {K : S → Prop} {dep : Nat → Bool} {i : Nat} {oi : Oper} {t : TypeId} {cs : List R} (hi : ops[i]? = some oi) (hop : oi.op = .alloc t) (hid : oi.dst = some d) (hg : oi.guard = none) (hz : (tinf P t).bind zR = some cs) :
  ∀ (fuel : Nat) (listed : Array Bool) (σ : S),
   (∀ j, dep j = true → listed.getD j true = false ∧ ∃ oj, ops[j]? = some oj ∧ ∃ e ∈ oj.after, Region.binds .any e = true ∧ (e.on = i ∨ dep e.on = true)) →
   (∀ j oj, ops[j]? = some oj → j ≠ i → listed.getD j true = false → dep j = false → quietO oj = true ∧ killO oj = true ∧ oi.apart ops oj = true) →
   i ∈ Region.ready .any ops listed → anyA P gl ops K fuel (listed.setIfInBounds i true) (allocS σ d (.box cs)) → anyA P gl ops K (fuel + 1) listed σ := by
 intro fuel
 induction fuel with
 | zero =>
  intro listed σ hdep hfree hr H
  refine ⟨fun h => (by rw [h] at hr; cases hr), fun j hj oj hoj => ?_⟩
  by_cases hji : j = i
  ·subst hji; rw [hi] at hoj; cases hoj; exact (st_allocS hop hid hg hz).2 H
  ·have := ready_mono hj hji
   rw [H.1] at this
   cases this
 | succ fuel ih =>
  intro listed σ hdep hfree hr H
  refine ⟨fun h => (by rw [h] at hr; cases hr), fun j hj oj hoj => ?_⟩
  by_cases hji : j = i
  ·subst hji; rw [hi] at hoj; cases hoj; exact (st_allocS hop hid hg hz).2 H
  ·have h1 := H.2 j (ready_mono hj hji) oj hoj
   obtain ⟨hjun, oj', hoj', hall⟩ := mem_ready.1 hj
   rw [hoj] at hoj'; cases hoj'
   have key : ∀ m, listed.getD m true = false → listed.getD m false = true → False := fun m h0 h1 => by
    rcases Nat.lt_or_ge m listed.size with h' | h'
    ·simp [h'] at h0 h1; rw [h0] at h1; cases h1
    ·simp [Array.getElem?_eq_none h'] at h1
   have hnot : dep j = false := by
    cases hdj : dep j with
    | false => rfl
    | true =>
     obtain ⟨_, oj', ho', e, he, hb, hon⟩ := hdep j hdj
     rw [hoj] at ho'; cases ho'
     have h9 := hall e he hb
     rcases hon with hon | hon
     ·rw [hon] at h9; exact (key _ (mem_ready.1 hr).1 h9).elim
     ·exact (key _ (hdep _ hon).1 h9).elim
   obtain ⟨hqj, hkj, hap⟩ := hfree j oj hoj hji hjun hnot
   have h2 := st_alloc hid hqj hkj hap h1
   have hfree' : ∀ k ok, ops[k]? = some ok → k ≠ i → (listed.setIfInBounds j true).getD k true = false →
     dep k = false → quietO ok = true ∧ killO ok = true ∧ oi.apart ops ok = true := fun k ok hk hki hun hno => by
    refine hfree k ok hk hki ?_ hno
    by_cases hjk : j = k
    ·subst hjk; exact hjun
    ·rw [getD_set_ne true hjk] at hun; exact hun
   have hdep' : ∀ k, dep k = true → (listed.setIfInBounds j true).getD k true = false ∧ ∃ oj, ops[k]? = some oj ∧ ∃ e ∈ oj.after, Region.binds .any e = true ∧ (e.on = i ∨ dep e.on = true) := fun k hk => by
    have hjk : j ≠ k := fun e => by rw [e, hk] at hnot; cases hnot
    exact ⟨by rw [getD_set_ne true hjk]; exact (hdep k hk).1, (hdep k hk).2⟩
   refine stD_monoA (fun σ' h3 => ih (listed.setIfInBounds j true) σ' hdep' hfree' (ready_mono hr (Ne.symm hji)) ?_) h2
   rw [Array.setIfInBounds_comm _ _ hji]
   exact h3
def storeO (o : Oper) : Bool := o.guard.isNone && o.dst.isNone && match o.op with
 | .store _ _ _ => true
 | _ => false
def commO (ops : Array Oper) (oi oj : Oper) : Bool := oi.apart ops oj && (quietO oj || (storeO oj && regsO oi))
theorem commO_spec {oi oj : Oper} (h : commO ops oi oj = true) : Comm P gl ops oi oj := by
 unfold commO at h
 simp only [Bool.and_eq_true, Bool.or_eq_true] at h
 rcases h.2 with hq | ⟨hs, hr⟩
 ·exact Comm.quiet hq h.1
 ·unfold storeO at hs
  simp only [Bool.and_eq_true, Option.isNone_iff_eq_none] at hs
  obtain ⟨⟨hg, hd⟩, hs⟩ := hs
  split at hs
  ·rename_i t p y ho
   exact Comm.store ho hd hg hr h.1
  ·cases hs
def freeC (ops : Array Oper) (listed : Array Bool) (k : Nat) (d : Array Bool) (good : Oper → Bool) : Bool :=
 (List.range d.size).all (depOk ops listed k d) && (List.range ops.size).all fun j => match ops[j]? with
  | none => true
  | some oj => j == k || listed.getD j true || d.getD j false || good oj
theorem freeC_spec {listed : Array Bool} {k : Nat} {dd : Array Bool} {good : Oper → Bool} (h : freeC ops listed k dd good = true) :
  (∀ j, dd.getD j false = true → listed.getD j true = false ∧ ∃ oj, ops[j]? = some oj ∧ ∃ e ∈ oj.after, Region.binds .any e = true ∧ (e.on = k ∨ dd.getD e.on false = true)) ∧
  (∀ j oj, ops[j]? = some oj → j ≠ k → listed.getD j true = false → dd.getD j false = false → good oj = true) := by
 unfold freeC at h
 simp only [Bool.and_eq_true, List.all_eq_true] at h
 refine ⟨fun j hdj => ?_, fun j oj hoj hjk hun hno => ?_⟩
 ·have hj : j < dd.size := by
   rcases Nat.lt_or_ge j dd.size with h | h
   ·exact h
   ·simp [Array.getElem?_eq_none h] at hdj
  have h3 := h.1 j (List.mem_range.2 hj)
  unfold depOk at h3
  rw [hdj] at h3
  simp only [Bool.not_true, Bool.false_or] at h3
  split at h3
  ·cases h3
  ·rename_i oj hoj
   simp only [Bool.and_eq_true, Bool.not_eq_true', Array.any_eq_true', Bool.or_eq_true, beq_iff_eq] at h3
   obtain ⟨hu, e, he, hb, hon⟩ := h3
   exact ⟨hu, oj, hoj, e, he, hb, hon⟩
 ·have hj : j < ops.size := by
   rcases Nat.lt_or_ge j ops.size with h | h
   ·exact h
   ·rw [Array.getElem?_eq_none h] at hoj; cases hoj
  have := h.2 j (List.mem_range.2 hj)
  rw [hoj] at this
  simp only [Bool.or_eq_true, beq_iff_eq] at this
  rcases this with ((this | this) | this) | this
  ·exact absurd this hjk
  ·rw [hun] at this; cases this
  ·rw [hno] at this; cases this
  ·exact this
def chkI (ops : Array Oper) : List Nat → Bool → Array Bool → Bool
 | [], _, listed => (Region.ready .any ops listed).isEmpty
 | k :: is, q, listed => match ops[k]? with
  | none => false
  | some o => (Region.ready .any ops listed).contains k && (if q && quietO o then freeC ops listed k (depA ops listed k) (commO ops o) else Region.ready .any ops listed == [k]) && chkI ops is (q && quietO o) (listed.setIfInBounds k true)
def pickI (l : List Oper) : List Nat → List Oper
 | [] => []
 | k :: is => match l[k]? with
  | some o => o :: pickI l is
  | none => pickI l is
theorem any_lexI {K : S → Prop} : ∀ (is : List Nat) (q : Bool) (listed : Array Bool) (σ : S), chkI ops is q listed = true → opsQ P gl ops (pickI ops.toList is) σ K → anyA P gl ops K is.length listed σ
 | [], q, listed, σ, hB, h => ⟨by simpa [chkI] using hB, h⟩
 | k :: is, q, listed, σ, hB, h => by
  simp only [chkI] at hB
  split at hB
  ·cases hB
  ·rename_i o h0
   have h0' : ops.toList[k]? = some o := by rw [Array.getElem?_toList]; exact h0
   simp only [pickI, h0'] at h
   rw [opsQ_cons] at h
   simp only [Bool.and_eq_true] at hB
   obtain ⟨⟨hr, hf⟩, hB'⟩ := hB
   split at hf
   ·rename_i hqo
    obtain ⟨r, hy, hk⟩ := Tells.of_st hqo.2 h
    obtain ⟨f1, f2⟩ := freeC_spec hf
    exact any_first2 (dep := fun j => (depA ops listed k).getD j false) h0 hqo.2 is.length listed σ f1 (fun j oj hoj hjk hun hno => ⟨commO_spec (f2 j oj hoj hjk hun hno), fun τ K K' hk h => stD_monoA hk h⟩) (by simpa using hr) hy (any_lexI is _ _ _ hB' hk)
   ·simp only [beq_iff_eq] at hf
    refine ⟨fun h => (by rw [hf] at h; cases h), fun i hi oi hoi => ?_⟩
    rw [hf, List.mem_singleton] at hi
    subst hi
    rw [h0] at hoi; cases hoi
    exact stD_monoA (fun σ' h' => any_lexI is _ _ _ hB' h') h
def chkA (ops : Array Oper) (A : Nat) (oi : Oper) (is : List Nat) : Bool :=
 (Region.ready .any ops (Array.replicate ops.size false)).contains A && freeC ops (Array.replicate ops.size false) A (depA ops (Array.replicate ops.size false) A) (fun oj => quietO oj && killO oj && oi.apart ops oj) &&
  chkI ops is true ((Array.replicate ops.size false).setIfInBounds A true) && is.length + 1 == ops.size
theorem draw_A {id : Nat} {l : List Oper} {Q : Ex → S → Prop} {σ : S} {X : Prop} (A : Nat) (is : List Nat) {oi : Oper} {t : TypeId} {cs : List R} {d : Nat} (hA : l[A]? = some oi) (hop : oi.op = .alloc t) (hid : oi.dst = some d) (hg : oi.guard = none) (hz : (tinf P t).bind zR = some cs)
  (hB : chkA l.toArray A oi is = true) (h : opsQ P gl l.toArray (pickI l is) (allocS σ d (.box cs)) (Q .normal)) : drawK l.toArray X (SemCode P gl (.region id l.toArray true) Q σ) := by
 refine draw_sem fun c β a w ρ n hP hgl hm hdN _ hs => ?_
 subst hP; subst hgl
 have hdst : ∀ o ∈ l.toArray.toList, ∀ d, o.dst = some d → d < c.N := fun o ho d hod => by
  have := List.all_eq_true.1 hdN o ho
  rw [hod] at this
  simpa using this
 unfold chkA at hB
 simp only [Bool.and_eq_true, beq_iff_eq] at hB
 obtain ⟨⟨⟨hr, hf⟩, hc⟩, hlen⟩ := hB
 obtain ⟨f1, f2⟩ := freeC_spec hf
 have h1 := any_lexI (K := Q .normal) is true _ _ hc h
 have hA' : l.toArray[A]? = some oi := by simpa using hA
 have h2 := any_firstA (K := Q .normal) (dep := fun j => (depA l.toArray (Array.replicate l.toArray.size false) A).getD j false) hA' hop hid hg hz is.length _ σ f1 (fun j oj hoj hjk hun hno => by
  have := f2 j oj hoj hjk hun hno
  simp only [Bool.and_eq_true] at this
  exact ⟨this.1.1, this.1.2, this.2⟩) (by simpa using hr) h1
 rw [hlen] at h2
 exact wpIn_region_any hm (anyA_sound (K := Q .normal) (D := a.defers) (fun σ β a w hs _ hk => ⟨σ, β, hs, hk⟩) hdst l.toArray.size _ (hs.drawn _) rfl h2)
end
end Go.VC
end
section
set_option maxRecDepth 100000
namespace Go.VC
open Go.RowKit Go.Proofs Go.IntWalk
section
variable {T : List Txn} {C : Nat}
theorem afterR_bit {i k : Nat} (hi : i < T.length) : ((afterR T).getD i 0).testBit k = (decide (k < T.length) && beforeB T i k) := by
 rw [List.getD_eq_getElem?_getD, afterR, List.getElem?_map, List.getElem?_range hi]
 exact bitsN_test _ _ _
theorem afterR_len1 : (afterR T).length = T.length := by simp [afterR]
theorem ext_may {who left k : Nat} {row : List Nat} (hw : who < 2 ^ T.length) (hl : ∀ q, left.testBit q = (who.testBit q && !row.contains q)) (hk : k < T.length) : extS (afterR T) left k = mayGo T who row k := by
 unfold extS mayGo freeE freeR
 rw [hl k, afterR_len1]
 congr 1
 rw [Bool.eq_iff_iff, List.all_eq_true, List.all_eq_true]
 refine forall_congr' fun i => ?_
 refine forall_congr' fun hi => ?_
 have hi := List.mem_range.1 hi
 unfold freeX
 rw [hl i, afterR_bit hi, decide_eq_true hk, Bool.true_and]
theorem rows_count {after : List Nat} : ∀ (f : Nat) (row : List Nat) (left : Nat), (rowsF after f row left).length ≤ (max after.length 1) ^ f
 | 0, row, left => by simp [rowsF]
 | f + 1, row, left => by
  rw [rowsF]
  split
  ·have : 0 < (max after.length 1) ^ (f + 1) := Nat.pow_pos (by omega)
   simp; omega
  ·have key : ∀ n, ((List.range n).flatMap fun q => if extS after left q = true then rowsF after f (row ++ [q]) (andN left (2 ^ q)) else []).length ≤ n * (max after.length 1) ^ f := by
    intro n
    induction n with
    | zero => simp
    | succ n ih =>
     rw [List.range_succ, List.flatMap_append, List.length_append, Nat.succ_mul]
     have h1 := rows_count (after := after) f (row ++ [n]) (andN left (2 ^ n))
     simp only [List.flatMap_cons, List.flatMap_nil, List.append_nil]
     split
     ·omega
     ·simp only [List.length_nil]; omega
   have := key after.length
   rw [Nat.pow_succ, Nat.mul_comm _ (max after.length 1)]
   exact Nat.le_trans this (Nat.mul_le_mul_right _ (by omega))
theorem all_count (hT : T.length ≤ 6) : (allRows (afterR T)).length ≤ 79000 := by
 have h := rows_count (after := afterR T) (afterR T).length [] (2 ^ (afterR T).length - 1)
 unfold allRows
 rw [afterR_len1] at h ⊢
 have h2 : (max T.length 1) ^ T.length ≤ 6 ^ 6 := Nat.le_trans (Nat.pow_le_pow_left (show max T.length 1 ≤ 6 by omega) _) (Nat.pow_le_pow_right (by omega) hT)
 omega
theorem fl_le1 {h : List Ev} {n : Int} : ∀ k, (flTo h n k).1 < k ∧ (flTo h n k).1 ≤ (flTo h n k).2
 | 0 => by simp [flTo]
 | k + 1 => by
  have := fl_le1 (h := h) (n := n) k
  simp only [flTo]
  split
  ·split
   ·dsimp only; split <;> omega
   ·omega
  ·omega
theorem txns_fl {h : List Ev} (h0 : checkE h = 0) : ∀ t ∈ txns h, t.first ≤ t.last := fun t ht => by
 unfold txns at ht
 rw [if_pos h0] at ht
 obtain ⟨kp, hk, rfl⟩ := List.mem_map.1 ht
 have T := (tabT (check_wfl h0) h.length (Nat.le_refl _)).told kp hk
 have := (fl_le1 (h := h) (n := kp.name) h.length).2
 rw [T.fl] at this; exact this
theorem ext_some (hfl : ∀ t ∈ T, 0 ≤ t.first ∧ t.first ≤ t.last) {left : Nat} (hlt : left < 2 ^ T.length) (h0 : left ≠ 0) : ∃ k, k < T.length ∧ extS (afterR T) left k = true := by
 have ex : ∃ k, k < T.length ∧ left.testBit k = true := by
  by_cases h : ∃ k, k < T.length ∧ left.testBit k = true
  ·exact h
  ·refine absurd (bits_zero hlt fun q hq => ?_) h0
   cases hb : left.testBit q with
   | false => rfl
   | true => exact absurd ⟨q, hq, hb⟩ h
 have low : ∀ (m : Nat) (k : Nat) (hk : k < T.length), left.testBit k = true → T[k].first.toNat ≤ m → ∃ k, ∃ hk : k < T.length, left.testBit k = true ∧ ∀ i, ∀ hi : i < T.length, left.testBit i = true → T[k].first.toNat ≤ T[i].first.toNat := by
  intro m
  induction m with
  | zero => exact fun k hk hb hm => ⟨k, hk, hb, fun i hi _ => by omega⟩
  | succ m ih =>
   intro k hk hb hm
   by_cases hx : ∃ i, ∃ hi : i < T.length, left.testBit i = true ∧ T[i].first.toNat < T[k].first.toNat
   ·obtain ⟨i, hi, hbi, hlt'⟩ := hx
    exact ih i hi hbi (by omega)
   ·refine ⟨k, hk, hb, fun i hi hbi => ?_⟩
    rcases Nat.lt_or_ge T[i].first.toNat T[k].first.toNat with h | h
    ·exact absurd ⟨i, hi, hbi, h⟩ hx
    ·exact h
 obtain ⟨k0, hk0, hb0⟩ := ex
 obtain ⟨k, hk, hb, hmin⟩ := low _ k0 hk0 hb0 (Nat.le_refl _)
 refine ⟨k, hk, ?_⟩
 unfold extS freeE
 rw [hb, Bool.true_and, List.all_eq_true]
 intro i hi
 have hi := List.mem_range.1 hi
 rw [afterR_len1] at hi
 unfold freeX
 cases hbi : left.testBit i with
 | false => rfl
 | true =>
  rw [afterR_bit hi, decide_eq_true hk, Bool.true_and, Bool.true_and]
  cases hbf : beforeB T i k with
  | false => rfl
  | true =>
   exfalso
   simp only [beforeB, List.getElem?_eq_getElem hi, List.getElem?_eq_getElem hk, Bool.and_eq_true, decide_eq_true_eq] at hbf
   have h1 := hmin i hi hbi
   have h2 := hfl _ (List.getElem_mem hi)
   have h3 := hfl _ (List.getElem_mem hk)
   omega
theorem cyc_zero (hfl : ∀ t ∈ T, 0 ≤ t.first ∧ t.first ≤ t.last) : ∀ (f left : Nat), cntB T.length left = f → left < 2 ^ T.length → cycF (afterR T) f left = 0
 | 0, left, hc, hlt => bits_zero hlt (cntB_zero hc)
 | f + 1, left, hc, hlt => by
  have h0 : left ≠ 0 := fun e => by
   subst e
   have : ∀ n, cntB n 0 = 0 := fun n => by
    induction n with
    | zero => rfl
    | succ n ih => rw [cntB, ih, Nat.zero_testBit]; rfl
   rw [this] at hc; cases hc
  rw [cycF, afterR_len1]
  cases hf : (List.range T.length).find? (extS (afterR T) left) with
  | none =>
   obtain ⟨k, hk, he⟩ := ext_some hfl hlt h0
   rw [List.find?_eq_none] at hf
   exact absurd he (hf k (List.mem_range.2 hk))
  | some k =>
   have he : extS (afterR T) left k = true := List.find?_some hf
   have hk := List.mem_range.1 (List.mem_of_find?_eq_some hf)
   have hb : left.testBit k = true := by simp only [extS, Bool.and_eq_true] at he; exact he.1
   have := cntB_clr hb hk
   exact cyc_zero hfl f _ (by omega) (andN_lt2 hlt)
theorem afterR_lt {b : Nat} (h : b ∈ afterR T) : b < 2 ^ T.length := by
 obtain ⟨i, _, rfl⟩ := List.mem_map.1 h
 exact bitsN_lt _ _
theorem may_all (hT : T.length ≤ 6) (hfl : ∀ t ∈ T, 0 ≤ t.first ∧ t.first ≤ t.last) : mayX (afterR T) = 0 := by
 have h1 : 1 ≤ 2 ^ T.length := Nat.one_le_two_pow
 have hany : (afterR T).any (oddA (afterR T)) = false := by
  rw [List.any_eq_false]
  intro b hb
  rw [oddA, afterR_len1, Nat.div_eq_of_lt (afterR_lt hb)]; decide
 have hcyc : cycE (afterR T) = false := by
  rw [cycE, afterR_len1, cyc_zero hfl T.length _ (cntB_all _ _ (Nat.le_refl _)) (by omega)]; rfl
 rw [mayX, if_neg (by rw [hany, afterR_len1]; simp; omega), if_neg (by rw [hcyc]; decide)]
end
end Go.VC
end
section
set_option maxRecDepth 100000
namespace Go.VC
open Go.RowKit Go.Proofs Go.IntWalk
theorem rows_nd {T : List Txn} : ∀ (f : Nat) (row : List Nat) (left : Nat) (r : List Nat), row.Nodup → (∀ k ∈ row, k < T.length) → (∀ q, left.testBit q = true → q ∉ row) → r ∈ rowsF (afterR T) f row left → r.Nodup ∧ ∀ k ∈ r, k < T.length
 | 0, row, left, r, h1, h2, h3, hm => by
  obtain rfl : r = row := by simpa [rowsF] using hm
  exact ⟨h1, h2⟩
 | f + 1, row, left, r, h1, h2, h3, hm => by
  by_cases h0 : left = 0
  ·subst h0
   rw [rowsF_0] at hm
   obtain rfl : r = row := by simpa using hm
   exact ⟨h1, h2⟩
  ·rw [rowsF_s h0, partF, List.mem_flatMap] at hm
   obtain ⟨k, hk, hm⟩ := hm
   have hk := List.mem_range.1 hk
   rw [afterR_len1] at hk
   split at hm
   ·rename_i he
    have hb : left.testBit k = true := by simp only [extS, Bool.and_eq_true] at he; exact he.1
    have hn := h3 k hb
    refine rows_nd f (row ++ [k]) _ r (List.nodup_append.2 ⟨h1, by simp, fun a ha b hb => by
     obtain rfl := List.mem_singleton.1 hb
     intro e; subst e; exact hn ha⟩) (fun q hq => by
     rcases List.mem_append.1 hq with h | h
     ·exact h2 q h
     ·obtain rfl := List.mem_singleton.1 h; exact hk) (fun q hq hm => ?_) hm
    rw [andN_bit, Bool.and_eq_true, Nat.testBit_two_pow] at hq
    rcases List.mem_append.1 hm with h | h
    ·exact h3 q hq.1 h
    ·obtain rfl := List.mem_singleton.1 h
     simp at hq
   ·cases hm
theorem all_nd {T : List Txn} {r : List Nat} (hr : r ∈ allRows (afterR T)) : r.Nodup ∧ ∀ k ∈ r, k < T.length := rows_nd _ [] _ r List.nodup_nil (fun k hk => by cases hk) (fun q _ h => by cases h) hr
end Go.VC
end
section
set_option maxRecDepth 100000
namespace Go.VC
open Go.RowKit Go.Proofs Go.IntWalk
abbrev partD (h : List Ev) (after : List Nat) (t dn op : Nat) : List D := [.sl (h.map Ev.enc), .sl (after.map uenc), dI t, .v (.int .u32 dn), .v (.int .u32 op)]
abbrev partA (h : List Ev) (after : List Nat) (t dn op : Nat) : A := .ag (partD h after t dn op)
def closX (after : List Nat) (t dn set i : Nat) : Bool := !(!decide (i = t) && (!decide (after.getD i 0 &&& (set ||| 2 ^ t) = 0) && !(set.testBit i == dn.testBit i)))
def closedP (after : List Nat) (t dn set : Nat) : Bool := (List.range after.length).all (closX after t dn set) && !set.testBit t
theorem bit_ne {a b : Bool} : ((if a then (1 : Int) else 0) = (if b then (1 : Int) else 0)) = (a = b) := by cases a <;> cases b <;> simp
theorem t1204 (h : List Ev) (after : List Nat) (t dn op set : Nat) (hl : after.length ≤ 6) (ha : ∀ b ∈ after, b < 2 ^ 32) (ht : t < after.length) (hd : dn < 2 ^ 32) (hs : set < 2 ^ 32) : Holds Tryz.prog GL 81 [partA h after t dn op, U set] [.a (B (closedP after t dn set))] := by
 refine fn_holds (vs := [.tmp 4]) (by kernel_rfl) Tryz.func81 rfl rfl (by kernel_rfl) (by kernel_rfl) rfl ?_
 have hsh := u32_shl (k := t) (by omega)
 have h2 : 2 ^ t < 2 ^ 32 := Nat.pow_lt_pow_right (by omega) (by omega)
 have hor := u32_or hs h2
 have hw : set ||| 2 ^ t < 2 ^ 32 := Nat.or_lt_two_pow hs h2
 have bt := u32_bit (k := t) hs
 have st := u32_shr (b := set) (k := t) (by omega)
 have e : closedP after t dn set = ((List.range after.length).all (closX after t dn set) && !set.testBit t) := rfl
 (refine rO ?_; repeat' ((with_reducible first | refine rG ?_ | (refine rS ?_ ?_ <;> intro hp) | (refine rB ?_ ?_ <;> intro hb <;> try rw [hb]) | refine rD ?_ | refine rA ?_ | fail) <;> try simp only [go_sem, simprocAttr, List.length_map, hsh, hor]))
 refine awp_loopA (fun i : Nat => [(1, .a (U set)), (2, .ref 2 0), (5, .a (U (set ||| 2 ^ t : Nat))), (14, .a (unsA after)), (15, .a (I after.length)), (16, .a (I i))]) (fun _ => [(2, .box [.a (.d (.sl (h.map Ev.enc))), .a (unsA after), .a (I t), .a (U dn), .a (U op)])]) (fun i => i ≤ after.length ∧ ∀ q, q < i → closX after t dn set q = true) (after.length - ·) 0 ?_ ?_ ⟨Nat.zero_le _, fun q hq => by omega⟩ ?_
 ·simp only [go_sem, simprocAttr, List.length_map, hsh, hor]
 ·simp only [go_sem, simprocAttr]
 intro i j ⟨hi, hq⟩
 by_cases hil : i < after.length
 ·have hiI : ((i : Int) < (after.length : Int)) = True := eq_true (by omega)
  have hwi := wrap_succ (n := after.length) hil (by simp only [maxLen]; omega)
  have hx : after[i]? = some after[i] := List.getElem?_eq_getElem hil
  have hX : closX after t dn set i = !(!decide (i = t) && (!decide (after[i] &&& (set ||| 2 ^ t) = 0) && !(set.testBit i == dn.testBit i))) := by simp [closX, hil]
  have hb32 := ha _ (List.getElem_mem hil)
  generalize after[i] = b at hx hX hb32
  have han := u32_and hb32 hw
  have b1 := u32_bit (k := i) hs
  have b2 := u32_bit (k := i) hd
  have s1 := u32_shr (b := set) (k := i) (by omega)
  have s2 := u32_shr (b := dn) (k := i) (by omega)
  (refine rO ?_; repeat' ((with_reducible first | refine rG ?_ | (refine rS ?_ ?_ <;> intro hp) | (refine rB ?_ ?_ <;> intro hb <;> try rw [hb]) | refine rD ?_ | refine rA ?_ | fail) <;> try simp only [go_sem, simprocAttr, hiI, hx, uenc_eq, han, b1, b2, s1, s2, bit_ne, hwi]))
  ·have hh : closX after t dn set i = true := by rw [hX, decide_eq_true (show i = t by omega)]; rfl
   (refine ⟨i + 1, ?_, ?_, ⟨hil, nx_all hq hh⟩, by dsimp only; omega⟩ <;> simp only [go_sem, simprocAttr, hwi])
  ·have hh : closX after t dn set i = true := by rw [hX, decide_eq_true (show b &&& (set ||| 2 ^ t) = 0 by omega)]; simp
   (refine ⟨i + 1, ?_, ?_, ⟨hil, nx_all hq hh⟩, by dsimp only; omega⟩ <;> simp only [go_sem, simprocAttr, hwi])
  ·have hh : closX after t dn set i = true := by rw [hX, hp]; simp
   (refine ⟨i + 1, ?_, ?_, ⟨hil, nx_all hq hh⟩, by dsimp only; omega⟩ <;> simp only [go_sem, simprocAttr, hwi])
  ·rw [e]
   have h1 : (List.range after.length).all (closX after t dn set) = false := by
    rw [List.all_eq_false]
    refine ⟨i, List.mem_range.2 hil, ?_⟩
    rw [hX, decide_eq_false (show ¬ i = t by omega), decide_eq_false (show ¬ b &&& (set ||| 2 ^ t) = 0 by omega)]
    simp [hp]
   rw [h1]; rfl
 ·have hiI : ((i : Int) < (after.length : Int)) = False := eq_false (by omega)
  have hall : (List.range after.length).all (closX after t dn set) = true := by
   rw [List.all_eq_true]; intro q hq'; exact hq q (by have := List.mem_range.1 hq'; omega)
  rw [hall, Bool.true_and] at e
  rw [e]
  cases hb : set.testBit t with
  | false =>
   rw [hb] at bt
   simp only [Bool.false_eq_true, if_false] at bt
   (refine rO ?_; repeat' ((with_reducible first | refine rG ?_ | (refine rS ?_ ?_ <;> intro hp) | (refine rB ?_ ?_ <;> intro hb <;> try rw [hb]) | refine rD ?_ | refine rA ?_ | fail) <;> try simp only [go_sem, simprocAttr, hiI, st, bt]))
  | true =>
   rw [hb] at bt
   simp only [if_true] at bt
   (refine rO ?_; repeat' ((with_reducible first | refine rG ?_ | (refine rS ?_ ?_ <;> intro hp) | (refine rB ?_ ?_ <;> intro hb <;> try rw [hb]) | refine rD ?_ | refine rA ?_ | fail) <;> try simp only [go_sem, simprocAttr, hiI, st, bt]))
theorem t1203 (h : List Ev) (after : List Nat) (t dn op set : Nat) (hl : after.length ≤ 6) (ha : ∀ b ∈ after, b < 2 ^ 32) (ht : t < after.length) (hd : dn < 2 ^ 32) (hs : set < 2 ^ 32) : Holds Tryz.prog GL 80 [U set, .d (.pt (partD h after t dn op))] [.a (B (closedP after t dn set && decide (after.getD t 0 &&& set = 0)))] := by
 refine fn_holds (vs := [.tmp 3]) (by kernel_rfl) Tryz.func80 rfl rfl (by kernel_rfl) (by kernel_rfl) rfl ?_
 have hc := t1204 h after t dn op set hl ha ht hd hs
 have hx : after[t]? = some after[t] := List.getElem?_eq_getElem ht
 have hg : after.getD t 0 = after[t] := by simp [ht]
 rw [hg]
 have hb32 := ha _ (List.getElem_mem ht)
 generalize after[t] = b at hx hb32
 have han := u32_and hb32 hs
 (refine rO ?_; repeat' ((with_reducible first | refine rG ?_ | (refine rS ?_ ?_ <;> intro hp) | (refine rB ?_ ?_ <;> intro hb <;> try rw [hb]) | refine rD ?_ | refine rA ?_ | fail) <;> try simp only [go_sem, simprocAttr]))
 refine call_dat hc ?_
 cases closedP after t dn set with
 | false =>
  (refine rO ?_; repeat' ((with_reducible first | refine rG ?_ | (refine rS ?_ ?_ <;> intro hp) | (refine rB ?_ ?_ <;> intro hb <;> try rw [hb]) | refine rD ?_ | refine rA ?_ | fail) <;> try simp only [go_sem, simprocAttr, hx, uenc_eq, han, List.length_map]))
  rfl
 | true =>
  (refine rO ?_; repeat' ((with_reducible first | refine rG ?_ | (refine rS ?_ ?_ <;> intro hp) | (refine rB ?_ ?_ <;> intro hb <;> try rw [hb]) | refine rD ?_ | refine rA ?_ | fail) <;> try simp only [go_sem, simprocAttr, hx, uenc_eq, han, List.length_map]))
  ·rw [decide_eq_true (show b &&& set = 0 by omega)]; rfl
  ·rw [decide_eq_false (show ¬ b &&& set = 0 by omega)]; rfl
theorem t1206 (h : List Ev) (after : List Nat) (t dn op set w : Nat) (ht : t < 6) (hd : dn < 2 ^ 32) (hs : set < 2 ^ 32) : Holds Tryz.prog GL 83 [U set, .d (.pt (partD h after t dn op)), .d (.pt [.v (.int .u32 w)])] [.a (B (decide (andN dn set = 0) && decide (set &&& 2 ^ t = w)))] := by
 refine fn_holds (vs := [.tmp 4]) (by kernel_rfl) Tryz.func83 rfl rfl (by kernel_rfl) (by kernel_rfl) rfl ?_
 have hsh := u32_shl (k := t) (by omega)
 have h2 : 2 ^ t < 2 ^ 32 := Nat.pow_lt_pow_right (by omega) (by omega)
 have han := u32_and hs h2
 have hdn := u32_andn hd hs
 (refine rO ?_; repeat' ((with_reducible first | refine rG ?_ | (refine rS ?_ ?_ <;> intro hp) | (refine rB ?_ ?_ <;> intro hb <;> try rw [hb]) | refine rD ?_ | refine rA ?_ | fail) <;> try simp only [go_sem, simprocAttr, hsh, han, hdn]))
 ·rw [decide_eq_true (show andN dn set = 0 by omega), decide_eq_true (show set &&& 2 ^ t = w by omega)]; rfl
 ·rw [decide_eq_true (show andN dn set = 0 by omega), decide_eq_false (show ¬ set &&& 2 ^ t = w by omega)]; rfl
 ·rw [decide_eq_false (show ¬ andN dn set = 0 by omega)]; rfl
theorem t1205 (h : List Ev) (after : List Nat) (t dn op w : Nat) : Holds Tryz.prog GL 82 [U w, .d (.pt (partD h after t dn op))] [.a (.d (.fn 83 [.pt (partD h after t dn op), .pt [.v (.int .u32 w)]]))] := by
 refine fn_holds (vs := [.tmp 3]) (by kernel_rfl) Tryz.func82 rfl rfl (by kernel_rfl) (by kernel_rfl) rfl ?_
 (refine rO ?_; repeat' ((with_reducible first | refine rG ?_ | (refine rS ?_ ?_ <;> intro hp) | (refine rB ?_ ?_ <;> intro hb <;> try rw [hb]) | refine rD ?_ | refine rA ?_ | fail) <;> try simp only [go_sem, simprocAttr, y_assign_nf]))
def fitFn (h : List Ev) (after : List Nat) (t dn op : Nat) (kind : Int) : D :=
 if kind = 3 ∨ kind = 5 then .fn 80 [.pt (partD h after t dn op)] else if kind = 7 then .fn 83 [.pt (partD h after t dn op), .pt [.v (.int .u32 (2 ^ t : Nat))]] else if kind = 9 then .fn 83 [.pt (partD h after t dn op), .pt [.v (.int .u32 (0 : Nat))]] else .v .nilFunc
theorem t1154 (h : List Ev) (after : List Nat) (t dn op : Nat) (kind : Int) (ht : t < 6) : Holds Tryz.prog GL 51 [partA h after t dn op, I kind] [.a (.d (fitFn h after t dn op kind)), .a (B (decide (kind = 3) || decide (kind = 5)))] := by
 refine fn_holds (vs := [.tmp 4, .tmp 5]) (by kernel_rfl) Tryz.func51 rfl rfl (by kernel_rfl) (by kernel_rfl) rfl ?_
 have hsh := u32_shl (k := t) (by omega)
 (refine rO ?_; repeat' ((with_reducible first | refine rG ?_ | (refine rS ?_ ?_ <;> intro hp) | (refine rB ?_ ?_ <;> intro hb <;> try rw [hb]) | refine rD ?_ | refine rA ?_ | fail) <;> try simp only [go_sem, simprocAttr, y_assign_nf, hsh]))
 refine call_dat (t1205 h after t dn op (2 ^ t)) ?_
 (refine rO ?_; repeat' ((with_reducible first | refine rG ?_ | (refine rS ?_ ?_ <;> intro hp) | (refine rB ?_ ?_ <;> intro hb <;> try rw [hb]) | refine rD ?_ | refine rA ?_ | fail) <;> try simp only [go_sem, simprocAttr, y_assign_nf, hsh]))
 refine call_dat (t1205 h after t dn op 0) ?_
 by_cases k3 : kind = 3
 ·subst k3
  (refine rO ?_; repeat' ((with_reducible first | refine rG ?_ | (refine rS ?_ ?_ <;> intro hp) | (refine rB ?_ ?_ <;> intro hb <;> try rw [hb]) | refine rD ?_ | refine rA ?_ | fail) <;> try simp only [go_sem, simprocAttr, y_assign_nf, hsh]))
  exact ⟨rfl, rfl⟩
 by_cases k5 : kind = 5
 ·subst k5
  (refine rO ?_; repeat' ((with_reducible first | refine rG ?_ | (refine rS ?_ ?_ <;> intro hp) | (refine rB ?_ ?_ <;> intro hb <;> try rw [hb]) | refine rD ?_ | refine rA ?_ | fail) <;> try simp only [go_sem, simprocAttr, y_assign_nf, hsh]))
  rfl
 by_cases k7 : kind = 7
 ·subst k7
  (refine rO ?_; repeat' ((with_reducible first | refine rG ?_ | (refine rS ?_ ?_ <;> intro hp) | (refine rB ?_ ?_ <;> intro hb <;> try rw [hb]) | refine rD ?_ | refine rA ?_ | fail) <;> try simp only [go_sem, simprocAttr, y_assign_nf, hsh]))
  rfl
 by_cases k9 : kind = 9
 ·subst k9
  (refine rO ?_; repeat' ((with_reducible first | refine rG ?_ | (refine rS ?_ ?_ <;> intro hp) | (refine rB ?_ ?_ <;> intro hb <;> try rw [hb]) | refine rD ?_ | refine rA ?_ | fail) <;> try simp only [go_sem, simprocAttr, y_assign_nf, hsh]))
  rfl
 have h3 : (kind = 3) = False := eq_false k3
 have h5 : (kind = 5) = False := eq_false k5
 (refine rO ?_; repeat' ((with_reducible first | refine rG ?_ | (refine rS ?_ ?_ <;> intro hp) | (refine rB ?_ ?_ <;> intro hb <;> try rw [hb]) | refine rD ?_ | refine rA ?_ | fail) <;> try simp only [go_sem, simprocAttr, y_assign_nf, hsh, h3, h5]))
 simp [kvGet, fitFn, k3, k5, k7, k9, Ne.symm k3, Ne.symm k5, Ne.symm k7, Ne.symm k9]
end Go.VC
end
section
set_option maxRecDepth 100000
namespace Go.VC
open Go.RowKit Go.Proofs Go.IntWalk
abbrev pD (L old : List Txn) (t : Nat) (kind : Int) : List D := [.sl (L.map Txn.enc), .sl (old.map Txn.enc), dI t, dI kind]
abbrev pA (L old : List Txn) (t : Nat) (kind : Int) : A := .ag (pD L old t kind)
def stP (old : List Txn) (i : Nat) : Int := match old[i]? with
 | some x => x.st
 | none => 0
section
variable (L old : List Txn) (t : Nat) (kind : Int)
theorem t1160 (i : Nat) (ho : old.length ≤ 6) : Holds Tryz.prog GL 93 [pA L old t kind, I i] [.a (I (stP old i))] := by
 refine fn_holds (vs := [.tmp 4]) (by kernel_rfl) Tryz.func93 rfl rfl (by kernel_rfl) (by kernel_rfl) rfl ?_
 by_cases h : i < old.length
 ·have hx : old[i]? = some old[i] := List.getElem?_eq_getElem h
  have hI : ((i : Int) ≥ (old.length : Int)) = False := eq_false (by omega)
  have e : stP old i = old[i].st := by unfold stP; rw [hx]
  rw [e]
  (refine rO ?_; repeat' ((with_reducible first | refine rG ?_ | (refine rS ?_ ?_ <;> intro hp) | (refine rB ?_ ?_ <;> intro hb <;> try rw [hb]) | refine rD ?_ | refine rA ?_ | fail) <;> try simp only [go_sem, simprocAttr, List.length_map, txns_len, hI, hx, Txn.enc_eq]))
 ·have hI : ((i : Int) ≥ (old.length : Int)) = True := eq_true (by omega)
  have e : stP old i = 0 := by unfold stP; rw [List.getElem?_eq_none (by omega)]
  rw [e]
  (refine rO ?_; repeat' ((with_reducible first | refine rG ?_ | (refine rS ?_ ?_ <;> intro hp) | (refine rB ?_ ?_ <;> intro hb <;> try rw [hb]) | refine rD ?_ | refine rA ?_ | fail) <;> try simp only [go_sem, simprocAttr, List.length_map, txns_len, hI]))
theorem q1160 {L old : List Txn} {t : Nat} {kind : Int} {i : Nat} (ho : old.length ≤ 6) {σ : S} {KR : R → Prop} (hK : KR (retR [I (stP old i)])) : callVQ Tryz.prog GL 93 [.a (pA L old t kind), .a (I i)] σ KR := callQ_dat (res := [I (stP old i)]) (t1160 L old t kind i ho) hK
theorem q24 {l : List Txn} (hs : StT l) {i k : Nat} (hi : i < l.length) (hk : k < l.length) {σ : S} {KR : R → Prop} (hK : KR (retR [B (beforeB l i k)])) : callVQ Tryz.prog GL 68 [.a (txnsA l), .a (I i), .a (I k)] σ KR := callQ_dat (res := [B (beforeB l i k)]) (t24 l hs i k hi hk) hK
def someX (old : List Txn) (set i : Nat) : Bool := !(set.testBit i && (!decide (stP old i = 1) && !decide (stP old i = 2)))
def someP (L old : List Txn) (set : Nat) : Bool := (List.range L.length).all (someX old set) && decide (set / 2 ^ L.length = 0)
theorem t1157 (set : Nat) (hL : L.length ≤ 6) (ho : old.length ≤ 6) (hs : set < 2 ^ 32) : Holds Tryz.prog GL 90 [pA L old t kind, U set] [.a (B (someP L old set))] := by
 refine fn_holds (vs := [.tmp 4]) (by kernel_rfl) Tryz.func90 rfl rfl (by kernel_rfl) (by kernel_rfl) rfl ?_
 have e : someP L old set = ((List.range L.length).all (someX old set) && decide (set / 2 ^ L.length = 0)) := rfl
 (refine rO ?_; repeat' ((with_reducible first | refine rG ?_ | (refine rS ?_ ?_ <;> intro hp) | (refine rB ?_ ?_ <;> intro hb <;> try rw [hb]) | refine rD ?_ | refine rA ?_ | fail) <;> try simp only [go_sem, simprocAttr, List.length_map, txns_len]))
 refine awp_loopA (fun i : Nat => [(1, .a (U set)), (2, .ref 2 0), (9, .a (I L.length)), (10, .a (I i))]) (fun _ => [(2, .box [.a (txnsA L), .a (txnsA old), .a (I t), .a (I kind)])]) (fun i => i ≤ L.length ∧ ∀ q, q < i → someX old set q = true) (L.length - ·) 0 ?_ ?_ ⟨Nat.zero_le _, fun q hq => by omega⟩ ?_
 ·simp only [go_sem, simprocAttr, List.length_map, txns_len]
 ·simp only [go_sem, simprocAttr]
 intro i j ⟨hi, hq⟩
 by_cases hil : i < L.length
 ·have hiI : ((i : Int) < (L.length : Int)) = True := eq_true (by omega)
  have hwi := wrap_succ (n := L.length) hil (by simp only [maxLen]; omega)
  have hst := t1160 L old t kind i ho
  have hbt := t100 set i hs (by omega)
  have hX : someX old set i = !(set.testBit i && (!decide (stP old i = 1) && !decide (stP old i = 2))) := rfl
  (refine rO ?_; repeat' ((with_reducible first | refine rG ?_ | (refine rS ?_ ?_ <;> intro hp) | (refine rB ?_ ?_ <;> intro hb <;> try rw [hb]) | refine rD ?_ | refine rA ?_ | fail) <;> try simp only [go_sem, simprocAttr, hiI]))
  refine call_dat hst ?_
  (refine rO ?_; repeat' ((with_reducible first | refine rG ?_ | (refine rS ?_ ?_ <;> intro hp) | (refine rB ?_ ?_ <;> intro hb <;> try rw [hb]) | refine rD ?_ | refine rA ?_ | fail) <;> try simp only [go_sem, simprocAttr]))
  refine call_dat hbt ?_
  generalize stP old i = s at *
  cases hb : set.testBit i with
  | false =>
   have hh : someX old set i = true := by rw [hX, hb]; rfl
   (refine rO ?_; repeat' ((with_reducible first | refine rG ?_ | (refine rS ?_ ?_ <;> intro hp) | (refine rB ?_ ?_ <;> intro hb <;> try rw [hb]) | refine rD ?_ | refine rA ?_ | fail) <;> try simp only [go_sem, simprocAttr, hwi]))
   (refine ⟨i + 1, ?_, ?_, ⟨hil, nx_all hq hh⟩, by dsimp only; omega⟩ <;> simp only [go_sem, simprocAttr, hwi])
  | true =>
   (refine rO ?_; repeat' ((with_reducible first | refine rG ?_ | (refine rS ?_ ?_ <;> intro hp) | (refine rB ?_ ?_ <;> intro hb <;> try rw [hb]) | refine rD ?_ | refine rA ?_ | fail) <;> try simp only [go_sem, simprocAttr, hwi]))
   ·have hh : someX old set i = true := by rw [hX, hb, decide_eq_true (show s = 1 by omega)]; rfl
    (refine ⟨i + 1, ?_, ?_, ⟨hil, nx_all hq hh⟩, by dsimp only; omega⟩ <;> simp only [go_sem, simprocAttr, hwi])
   ·have hh : someX old set i = true := by rw [hX, hb, decide_eq_true (show s = 2 by omega)]; simp
    (refine ⟨i + 1, ?_, ?_, ⟨hil, nx_all hq hh⟩, by dsimp only; omega⟩ <;> simp only [go_sem, simprocAttr, hwi])
   ·rw [e]
    have h1 : (List.range L.length).all (someX old set) = false := by
     rw [List.all_eq_false]
     exact ⟨i, List.mem_range.2 hil, by rw [hX, hb, decide_eq_false (show ¬ s = 1 by omega), decide_eq_false (show ¬ s = 2 by omega)]; decide⟩
    rw [h1]; rfl
 ·have hiI : ((i : Int) < (L.length : Int)) = False := eq_false (by omega)
  have hall : (List.range L.length).all (someX old set) = true := by
   rw [List.all_eq_true]; intro q hq'; exact hq q (by have := List.mem_range.1 hq'; omega)
  rw [hall, Bool.true_and] at e
  rw [e]
  (refine rO ?_; repeat' ((with_reducible first | refine rG ?_ | (refine rS ?_ ?_ <;> intro hp) | (refine rB ?_ ?_ <;> intro hb <;> try rw [hb]) | refine rD ?_ | refine rA ?_ | fail) <;> try simp only [go_sem, simprocAttr, hiI]))
  refine call_dat (t74 L (by omega) set hs) ?_
  (refine rO ?_; repeat' ((with_reducible first | refine rG ?_ | (refine rS ?_ ?_ <;> intro hp) | (refine rB ?_ ?_ <;> intro hb <;> try rw [hb]) | refine rD ?_ | refine rA ?_ | fail) <;> try simp only [go_sem, simprocAttr]))
def behP (L : List Txn) (t set : Nat) : Bool := (List.range L.length).any fun k => set.testBit k && beforeB L t k
theorem t1159 (set : Nat) (hL : L.length ≤ 6) (hS : StT L) (ht : t < L.length) (hs : set < 2 ^ 32) : Holds Tryz.prog GL 92 [pA L old t kind, U set] [.a (B (behP L t set))] := by
 refine fn_holds (vs := [.tmp 4]) (by kernel_rfl) Tryz.func92 rfl rfl (by kernel_rfl) (by kernel_rfl) rfl ?_
 have e : behP L t set = (List.range L.length).any fun k => set.testBit k && beforeB L t k := rfl
 (refine rO ?_; repeat' ((with_reducible first | refine rG ?_ | (refine rS ?_ ?_ <;> intro hp) | (refine rB ?_ ?_ <;> intro hb <;> try rw [hb]) | refine rD ?_ | refine rA ?_ | fail) <;> try simp only [go_sem, simprocAttr, List.length_map, txns_len]))
 refine awp_loopA (fun i : Nat => [(1, .a (U set)), (2, .ref 2 0), (8, .a (I L.length)), (9, .a (I i))]) (fun _ => [(2, .box [.a (txnsA L), .a (txnsA old), .a (I t), .a (I kind)])]) (fun i => i ≤ L.length ∧ ∀ q, q < i → (set.testBit q && beforeB L t q) = false) (L.length - ·) 0 ?_ ?_ ⟨Nat.zero_le _, fun q hq => by omega⟩ ?_
 ·simp only [go_sem, simprocAttr, List.length_map, txns_len]
 ·simp only [go_sem, simprocAttr]
 intro i j ⟨hi, hq⟩
 by_cases hil : i < L.length
 ·have hiI : ((i : Int) < (L.length : Int)) = True := eq_true (by omega)
  have hwi := wrap_succ (n := L.length) hil (by simp only [maxLen]; omega)
  have hbt := t100 set i hs (by omega)
  have hbf := t24 L hS t i ht hil
  have nx : ∀ q, q < i + 1 → (set.testBit i && beforeB L t i) = false → (set.testBit q && beforeB L t q) = false := fun q h1 h2 => by
   rcases Nat.lt_succ_iff_lt_or_eq.1 h1 with h | rfl
   ·exact hq q h
   ·exact h2
  (refine rO ?_; repeat' ((with_reducible first | refine rG ?_ | (refine rS ?_ ?_ <;> intro hp) | (refine rB ?_ ?_ <;> intro hb <;> try rw [hb]) | refine rD ?_ | refine rA ?_ | fail) <;> try simp only [go_sem, simprocAttr, hiI]))
  refine call_dat hbt ?_
  cases hb : set.testBit i with
  | false =>
   (refine rO ?_; repeat' ((with_reducible first | refine rG ?_ | (refine rS ?_ ?_ <;> intro hp) | (refine rB ?_ ?_ <;> intro hb <;> try rw [hb]) | refine rD ?_ | refine rA ?_ | fail) <;> try simp only [go_sem, simprocAttr, hwi]))
   have hh : ∀ q, q < i + 1 → (set.testBit q && beforeB L t q) = false := fun q h1 => nx q h1 (by rw [hb]; rfl)
   (refine ⟨i + 1, ?_, ?_, ⟨hil, hh⟩, by dsimp only; omega⟩ <;> simp only [go_sem, simprocAttr, hwi])
  | true =>
   (refine rO ?_; repeat' ((with_reducible first | refine rG ?_ | (refine rS ?_ ?_ <;> intro hp) | (refine rB ?_ ?_ <;> intro hb <;> try rw [hb]) | refine rD ?_ | refine rA ?_ | fail) <;> try simp only [go_sem, simprocAttr, hwi]))
   refine call_dat hbf ?_
   cases hc : beforeB L t i with
   | false =>
    (refine rO ?_; repeat' ((with_reducible first | refine rG ?_ | (refine rS ?_ ?_ <;> intro hp) | (refine rB ?_ ?_ <;> intro hb <;> try rw [hb]) | refine rD ?_ | refine rA ?_ | fail) <;> try simp only [go_sem, simprocAttr, hwi]))
    have hh : ∀ q, q < i + 1 → (set.testBit q && beforeB L t q) = false := fun q h1 => nx q h1 (by rw [hb, hc]; rfl)
    (refine ⟨i + 1, ?_, ?_, ⟨hil, hh⟩, by dsimp only; omega⟩ <;> simp only [go_sem, simprocAttr, hwi])
   | true =>
    (refine rO ?_; repeat' ((with_reducible first | refine rG ?_ | (refine rS ?_ ?_ <;> intro hp) | (refine rB ?_ ?_ <;> intro hb <;> try rw [hb]) | refine rD ?_ | refine rA ?_ | fail) <;> try simp only [go_sem, simprocAttr, hwi]))
    rw [e]; symm
    rw [List.any_eq_true]
    exact ⟨i, List.mem_range.2 hil, by rw [hb, hc]; rfl⟩
 ·have hiI : ((i : Int) < (L.length : Int)) = False := eq_false (by omega)
  (refine rO ?_; repeat' ((with_reducible first | refine rG ?_ | (refine rS ?_ ?_ <;> intro hp) | (refine rB ?_ ?_ <;> intro hb <;> try rw [hb]) | refine rD ?_ | refine rA ?_ | fail) <;> try simp only [go_sem, simprocAttr, hiI]))
  rw [e]; symm
  rw [List.any_eq_false]
  intro q hq'
  rw [hq q (by have := List.mem_range.1 hq'; omega)]; decide
end
section
variable (L old : List Txn) (t : Nat) (kind : Int)
def cloY (L old : List Txn) (t set i k : Nat) : Bool := !((decide (k = t) || set.testBit k) && (beforeB L i k && !(set.testBit i == decide (stP old i = 2))))
def cloX (L old : List Txn) (t set i : Nat) : Bool := decide (i = t) || (List.range L.length).all (cloY L old t set i)
def cloP (L old : List Txn) (t set : Nat) : Bool := (List.range L.length).all (cloX L old t set) && !set.testBit t
theorem t1158 (set : Nat) (hL : L.length ≤ 6) (ho : old.length ≤ 6) (hS : StT L) (ht : t < L.length) (hs : set < 2 ^ 32) : Holds Tryz.prog GL 91 [pA L old t kind, U set] [.a (B (cloP L old t set))] := by
 refine fn_holds (vs := [.tmp 4]) (by kernel_rfl) Tryz.func91 rfl rfl (by kernel_rfl) (by kernel_rfl) rfl ?_
 have e : cloP L old t set = ((List.range L.length).all (cloX L old t set) && !set.testBit t) := rfl
 (refine rO ?_; repeat' ((with_reducible first | refine rG ?_ | (refine rS ?_ ?_ <;> intro hp) | (refine rB ?_ ?_ <;> intro hb <;> try rw [hb]) | refine rD ?_ | refine rA ?_ | fail) <;> try simp only [go_sem, simprocAttr, List.length_map, txns_len]))
 refine awp_loopA (fun i : Nat => [(1, .a (U set)), (2, .ref 2 0), (9, .a (I L.length)), (10, .a (I i))]) (fun _ => [(2, .box [.a (txnsA L), .a (txnsA old), .a (I t), .a (I kind)])]) (fun i => i ≤ L.length ∧ ∀ q, q < i → cloX L old t set q = true) (L.length - ·) 0 ?_ ?_ ⟨Nat.zero_le _, fun q hq => by omega⟩ ?_
 ·simp only [go_sem, simprocAttr, List.length_map, txns_len]
 ·simp only [go_sem, simprocAttr]
 intro i j ⟨hi, hq⟩
 by_cases hil : i < L.length
 ·have hiI : ((i : Int) < (L.length : Int)) = True := eq_true (by omega)
  have hwi := wrap_succ (n := L.length) hil (by simp only [maxLen]; omega)
  have hX : cloX L old t set i = (decide (i = t) || (List.range L.length).all (cloY L old t set i)) := rfl
  by_cases hit : i = t
  ·have hitI : ((i : Int) = (t : Int)) = True := eq_true (by omega)
   (refine rO ?_; repeat' ((with_reducible first | refine rG ?_ | (refine rS ?_ ?_ <;> intro hp) | (refine rB ?_ ?_ <;> intro hb <;> try rw [hb]) | refine rD ?_ | refine rA ?_ | fail) <;> try simp only [go_sem, simprocAttr, hiI, hitI, hwi]))
   have hh : cloX L old t set i = true := by rw [hX, decide_eq_true hit]; rfl
   (refine ⟨i + 1, ?_, ?_, ⟨hil, nx_all hq hh⟩, by dsimp only; omega⟩ <;> simp only [go_sem, simprocAttr, hwi])
  ·have hitI : ((i : Int) = (t : Int)) = False := eq_false (by omega)
   (refine rO ?_; repeat' ((with_reducible first | refine rG ?_ | (refine rS ?_ ?_ <;> intro hp) | (refine rB ?_ ?_ <;> intro hb <;> try rw [hb]) | refine rD ?_ | refine rA ?_ | fail) <;> try simp only [go_sem, simprocAttr, hiI, hitI, hwi, List.length_map, txns_len]))
   refine awp_loopA (fun k : Nat => [(1, .a (U set)), (2, .ref 2 0), (5, .a (I i)), (9, .a (I L.length)), (10, .a (I i)), (19, .a (I L.length)), (20, .a (I k))]) (fun _ => [(2, .box [.a (txnsA L), .a (txnsA old), .a (I t), .a (I kind)])]) (fun k => k ≤ L.length ∧ ∀ q, q < k → cloY L old t set i q = true) (L.length - ·) 0 ?_ ?_ ⟨Nat.zero_le _, fun q hq => by omega⟩ ?_
   ·simp only [go_sem, simprocAttr, List.length_map, txns_len]
   ·simp only [go_sem, simprocAttr]
   intro k jj ⟨hk, hqk⟩
   by_cases hkl : k < L.length
   ·have hkI : ((k : Int) < (L.length : Int)) = True := eq_true (by omega)
    have hwk := wrap_succ (n := L.length) hkl (by simp only [maxLen]; omega)
    have hY : cloY L old t set i k = !((decide (k = t) || set.testBit k) && (beforeB L i k && !(set.testBit i == decide (stP old i = 2)))) := rfl
    have hfal : cloY L old t set i k = false → cloP L old t set = false := fun h => by
     have h1 : cloX L old t set i = false := by
      rw [hX, decide_eq_false hit, Bool.false_or, List.all_eq_false]
      exact ⟨k, List.mem_range.2 hkl, by rw [h]; decide⟩
     have h2 : (List.range L.length).all (cloX L old t set) = false := by
      rw [List.all_eq_false]
      exact ⟨i, List.mem_range.2 hil, by rw [h1]; decide⟩
     rw [e, h2]; rfl
    have Q1 := fun {σ : S} {KR : R → Prop} => q100 (C := set) (k := k) hs (by omega) (σ := σ) (KR := KR)
    have Q2 := fun {σ : S} {KR : R → Prop} => q100 (C := set) (k := i) hs (by omega) (σ := σ) (KR := KR)
    have Q3 := fun {σ : S} {KR : R → Prop} => q24 hS hil hkl (σ := σ) (KR := KR)
    have Q4 := fun {σ : S} {KR : R → Prop} => q1160 (L := L) (old := old) (t := t) (kind := kind) (i := i) ho (σ := σ) (KR := KR)
    cases hb : (decide (k = t) || set.testBit k) with
    | false =>
     rw [hb, Bool.false_and] at hY
     rw [Bool.or_eq_false_iff] at hb
     have hktI : ((k : Int) = (t : Int)) = False := eq_false (by have := of_decide_eq_false hb.1; omega)
     (refine rO ?_; repeat' ((with_reducible first | refine rG ?_ | (refine rS ?_ ?_ <;> intro hp) | (refine rB ?_ ?_ <;> intro hb <;> try rw [hb]) | refine rD ?_ | refine rA ?_ | fail) <;> try simp only [go_sem, simprocAttr, hkI, hktI, hwk]))
     refine Q1 ?_
     rw [hb.2]
     (refine rO ?_; repeat' ((with_reducible first | refine rG ?_ | (refine rS ?_ ?_ <;> intro hp) | (refine rB ?_ ?_ <;> intro hb <;> try rw [hb]) | refine rD ?_ | refine rA ?_ | fail) <;> try simp only [go_sem, simprocAttr, hkI, hktI, hwk]))
     (refine ⟨k + 1, ?_, ?_, ⟨hkl, nx_all hqk hY⟩, by dsimp only; omega⟩ <;> simp only [go_sem, simprocAttr, hwk])
    | true =>
     rw [hb, Bool.true_and] at hY
     by_cases hkt : k = t
     ·have hktI : ((k : Int) = (t : Int)) = True := eq_true (by omega)
      (refine rO ?_; repeat' ((with_reducible first | refine rG ?_ | (refine rS ?_ ?_ <;> intro hp) | (refine rB ?_ ?_ <;> intro hb <;> try rw [hb]) | refine rD ?_ | refine rA ?_ | fail) <;> try simp only [go_sem, simprocAttr, hkI, hktI, hwk]))
      refine Q3 ?_
      cases hbf : beforeB L i k with
      | false =>
       rw [hbf, Bool.false_and] at hY
       (refine rO ?_; repeat' ((with_reducible first | refine rG ?_ | (refine rS ?_ ?_ <;> intro hp) | (refine rB ?_ ?_ <;> intro hb <;> try rw [hb]) | refine rD ?_ | refine rA ?_ | fail) <;> try simp only [go_sem, simprocAttr, hkI, hktI, hwk]))
       (refine ⟨k + 1, ?_, ?_, ⟨hkl, nx_all hqk hY⟩, by dsimp only; omega⟩ <;> simp only [go_sem, simprocAttr, hwk])
      | true =>
       rw [hbf, Bool.true_and] at hY
       (refine rO ?_; repeat' ((with_reducible first | refine rG ?_ | (refine rS ?_ ?_ <;> intro hp) | (refine rB ?_ ?_ <;> intro hb <;> try rw [hb]) | refine rD ?_ | refine rA ?_ | fail) <;> try simp only [go_sem, simprocAttr, hkI, hktI, hwk]))
       refine Q2 ?_
       (refine rO ?_; repeat' ((with_reducible first | refine rG ?_ | (refine rS ?_ ?_ <;> intro hp) | (refine rB ?_ ?_ <;> intro hb <;> try rw [hb]) | refine rD ?_ | refine rA ?_ | fail) <;> try simp only [go_sem, simprocAttr, hkI, hktI, hwk]))
       refine Q4 ?_
       by_cases h2 : stP old i = 2
       ·have h2I : (stP old i = 2) = True := eq_true h2
        rw [decide_eq_true h2] at hY
        cases hbi : set.testBit i with
        | false =>
         rw [hbi] at hY
         (refine rO ?_; repeat' ((with_reducible first | refine rG ?_ | (refine rS ?_ ?_ <;> intro hp) | (refine rB ?_ ?_ <;> intro hb <;> try rw [hb]) | refine rD ?_ | refine rA ?_ | fail) <;> try simp only [go_sem, simprocAttr, hkI, hktI, hwk, h2I]))
         ·rw [hfal hY]
         ·simp at hb
        | true =>
         rw [hbi] at hY
         (refine rO ?_; repeat' ((with_reducible first | refine rG ?_ | (refine rS ?_ ?_ <;> intro hp) | (refine rB ?_ ?_ <;> intro hb <;> try rw [hb]) | refine rD ?_ | refine rA ?_ | fail) <;> try simp only [go_sem, simprocAttr, hkI, hktI, hwk, h2I]))
         ·simp at hb
         ·(refine ⟨k + 1, ?_, ?_, ⟨hkl, nx_all hqk hY⟩, by dsimp only; omega⟩ <;> simp only [go_sem, simprocAttr, hwk])
       ·have h2I : (stP old i = 2) = False := eq_false h2
        rw [decide_eq_false h2] at hY
        cases hbi : set.testBit i with
        | false =>
         rw [hbi] at hY
         (refine rO ?_; repeat' ((with_reducible first | refine rG ?_ | (refine rS ?_ ?_ <;> intro hp) | (refine rB ?_ ?_ <;> intro hb <;> try rw [hb]) | refine rD ?_ | refine rA ?_ | fail) <;> try simp only [go_sem, simprocAttr, hkI, hktI, hwk, h2I]))
         ·simp at hb
         ·(refine ⟨k + 1, ?_, ?_, ⟨hkl, nx_all hqk hY⟩, by dsimp only; omega⟩ <;> simp only [go_sem, simprocAttr, hwk])
        | true =>
         rw [hbi] at hY
         (refine rO ?_; repeat' ((with_reducible first | refine rG ?_ | (refine rS ?_ ?_ <;> intro hp) | (refine rB ?_ ?_ <;> intro hb <;> try rw [hb]) | refine rD ?_ | refine rA ?_ | fail) <;> try simp only [go_sem, simprocAttr, hkI, hktI, hwk, h2I]))
         ·rw [hfal hY]
         ·simp at hb
     ·have hktI : ((k : Int) = (t : Int)) = False := eq_false (by omega)
      have hbk : set.testBit k = true := by rw [decide_eq_false hkt, Bool.false_or] at hb; exact hb
      (refine rO ?_; repeat' ((with_reducible first | refine rG ?_ | (refine rS ?_ ?_ <;> intro hp) | (refine rB ?_ ?_ <;> intro hb <;> try rw [hb]) | refine rD ?_ | refine rA ?_ | fail) <;> try simp only [go_sem, simprocAttr, hkI, hktI, hwk]))
      refine Q1 ?_
      rw [hbk]
      (refine rO ?_; repeat' ((with_reducible first | refine rG ?_ | (refine rS ?_ ?_ <;> intro hp) | (refine rB ?_ ?_ <;> intro hb <;> try rw [hb]) | refine rD ?_ | refine rA ?_ | fail) <;> try simp only [go_sem, simprocAttr, hkI, hktI, hwk]))
      refine Q3 ?_
      cases hbf : beforeB L i k with
      | false =>
       rw [hbf, Bool.false_and] at hY
       (refine rO ?_; repeat' ((with_reducible first | refine rG ?_ | (refine rS ?_ ?_ <;> intro hp) | (refine rB ?_ ?_ <;> intro hb <;> try rw [hb]) | refine rD ?_ | refine rA ?_ | fail) <;> try simp only [go_sem, simprocAttr, hkI, hktI, hwk]))
       (refine ⟨k + 1, ?_, ?_, ⟨hkl, nx_all hqk hY⟩, by dsimp only; omega⟩ <;> simp only [go_sem, simprocAttr, hwk])
      | true =>
       rw [hbf, Bool.true_and] at hY
       (refine rO ?_; repeat' ((with_reducible first | refine rG ?_ | (refine rS ?_ ?_ <;> intro hp) | (refine rB ?_ ?_ <;> intro hb <;> try rw [hb]) | refine rD ?_ | refine rA ?_ | fail) <;> try simp only [go_sem, simprocAttr, hkI, hktI, hwk]))
       refine Q2 ?_
       (refine rO ?_; repeat' ((with_reducible first | refine rG ?_ | (refine rS ?_ ?_ <;> intro hp) | (refine rB ?_ ?_ <;> intro hb <;> try rw [hb]) | refine rD ?_ | refine rA ?_ | fail) <;> try simp only [go_sem, simprocAttr, hkI, hktI, hwk]))
       refine Q4 ?_
       by_cases h2 : stP old i = 2
       ·have h2I : (stP old i = 2) = True := eq_true h2
        rw [decide_eq_true h2] at hY
        cases hbi : set.testBit i with
        | false =>
         rw [hbi] at hY
         (refine rO ?_; repeat' ((with_reducible first | refine rG ?_ | (refine rS ?_ ?_ <;> intro hp) | (refine rB ?_ ?_ <;> intro hb <;> try rw [hb]) | refine rD ?_ | refine rA ?_ | fail) <;> try simp only [go_sem, simprocAttr, hkI, hktI, hwk, h2I]))
         ·rw [hfal hY]
         ·simp at hb
        | true =>
         rw [hbi] at hY
         (refine rO ?_; repeat' ((with_reducible first | refine rG ?_ | (refine rS ?_ ?_ <;> intro hp) | (refine rB ?_ ?_ <;> intro hb <;> try rw [hb]) | refine rD ?_ | refine rA ?_ | fail) <;> try simp only [go_sem, simprocAttr, hkI, hktI, hwk, h2I]))
         ·simp at hb
         ·(refine ⟨k + 1, ?_, ?_, ⟨hkl, nx_all hqk hY⟩, by dsimp only; omega⟩ <;> simp only [go_sem, simprocAttr, hwk])
       ·have h2I : (stP old i = 2) = False := eq_false h2
        rw [decide_eq_false h2] at hY
        cases hbi : set.testBit i with
        | false =>
         rw [hbi] at hY
         (refine rO ?_; repeat' ((with_reducible first | refine rG ?_ | (refine rS ?_ ?_ <;> intro hp) | (refine rB ?_ ?_ <;> intro hb <;> try rw [hb]) | refine rD ?_ | refine rA ?_ | fail) <;> try simp only [go_sem, simprocAttr, hkI, hktI, hwk, h2I]))
         ·simp at hb
         ·(refine ⟨k + 1, ?_, ?_, ⟨hkl, nx_all hqk hY⟩, by dsimp only; omega⟩ <;> simp only [go_sem, simprocAttr, hwk])
        | true =>
         rw [hbi] at hY
         (refine rO ?_; repeat' ((with_reducible first | refine rG ?_ | (refine rS ?_ ?_ <;> intro hp) | (refine rB ?_ ?_ <;> intro hb <;> try rw [hb]) | refine rD ?_ | refine rA ?_ | fail) <;> try simp only [go_sem, simprocAttr, hkI, hktI, hwk, h2I]))
         ·rw [hfal hY]
         ·simp at hb
   ·have hkI : ((k : Int) < (L.length : Int)) = False := eq_false (by omega)
    have hall : (List.range L.length).all (cloY L old t set i) = true := by
     rw [List.all_eq_true]; intro q hq'; exact hqk q (by have := List.mem_range.1 hq'; omega)
    have hh : cloX L old t set i = true := by rw [hX, hall]; simp
    (refine rO ?_; repeat' ((with_reducible first | refine rG ?_ | (refine rS ?_ ?_ <;> intro hp) | (refine rB ?_ ?_ <;> intro hb <;> try rw [hb]) | refine rD ?_ | refine rA ?_ | fail) <;> try simp only [go_sem, simprocAttr, hkI, hwi]))
    (refine ⟨i + 1, ?_, ?_, ⟨hil, nx_all hq hh⟩, by dsimp only; omega⟩ <;> simp only [go_sem, simprocAttr, hwi])
 ·have hiI : ((i : Int) < (L.length : Int)) = False := eq_false (by omega)
  have hall : (List.range L.length).all (cloX L old t set) = true := by
   rw [List.all_eq_true]; intro q hq'; exact hq q (by have := List.mem_range.1 hq'; omega)
  rw [hall, Bool.true_and] at e
  rw [e]
  (refine rO ?_; repeat' ((with_reducible first | refine rG ?_ | (refine rS ?_ ?_ <;> intro hp) | (refine rB ?_ ?_ <;> intro hb <;> try rw [hb]) | refine rD ?_ | refine rA ?_ | fail) <;> try simp only [go_sem, simprocAttr, hiI]))
  refine call_dat (t100 set t hs (by omega)) ?_
  (refine rO ?_; repeat' ((with_reducible first | refine rG ?_ | (refine rS ?_ ?_ <;> intro hp) | (refine rB ?_ ?_ <;> intro hb <;> try rw [hb]) | refine rD ?_ | refine rA ?_ | fail) <;> try simp only [go_sem, simprocAttr]))
def fitP (L old : List Txn) (t : Nat) (kind : Int) (set : Nat) : Bool := someP L old set && (if kind = 3 ∨ kind = 5 then cloP L old t set && !behP L t set else ((List.range L.length).all fun i => !(decide (stP old i = 2) && !set.testBit i)) && (set.testBit t == decide (kind = 7)))
theorem t1099 (set : Nat) (hL : L.length ≤ 6) (ho : old.length ≤ 6) (hS : StT L) (ht : t < L.length) (hs : set < 2 ^ 32) : Holds Tryz.prog GL 57 [pA L old t kind, U set] [.a (B (fitP L old t kind set))] := by
 refine fn_holds (vs := [.tmp 4]) (by kernel_rfl) Tryz.func57 rfl rfl (by kernel_rfl) (by kernel_rfl) rfl ?_
 have h1 := t1157 L old t kind set hL ho hs
 have h2 := t1158 L old t kind set hL ho hS ht hs
 have h3 := t1159 L old t kind set hL hS ht hs
 have e : fitP L old t kind set = (someP L old set && (if kind = 3 ∨ kind = 5 then cloP L old t set && !behP L t set else ((List.range L.length).all fun i => !(decide (stP old i = 2) && !set.testBit i)) && (set.testBit t == decide (kind = 7)))) := rfl
 (refine rO ?_; repeat' ((with_reducible first | refine rG ?_ | (refine rS ?_ ?_ <;> intro hp) | (refine rB ?_ ?_ <;> intro hb <;> try rw [hb]) | refine rD ?_ | refine rA ?_ | fail) <;> try simp only [go_sem, simprocAttr]))
 refine call_dat h1 ?_
 cases hs1 : someP L old set with
 | false =>
  rw [hs1, Bool.false_and] at e
  rw [e]
  (refine rO ?_; repeat' ((with_reducible first | refine rG ?_ | (refine rS ?_ ?_ <;> intro hp) | (refine rB ?_ ?_ <;> intro hb <;> try rw [hb]) | refine rD ?_ | refine rA ?_ | fail) <;> try simp only [go_sem, simprocAttr]))
 | true =>
  rw [hs1, Bool.true_and] at e
  by_cases hk : kind = 3 ∨ kind = 5
  ·rw [if_pos hk] at e
   rw [e]
   by_cases k3 : kind = 3
   ·have k3I : (kind = 3) = True := eq_true k3
    (refine rO ?_; repeat' ((with_reducible first | refine rG ?_ | (refine rS ?_ ?_ <;> intro hp) | (refine rB ?_ ?_ <;> intro hb <;> try rw [hb]) | refine rD ?_ | refine rA ?_ | fail) <;> try simp only [go_sem, simprocAttr, k3I]))
    refine call_dat h2 ?_
    cases cloP L old t set with
    | false =>
     (refine rO ?_; repeat' ((with_reducible first | refine rG ?_ | (refine rS ?_ ?_ <;> intro hp) | (refine rB ?_ ?_ <;> intro hb <;> try rw [hb]) | refine rD ?_ | refine rA ?_ | fail) <;> try simp only [go_sem, simprocAttr, k3I]))
     rfl
    | true =>
     (refine rO ?_; repeat' ((with_reducible first | refine rG ?_ | (refine rS ?_ ?_ <;> intro hp) | (refine rB ?_ ?_ <;> intro hb <;> try rw [hb]) | refine rD ?_ | refine rA ?_ | fail) <;> try simp only [go_sem, simprocAttr, k3I]))
     refine call_dat h3 ?_
     (refine rO ?_; repeat' ((with_reducible first | refine rG ?_ | (refine rS ?_ ?_ <;> intro hp) | (refine rB ?_ ?_ <;> intro hb <;> try rw [hb]) | refine rD ?_ | refine rA ?_ | fail) <;> try simp only [go_sem, simprocAttr]))
     simp
   ·have k3I : (kind = 3) = False := eq_false k3
    have k5I : (kind = 5) = True := eq_true (hk.resolve_left k3)
    (refine rO ?_; repeat' ((with_reducible first | refine rG ?_ | (refine rS ?_ ?_ <;> intro hp) | (refine rB ?_ ?_ <;> intro hb <;> try rw [hb]) | refine rD ?_ | refine rA ?_ | fail) <;> try simp only [go_sem, simprocAttr, k3I, k5I]))
    refine call_dat h2 ?_
    cases cloP L old t set with
    | false =>
     (refine rO ?_; repeat' ((with_reducible first | refine rG ?_ | (refine rS ?_ ?_ <;> intro hp) | (refine rB ?_ ?_ <;> intro hb <;> try rw [hb]) | refine rD ?_ | refine rA ?_ | fail) <;> try simp only [go_sem, simprocAttr, k3I]))
     rfl
    | true =>
     (refine rO ?_; repeat' ((with_reducible first | refine rG ?_ | (refine rS ?_ ?_ <;> intro hp) | (refine rB ?_ ?_ <;> intro hb <;> try rw [hb]) | refine rD ?_ | refine rA ?_ | fail) <;> try simp only [go_sem, simprocAttr, k3I, k5I]))
     refine call_dat h3 ?_
     (refine rO ?_; repeat' ((with_reducible first | refine rG ?_ | (refine rS ?_ ?_ <;> intro hp) | (refine rB ?_ ?_ <;> intro hb <;> try rw [hb]) | refine rD ?_ | refine rA ?_ | fail) <;> try simp only [go_sem, simprocAttr]))
     simp
  ·have k3I : (kind = 3) = False := eq_false fun h => hk (.inl h)
   have k5I : (kind = 5) = False := eq_false fun h => hk (.inr h)
   rw [if_neg hk] at e
   rw [e]
   have hX : ∀ i, (fun i => !(decide (stP old i = 2) && !set.testBit i)) i = !(decide (stP old i = 2) && !set.testBit i) := fun i => rfl
   generalize (fun i => !(decide (stP old i = 2) && !set.testBit i)) = X at hX
   (refine rO ?_; repeat' ((with_reducible first | refine rG ?_ | (refine rS ?_ ?_ <;> intro hp) | (refine rB ?_ ?_ <;> intro hb <;> try rw [hb]) | refine rD ?_ | refine rA ?_ | fail) <;> try simp only [go_sem, simprocAttr, k3I, k5I, List.length_map, txns_len]))
   refine awp_loopA (fun i : Nat => [(1, .a (U set)), (2, .ref 2 0), (29, .a (I L.length)), (30, .a (I i))]) (fun _ => [(2, .box [.a (txnsA L), .a (txnsA old), .a (I t), .a (I kind)])]) (fun i => i ≤ L.length ∧ ∀ q, q < i → X q = true) (L.length - ·) 0 ?_ ?_ ⟨Nat.zero_le _, fun q hq => by omega⟩ ?_
   ·simp only [go_sem, simprocAttr, List.length_map, txns_len]
   ·simp only [go_sem, simprocAttr]
   intro i j ⟨hi, hq⟩
   by_cases hil : i < L.length
   ·have hiI : ((i : Int) < (L.length : Int)) = True := eq_true (by omega)
    have hwi := wrap_succ (n := L.length) hil (by simp only [maxLen]; omega)
    have hst := t1160 L old t kind i ho
    have hbt := t100 set i hs (by omega)
    have hXi := hX i
    (refine rO ?_; repeat' ((with_reducible first | refine rG ?_ | (refine rS ?_ ?_ <;> intro hp) | (refine rB ?_ ?_ <;> intro hb <;> try rw [hb]) | refine rD ?_ | refine rA ?_ | fail) <;> try simp only [go_sem, simprocAttr, hiI]))
    refine call_dat hst ?_
    by_cases h2 : stP old i = 2
    ·have h2I : (stP old i = 2) = True := eq_true h2
     rw [decide_eq_true h2, Bool.true_and, Bool.not_not] at hXi
     (refine rO ?_; repeat' ((with_reducible first | refine rG ?_ | (refine rS ?_ ?_ <;> intro hp) | (refine rB ?_ ?_ <;> intro hb <;> try rw [hb]) | refine rD ?_ | refine rA ?_ | fail) <;> try simp only [go_sem, simprocAttr, h2I]))
     refine call_dat hbt ?_
     cases hb : set.testBit i with
     | false =>
      rw [hb] at hXi
      (refine rO ?_; repeat' ((with_reducible first | refine rG ?_ | (refine rS ?_ ?_ <;> intro hp) | (refine rB ?_ ?_ <;> intro hb <;> try rw [hb]) | refine rD ?_ | refine rA ?_ | fail) <;> try simp only [go_sem, simprocAttr, h2I]))
      have : (List.range L.length).all X = false := by
       rw [List.all_eq_false]; exact ⟨i, List.mem_range.2 hil, by rw [hXi]; decide⟩
      rw [this]; rfl
     | true =>
      rw [hb] at hXi
      (refine rO ?_; repeat' ((with_reducible first | refine rG ?_ | (refine rS ?_ ?_ <;> intro hp) | (refine rB ?_ ?_ <;> intro hb <;> try rw [hb]) | refine rD ?_ | refine rA ?_ | fail) <;> try simp only [go_sem, simprocAttr, h2I, hwi]))
      (refine ⟨i + 1, ?_, ?_, ⟨hil, nx_all hq hXi⟩, by dsimp only; omega⟩ <;> simp only [go_sem, simprocAttr, hwi])
    ·have h2I : (stP old i = 2) = False := eq_false h2
     rw [decide_eq_false h2, Bool.false_and] at hXi
     (refine rO ?_; repeat' ((with_reducible first | refine rG ?_ | (refine rS ?_ ?_ <;> intro hp) | (refine rB ?_ ?_ <;> intro hb <;> try rw [hb]) | refine rD ?_ | refine rA ?_ | fail) <;> try simp only [go_sem, simprocAttr, h2I, hwi]))
     (refine ⟨i + 1, ?_, ?_, ⟨hil, nx_all hq hXi⟩, by dsimp only; omega⟩ <;> simp only [go_sem, simprocAttr, hwi])
   ·have hiI : ((i : Int) < (L.length : Int)) = False := eq_false (by omega)
    have hall : (List.range L.length).all X = true := by
     rw [List.all_eq_true]; intro q hq'; exact hq q (by have := List.mem_range.1 hq'; omega)
    rw [hall, Bool.true_and]
    have Q1 := fun {σ : S} {KR : R → Prop} => q100 (C := set) (k := t) hs (by omega) (σ := σ) (KR := KR)
    (refine rO ?_; repeat' ((with_reducible first | refine rG ?_ | (refine rS ?_ ?_ <;> intro hp) | (refine rB ?_ ?_ <;> intro hb <;> try rw [hb]) | refine rD ?_ | refine rA ?_ | fail) <;> try simp only [go_sem, simprocAttr, hiI]))
    refine Q1 ?_
    by_cases k7 : kind = 7
    ·have k7I : (kind = 7) = True := eq_true k7
     rw [decide_eq_true k7]
     (refine rO ?_; repeat' ((with_reducible first | refine rG ?_ | (refine rS ?_ ?_ <;> intro hp) | (refine rB ?_ ?_ <;> intro hb <;> try rw [hb]) | refine rD ?_ | refine rA ?_ | fail) <;> try simp only [go_sem, simprocAttr, k7I]))
    ·have k7I : (kind = 7) = False := eq_false k7
     rw [decide_eq_false k7]
     (refine rO ?_; repeat' ((with_reducible first | refine rG ?_ | (refine rS ?_ ?_ <;> intro hp) | (refine rB ?_ ?_ <;> intro hb <;> try rw [hb]) | refine rD ?_ | refine rA ?_ | fail) <;> try simp only [go_sem, simprocAttr, k7I]))
end
end Go.VC
end
section
set_option maxRecDepth 100000
namespace Go.VC
open Go.RowKit Go.Proofs Go.IntWalk
def nameP (x : Int) (t : Txn) : Bool := t.name == x
theorem t1137 (t : Txn) (x : Int) : Holds Tryz.prog GL 79 [t.a, .d (.pt [dI x])] [.a (B (nameP x t))] := by
 refine fn_holds (vs := [.tmp 3]) (by kernel_rfl) Tryz.func79 rfl rfl (by kernel_rfl) (by kernel_rfl) rfl ?_
 have e : nameP x t = (t.name == x) := rfl
 (refine rO ?_; repeat' ((with_reducible first | refine rG ?_ | (refine rS ?_ ?_ <;> intro hp) | (refine rB ?_ ?_ <;> intro hb <;> try rw [hb]) | refine rD ?_ | refine rA ?_ | fail) <;> try simp only [go_sem, simprocAttr, Txn.enc_eq]))
 ·rw [e]; simp_all
 ·rw [e]; simp_all
theorem t1136 (l : List Txn) (f : FuncId) (c : D) (p : Txn → Bool) (hl : l.length ≤ 1000) (hf : ∀ e ∈ l, Holds Tryz.prog GL f [e.a, .d c] [.a (B (p e))]) : Holds Tryz.prog GL 78 [txnsA l, .d (.fn f [c])] [.a (I (idxOf p l))] := by
 refine fn_holds (vs := [.tmp 4]) (by kernel_rfl) Tryz.func78 rfl rfl (by kernel_rfl) (by kernel_rfl) rfl ?_
 (refine rO ?_; repeat' ((with_reducible first | refine rG ?_ | (refine rS ?_ ?_ <;> intro hp) | (refine rB ?_ ?_ <;> intro hb <;> try rw [hb]) | refine rD ?_ | refine rA ?_ | fail) <;> try simp only [go_sem, simprocAttr, List.length_map, txns_len]))
 refine awp_loopA (fun k : Nat => [(0, .a (txnsA l)), (1, .a (.d (.fn f [c]))), (7, .a (I l.length)), (8, .a (I k))]) (fun _ => []) (fun k => k ≤ l.length ∧ noneTo p l k) (l.length - ·) 0 ?_ ?_ ⟨Nat.zero_le _, noneTo_0⟩ ?_
 ·simp only [go_sem, simprocAttr, List.length_map, txns_len]
 ·simp only [go_sem, simprocAttr]
 intro k j ⟨hk, hn⟩
 (refine rO ?_; repeat' ((with_reducible first | refine rG ?_ | (refine rS ?_ ?_ <;> intro hp) | (refine rB ?_ ?_ <;> intro hb <;> try rw [hb]) | refine rD ?_ | refine rA ?_ | fail) <;> try simp only [go_sem, simprocAttr]))
 ·have hkl : k < l.length := by omega
  have hx : l[k]? = some l[k] := List.getElem?_eq_getElem hkl
  have hw := wrap_succ (n := l.length) hkl (by simp only [maxLen]; omega)
  (refine rO ?_; repeat' ((with_reducible first | refine rG ?_ | (refine rS ?_ ?_ <;> intro hp) | (refine rB ?_ ?_ <;> intro hb <;> try rw [hb]) | refine rD ?_ | refine rA ?_ | fail) <;> try simp only [go_sem, simprocAttr, hx, Txn.enc_eq, hw]))
  refine call_dat (hf l[k] (List.getElem_mem hkl)) ?_
  (refine rO ?_; repeat' ((with_reducible first | refine rG ?_ | (refine rS ?_ ?_ <;> intro hp) | (refine rB ?_ ?_ <;> intro hb <;> try rw [hb]) | refine rD ?_ | refine rA ?_ | fail) <;> try simp only [go_sem, simprocAttr, hx, Txn.enc_eq, hw]))
  ·exact (idx_hit hkl hn hb).symm
  ·(refine ⟨k + 1, ?_, ?_, ⟨hkl, noneTo_s hkl hn hb⟩, by dsimp only; omega⟩ <;> simp only [go_sem, simprocAttr])
 ·exact (idx_none (by omega) hn).symm
theorem t1073 (T : List Txn) (x : Int) (t : Nat) (hT : T.length ≤ 6) (ht : idxOf (nameP x) T = t) : Holds Tryz.prog GL 50 [txnsA T, I x] [.a (I t), .a (I 0)] := by
 refine fn_holds (vs := [.tmp 4, .tmp 5]) (by kernel_rfl) Tryz.func50 rfl rfl (by kernel_rfl) (by kernel_rfl) rfl ?_
 have h1 := t1136 T 79 (.pt [dI x]) (nameP x) (by omega) (fun e _ => t1137 e x)
 rw [ht] at h1
 have hI : ((t : Int) < 0) = False := eq_false (by omega)
 (refine rO ?_; repeat' ((with_reducible first | refine rG ?_ | (refine rS ?_ ?_ <;> intro hp) | (refine rB ?_ ?_ <;> intro hb <;> try rw [hb]) | refine rD ?_ | refine rA ?_ | fail) <;> try simp only [go_sem, simprocAttr]))
 refine call_dat h1 ?_
 (refine rO ?_; repeat' ((with_reducible first | refine rG ?_ | (refine rS ?_ ?_ <;> intro hp) | (refine rB ?_ ?_ <;> intro hb <;> try rw [hb]) | refine rD ?_ | refine rA ?_ | fail) <;> try simp only [go_sem, simprocAttr, hI]))
theorem t1103 (T : List Txn) (x : Int) (hT : T.length ≤ 6) : Holds Tryz.prog GL 59 [txnsA T, I x] [.a (I (idxOf (nameP x) T))] := by
 refine fn_holds (vs := [.tmp 4]) (by kernel_rfl) Tryz.func59 rfl rfl (by kernel_rfl) (by kernel_rfl) rfl ?_
 (refine rO ?_; repeat' ((with_reducible first | refine rG ?_ | (refine rS ?_ ?_ <;> intro hp) | (refine rB ?_ ?_ <;> intro hb <;> try rw [hb]) | refine rD ?_ | refine rA ?_ | fail) <;> try simp only [go_sem, simprocAttr, List.length_map, txns_len]))
 refine awp_loopA (fun k : Nat => [(1, .a (I x)), (7, .a (txnsA T)), (8, .a (I T.length)), (9, .a (I k))]) (fun _ => []) (fun k => k ≤ T.length ∧ noneTo (nameP x) T k) (T.length - ·) 0 ?_ ?_ ⟨Nat.zero_le _, noneTo_0⟩ ?_
 ·simp only [go_sem, simprocAttr, List.length_map, txns_len]
 ·simp only [go_sem, simprocAttr]
 intro k j ⟨hk, hn⟩
 (refine rO ?_; repeat' ((with_reducible first | refine rG ?_ | (refine rS ?_ ?_ <;> intro hp) | (refine rB ?_ ?_ <;> intro hb <;> try rw [hb]) | refine rD ?_ | refine rA ?_ | fail) <;> try simp only [go_sem, simprocAttr]))
 ·have hkl : k < T.length := by omega
  have hx : T[k]? = some T[k] := List.getElem?_eq_getElem hkl
  have hw := wrap_succ (n := T.length) hkl (by simp only [maxLen]; omega)
  have hX : nameP x T[k] = (T[k].name == x) := rfl
  by_cases hnm : T[k].name = x
  ·have hnI : (T[k].name = x) = True := eq_true hnm
   (refine rO ?_; repeat' ((with_reducible first | refine rG ?_ | (refine rS ?_ ?_ <;> intro hp) | (refine rB ?_ ?_ <;> intro hb <;> try rw [hb]) | refine rD ?_ | refine rA ?_ | fail) <;> try simp only [go_sem, simprocAttr, hx, Txn.enc_eq, hw, hnI]))
   exact (idx_hit hkl hn (by rw [hX, hnm]; simp)).symm
  ·have hnI : (T[k].name = x) = False := eq_false hnm
   (refine rO ?_; repeat' ((with_reducible first | refine rG ?_ | (refine rS ?_ ?_ <;> intro hp) | (refine rB ?_ ?_ <;> intro hb <;> try rw [hb]) | refine rD ?_ | refine rA ?_ | fail) <;> try simp only [go_sem, simprocAttr, hx, Txn.enc_eq, hw, hnI]))
   have hh : nameP x T[k] = false := by rw [hX]; simpa using hnm
   (refine ⟨k + 1, ?_, ?_, ⟨hkl, noneTo_s hkl hn hh⟩, by dsimp only; omega⟩ <;> simp only [go_sem, simprocAttr, hw])
 ·exact (idx_none (by omega) hn).symm
def Flk : List (List Nat) := [[0, 1], []]
theorem isSt_at {l : List Txn} {k : Nat} {s : Int} {x : Txn} (hx : l[k]? = some x) : isSt l s k = decide (x.st = s) := by unfold isSt; rw [hx]
theorem t1096 (h : List Ev) (i t : Nat) (hi : i < h.length) (hE : checkE h = 0) (ht : idxOf (nameP h[i].tx) (txns (h.take (i + 1))) = t) : Holds Tryz.prog GL 24 [evsA h, I i]
  [.a (partA (h.take (i + 1)) (afterR (txns (h.take (i + 1)))) t (bitsN (isSt (txns (h.take i)) 2) (txns (h.take i)).length) (bitsN (isSt (txns (h.take i)) 1) (txns (h.take i)).length))] := by
 refine fn_holds (vs := [.cell 4 56]) (by kernel_rfl) Tryz.func24 rfl rfl (by kernel_rfl) (by kernel_rfl) rfl ?_
 have hE1 := check_take hE (show i + 1 ≤ h.length by omega)
 have hE0 := check_take hE (show i ≤ h.length by omega)
 have hA : aftersV (h.take (i + 1)) = afterR (txns (h.take (i + 1))) := by unfold aftersV; rw [if_pos hE1]
 have hT1 := txns_len6 (h.take (i + 1))
 have hT0 := txns_len6 (h.take i)
 have hfnd := t1073 (txns (h.take (i + 1))) h[i].tx t hT1 ht
 have hx : h[i]? = some h[i] := List.getElem?_eq_getElem hi
 have hwi : IntKind.i64.wrap ((i : Int) + 1) = ((i + 1 : Nat) : Int) := wrap_succ (n := h.length) hi (by
  have := check60 hE
  simp only [maxLen]; omega)
 have k0 : (0 : Int) ≤ ((i + 1 : Nat) : Int) := by omega
 have k1 : ((i + 1 : Nat) : Int) ≤ (h.length : Int) := by omega
 have j0 : (0 : Int) ≤ (i : Int) := by omega
 have j1 : (i : Int) ≤ (h.length : Int) := by omega
 have htk : ∀ k, (h.map Ev.enc).take k = (h.take k).map Ev.enc := fun k => (List.map_take ..).symm
 generalize h[i] = ev at hx hfnd
 generalize hh1 : h.take (i + 1) = h1 at *
 generalize hh0 : h.take i = hz at *
 generalize hTT : txns h1 = T at *
 generalize hOO : txns hz = old at *
 (refine rO ?_; repeat' ((with_reducible first | refine rG ?_ | (refine rS ?_ ?_ <;> intro hp) | (refine rB ?_ ?_ <;> intro hb <;> try rw [hb]) | refine rD ?_ | apply c15 | apply c56 | refine rA ?_ | fail) <;> try simp only [go_sem, simprocAttr, List.length_map, hwi, k0, k1, htk, hh1, Int.toNat_natCast, Int.toNat_zero, hE1, hA, hTT]))
 refine SemOp.old ?_
 (refine rO ?_; repeat' ((with_reducible first | refine rG ?_ | (refine rS ?_ ?_ <;> intro hp) | (refine rB ?_ ?_ <;> intro hb <;> try rw [hb]) | refine rD ?_ | apply c15 | apply c56 | refine rA ?_ | fail) <;> try simp only [go_sem, simprocAttr, y_build0, List.length_map, hwi, htk, hh1, hE1, hA, hx, Ev.enc_eq, hTT]))
 refine call_dat hfnd ?_
 (refine rO ?_; repeat' ((with_reducible first | refine rG ?_ | (refine rS ?_ ?_ <;> intro hp) | (refine rB ?_ ?_ <;> intro hb <;> try rw [hb]) | refine rD ?_ | apply c56 | refine rA ?_ | fail) <;> try simp only [go_sem, simprocAttr, List.length_map, j0, j1, htk, hh0, Int.toNat_natCast, Int.toNat_zero, hE0, txns_len, hOO]))
 refine awp_loopA (fun k : Nat => [(4, .ref 4 0), (5, .ref 5 0), (48, .a (txnsA old)), (49, .a (I old.length)), (50, .a (I k))]) (fun k => [(4, .box [.a (.d (.sl [])), .a (.d (.sl [])), .a (I 0), .a (U 0), .a (U 0)]), (5, .box [.a (.d (.sl (h1.map Ev.enc))), .a (unsA (afterR T)), .a (I t), .a (U (bitsN (isSt old 2) k)), .a (U (bitsN (isSt old 1) k))])]) (fun k => k ≤ old.length) (old.length - ·) 0 ?_ ?_ (Nat.zero_le _) ?_
 ·simp only [go_sem, simprocAttr, List.length_map, txns_len]
 ·simp only [go_sem, simprocAttr, bitsN]; exact ⟨rfl, rfl⟩
 intro k j hk
 by_cases hkl : k < old.length
 ·have hkI : ((k : Int) < (old.length : Int)) = True := eq_true (by omega)
  have hw := wrap_succ (n := old.length) hkl (by simp only [maxLen]; omega)
  have hy : old[k]? = some old[k] := List.getElem?_eq_getElem hkl
  have i2 := isSt_at (s := 2) hy
  have i1 := isSt_at (s := 1) hy
  generalize old[k] = x at hy i2 i1
  have hs2 : ∀ s, bitsN (isSt old s) (k + 1) = bitsN (isSt old s) k + if isSt old s k then 2 ^ k else 0 := fun _ => rfl
  have o2 := bitsN_or (isSt old 2) k
  have o1 := bitsN_or (isSt old 1) k
  have p0 : 2 ^ k < 2 ^ 32 := Nat.pow_lt_pow_right (by omega) (by omega)
  have l2 : bitsN (isSt old 2) k < 2 ^ 32 := Nat.lt_of_lt_of_le (bitsN_lt _ _) (Nat.pow_le_pow_right (by omega) (by omega))
  have l1 : bitsN (isSt old 1) k < 2 ^ 32 := Nat.lt_of_lt_of_le (bitsN_lt _ _) (Nat.pow_le_pow_right (by omega) (by omega))
  have hsh := u32_shl (k := k) (by omega)
  have r2 := u32_or l2 p0
  have r1 := u32_or l1 p0
  by_cases e2 : x.st = 2
  ·have e2I : (x.st = 2) = True := eq_true e2
   have e1 : ¬ x.st = 1 := by omega
   have f2 : bitsN (isSt old 2) (k + 1) = bitsN (isSt old 2) k ||| 2 ^ k := by rw [hs2, i2, o2, decide_eq_true e2]; rfl
   have f1 : bitsN (isSt old 1) (k + 1) = bitsN (isSt old 1) k := by rw [hs2, i1, decide_eq_false e1]; rfl
   (refine rO ?_; repeat' ((with_reducible first | refine rG ?_ | (refine rS ?_ ?_ <;> intro hp) | (refine rB ?_ ?_ <;> intro hb <;> try rw [hb]) | refine rD ?_ | refine draw_F Flk (by decide +kernel) ?_ | refine rA ?_ | fail) <;> try simp only [go_sem, simprocAttr, hkI, hy, Txn.enc_eq, e2I, hsh, r2, hw, PG, Flk]))
   (refine ⟨k + 1, ?_, ?_, hkl, by dsimp only; omega⟩ <;> simp only [go_sem, simprocAttr, hw, f2, f1])
  ·have e2I : (x.st = 2) = False := eq_false e2
   have f2 : bitsN (isSt old 2) (k + 1) = bitsN (isSt old 2) k := by rw [hs2, i2, decide_eq_false e2]; rfl
   by_cases e1 : x.st = 1
   ·have e1I : (x.st = 1) = True := eq_true e1
    have f1 : bitsN (isSt old 1) (k + 1) = bitsN (isSt old 1) k ||| 2 ^ k := by rw [hs2, i1, o1, decide_eq_true e1]; rfl
    (refine rO ?_; repeat' ((with_reducible first | refine rG ?_ | (refine rS ?_ ?_ <;> intro hp) | (refine rB ?_ ?_ <;> intro hb <;> try rw [hb]) | refine rD ?_ | refine draw_F Flk (by decide +kernel) ?_ | refine rA ?_ | fail) <;> try simp only [go_sem, simprocAttr, hkI, hy, Txn.enc_eq, e2I, e1I, hsh, r1, hw, PG, Flk]))
    (refine ⟨k + 1, ?_, ?_, hkl, by dsimp only; omega⟩ <;> simp only [go_sem, simprocAttr, hw, f2, f1])
   ·have e1I : (x.st = 1) = False := eq_false e1
    have f1 : bitsN (isSt old 1) (k + 1) = bitsN (isSt old 1) k := by rw [hs2, i1, decide_eq_false e1]; rfl
    (refine rO ?_; repeat' ((with_reducible first | refine rG ?_ | (refine rS ?_ ?_ <;> intro hp) | (refine rB ?_ ?_ <;> intro hb <;> try rw [hb]) | refine rD ?_ | refine rA ?_ | fail) <;> try simp only [go_sem, simprocAttr, hkI, hy, Txn.enc_eq, e2I, e1I, hw]))
    (refine ⟨k + 1, ?_, ?_, hkl, by dsimp only; omega⟩ <;> simp only [go_sem, simprocAttr, hw, f2, f1])
 ·have hkI : ((k : Int) < (old.length : Int)) = False := eq_false (by omega)
  have hke : k = old.length := by omega
  subst hke
  (refine rO ?_; repeat' ((with_reducible first | refine rG ?_ | (refine rS ?_ ?_ <;> intro hp) | (refine rB ?_ ?_ <;> intro hb <;> try rw [hb]) | refine rD ?_ | refine rA ?_ | fail) <;> try simp only [go_sem, simprocAttr, hkI]))
end Go.VC
end
section
set_option maxRecDepth 100000
namespace Go.VC
open Go.RowKit Go.Proofs Go.IntWalk
theorem t1162 (r : List Int) (x : Int) (hr : r.length ≤ 1000) : Holds Tryz.prog GL 42 [intsA r, I x] [.a (intsA (r ++ [x]))] := by
 refine fn_holds (vs := [.tmp 4]) (by kernel_rfl) Tryz.func42 rfl rfl (by kernel_rfl) (by kernel_rfl) rfl ?_
 (refine rO ?_; repeat' ((with_reducible first | refine rG ?_ | (refine rS ?_ ?_ <;> intro hp) | (refine rB ?_ ?_ <;> intro hb <;> try rw [hb]) | refine rD ?_ | refine rA ?_ | fail) <;> try simp only [go_sem, simprocAttr, List.length_map]))
 simp only [List.map_append, List.map_cons, List.map_nil, ienc_eq, List.nil_append]
def wholeP (t : Nat) (kind : Int) (r : List Int) : List Int := if kind = 3 ∨ kind = 5 then r ++ [(t : Int)] else r
theorem t1101 (L old : List Txn) (t : Nat) (kind : Int) (r : List Int) (hr : r.length ≤ 1000) : Holds Tryz.prog GL 58 [pA L old t kind, intsA r] [.a (intsA (wholeP t kind r))] := by
 refine fn_holds (vs := [.tmp 4]) (by kernel_rfl) Tryz.func58 rfl rfl (by kernel_rfl) (by kernel_rfl) rfl ?_
 by_cases k3 : kind = 3
 ·have k3I : (kind = 3) = True := eq_true k3
  rw [wholeP, if_pos (.inl k3)]
  (refine rO ?_; repeat' ((with_reducible first | refine rG ?_ | (refine rS ?_ ?_ <;> intro hp) | (refine rB ?_ ?_ <;> intro hb <;> try rw [hb]) | refine rD ?_ | refine rA ?_ | fail) <;> try simp only [go_sem, simprocAttr, List.length_map, k3I]))
  simp only [List.map_append, List.map_cons, List.map_nil, ienc_eq, List.nil_append]
 ·have k3I : (kind = 3) = False := eq_false k3
  by_cases k5 : kind = 5
  ·have k5I : (kind = 5) = True := eq_true k5
   rw [wholeP, if_pos (.inr k5)]
   (refine rO ?_; repeat' ((with_reducible first | refine rG ?_ | (refine rS ?_ ?_ <;> intro hp) | (refine rB ?_ ?_ <;> intro hb <;> try rw [hb]) | refine rD ?_ | refine rA ?_ | fail) <;> try simp only [go_sem, simprocAttr, List.length_map, k3I, k5I]))
   simp only [List.map_append, List.map_cons, List.map_nil, ienc_eq, List.nil_append]
  ·have k5I : (kind = 5) = False := eq_false k5
   rw [wholeP, if_neg (fun h => h.elim k3 k5)]
   (refine rO ?_; repeat' ((with_reducible first | refine rG ?_ | (refine rS ?_ ?_ <;> intro hp) | (refine rB ?_ ?_ <;> intro hb <;> try rw [hb]) | refine rD ?_ | refine rA ?_ | fail) <;> try simp only [go_sem, simprocAttr, List.length_map, k3I, k5I]))
   omega
def Apt : List Nat := [0, 1, 2, 3, 4, 5, 6, 7, 8, 9, 10, 11, 12, 13, 14, 16]
theorem t1036 (h : List Ev) (i t : Nat) (hi : i < h.length) (hE : checkE h = 0) (ht : idxOf (nameP h[i].tx) (txns (h.take (i + 1))) = t) : Holds Tryz.prog GL 31 [evsA h, I i]
  [.a (pA (txns (h.take (i + 1))) (txns (h.take i)) t h[i].kind)] := by
 refine fn_holds (vs := [.cell 4 66]) (by kernel_rfl) Tryz.func31 rfl rfl (by kernel_rfl) (by kernel_rfl) rfl ?_
 have hE1 := check_take hE (show i + 1 ≤ h.length by omega)
 have hE0 := check_take hE (show i ≤ h.length by omega)
 have h1 := t32 (h.take (i + 1)) (check60 hE1)
 rw [table_eq hE1] at h1
 have h0 := t32 (h.take i) (check60 hE0)
 rw [table_eq hE0] at h0
 have hfnd := t1103 (txns (h.take (i + 1))) h[i].tx (txns_len6 _)
 rw [ht] at hfnd
 have hx : h[i]? = some h[i] := List.getElem?_eq_getElem hi
 have hwi : IntKind.i64.wrap ((i : Int) + 1) = ((i + 1 : Nat) : Int) := wrap_succ (n := h.length) hi (by
  have := check60 hE
  simp only [maxLen]; omega)
 have k0 : (0 : Int) ≤ ((i + 1 : Nat) : Int) := by omega
 have k1 : ((i + 1 : Nat) : Int) ≤ (h.length : Int) := by omega
 have j0 : (0 : Int) ≤ (i : Int) := by omega
 have j1 : (i : Int) ≤ (h.length : Int) := by omega
 have htk : ∀ k, (h.map Ev.enc).take k = (h.take k).map Ev.enc := fun k => (List.map_take ..).symm
 generalize h[i] = ev at hx hfnd ht
 generalize hh1 : h.take (i + 1) = ha at *
 generalize hh0 : h.take i = hz at *
 generalize hTT : txns ha = T at *
 generalize hOO : txns hz = old at *
 (refine rO ?_; repeat' ((with_reducible first | refine rG ?_ | (refine rS ?_ ?_ <;> intro hp) | (refine rB ?_ ?_ <;> intro hb <;> try rw [hb]) | refine rD ?_ | refine rA ?_ | fail) <;> try simp only [go_sem, simprocAttr, List.length_map, hwi, k0, k1, j0, j1, htk, hh1, hh0, Int.toNat_natCast, Int.toNat_zero]))
 refine draw_A 15 Apt (t := 66) (cs := [.a (.d (.sl [])), .a (.d (.sl [])), .a (I 0), .a (I 0)]) rfl rfl rfl rfl (by kernel_rfl) (by decide +kernel) ?_
 simp only [Apt, pickI, allocS, List.getElem?_cons_zero, List.getElem?_cons_succ]
 (refine rO ?_; repeat' ((with_reducible first | refine rG ?_ | (refine rS ?_ ?_ <;> intro hp) | (refine rB ?_ ?_ <;> intro hb <;> try rw [hb]) | refine rD ?_ | refine rA ?_ | fail) <;> try simp only [go_sem, simprocAttr, List.length_map, hwi, k0, k1, j0, j1, htk, hh1, hh0, hx, Ev.enc_eq, Int.toNat_natCast, Int.toNat_zero]))
 refine callQ_dat (res := [txnsA T]) h1 ?_
 (refine rO ?_; repeat' ((with_reducible first | refine rG ?_ | (refine rS ?_ ?_ <;> intro hp) | (refine rB ?_ ?_ <;> intro hb <;> try rw [hb]) | refine rD ?_ | refine rA ?_ | fail) <;> try simp only [go_sem, simprocAttr, List.length_map, hwi, k0, k1, j0, j1, htk, hh1, hh0, hx, Ev.enc_eq, Int.toNat_natCast, Int.toNat_zero]))
 refine callQ_dat (res := [txnsA old]) h0 ?_
 (refine rO ?_; repeat' ((with_reducible first | refine rG ?_ | (refine rS ?_ ?_ <;> intro hp) | (refine rB ?_ ?_ <;> intro hb <;> try rw [hb]) | refine rD ?_ | refine rA ?_ | fail) <;> try simp only [go_sem, simprocAttr, List.length_map, hwi, k0, k1, j0, j1, htk, hh1, hh0, hx, Ev.enc_eq, Int.toNat_natCast, Int.toNat_zero]))
 refine callQ_dat (res := [I t]) hfnd ?_
 (refine rO ?_; repeat' ((with_reducible first | refine rG ?_ | (refine rS ?_ ?_ <;> intro hp) | (refine rB ?_ ?_ <;> intro hb <;> try rw [hb]) | refine rD ?_ | refine rA ?_ | fail) <;> try simp only [go_sem, simprocAttr, List.length_map, hx, Ev.enc_eq]))
end Go.VC
end
section
set_option maxRecDepth 100000
namespace Go.VC
open Go.RowKit Go.Proofs Go.IntWalk
abbrev rrD (rs : List (List Int)) : List (List D) := rs.map fun r => [.sl (r.map ienc)]
abbrev rrA (rs : List (List Int)) : A := .d (.sl (rrD rs))
def newOk (T : List Txn) (set : Nat) (r : List Int) (k : Nat) : Bool := set.testBit k && (!(r.any fun y => (k : Int) == y) && keepsFrom T (r ++ [(k : Int)]) 0)
def newOf (T : List Txn) (set : Nat) (r : List Int) (k : Nat) : List (List Int) := if newOk T set r k then [r ++ [(k : Int)]] else []
def newTo (T : List Txn) (set : Nat) (r : List Int) (j : Nat) : List (List Int) := (List.range j).flatMap (newOf T set r)
def newR (T : List Txn) (set : Nat) (rs : List (List Int)) : List (List Int) := rs.flatMap fun r => newTo T set r T.length
def refN (T : List Txn) (set : Nat) : Nat → List (List Int)
 | 0 => [[]]
 | i + 1 => if set.testBit i then newR T set (refN T set i) else refN T set i
theorem newTo_s {T : List Txn} {set : Nat} {r : List Int} {j : Nat} : newTo T set r (j + 1) = newTo T set r j ++ newOf T set r j := by
 simp [newTo, List.range_succ, List.flatMap_append]
theorem newTo_le (T : List Txn) (set : Nat) (r : List Int) : ∀ j, (newTo T set r j).length ≤ j
 | 0 => by simp [newTo]
 | j + 1 => by
  rw [newTo_s, List.length_append]
  have := newTo_le T set r j
  have : (newOf T set r j).length ≤ 1 := by unfold newOf; split <;> simp
  omega
theorem newR_le (T : List Txn) (set : Nat) : ∀ rs, (newR T set rs).length ≤ rs.length * T.length
 | [] => by simp [newR]
 | r :: rs => by
  have h1 := newR_le T set rs
  have h2 := newTo_le T set r T.length
  simp only [newR, List.flatMap_cons, List.length_append, List.length_cons, Nat.add_mul, Nat.one_mul] at h1 ⊢
  omega
theorem refN_le {T : List Txn} (hT : T.length ≤ 6) (set : Nat) : ∀ i, (refN T set i).length ≤ 6 ^ i
 | 0 => by simp [refN]
 | i + 1 => by
  have h1 := refN_le hT set i
  have h2 := newR_le T set (refN T set i)
  have h3 : (refN T set i).length * T.length ≤ 6 ^ i * 6 := Nat.mul_le_mul h1 hT
  rw [Nat.pow_succ]
  unfold refN
  split <;> omega
theorem newTo_mem {T : List Txn} {set : Nat} {r x : List Int} {j : Nat} (h : x ∈ newTo T set r j) : ∃ k, k < j ∧ newOk T set r k = true ∧ x = r ++ [(k : Int)] := by
 obtain ⟨k, hk, hx⟩ := List.mem_flatMap.1 h
 unfold newOf at hx
 split at hx
 ·exact ⟨k, List.mem_range.1 hk, ‹_›, by simpa using hx⟩
 ·cases hx
theorem refN_in {T : List Txn} {set : Nat} : ∀ {i : Nat} {r : List Int}, r ∈ refN T set i → r.length ≤ i ∧ r.all (inT T.length) = true
 | 0, r, h => by
  obtain rfl : r = [] := by simpa [refN] using h
  simp
 | i + 1, r, h => by
  unfold refN at h
  split at h
  ·obtain ⟨q, hq, hr⟩ := List.mem_flatMap.1 h
   obtain ⟨k, hk, _, rfl⟩ := newTo_mem hr
   obtain ⟨h1, h2⟩ := refN_in hq
   refine ⟨by simp; omega, ?_⟩
   rw [List.all_append, h2]
   simpa using inT_iff.2 ⟨k, rfl, hk⟩
  ·obtain ⟨h1, h2⟩ := refN_in h
   exact ⟨by omega, h2⟩
theorem t1100 (T : List Txn) (set : Nat) (hT : T.length ≤ 6) (hS : StT T) (hs : set < 2 ^ 32) : Holds Tryz.prog GL 40 [txnsA T, U set] [.a (rrA (refN T set T.length))] := by
 refine fn_holds (vs := [.tmp 4]) (by kernel_rfl) Tryz.func40 rfl rfl (by kernel_rfl) (by kernel_rfl) rfl ?_
 (refine rO ?_; repeat' ((with_reducible first | refine rG ?_ | (refine rS ?_ ?_ <;> intro hp) | (refine rB ?_ ?_ <;> intro hb <;> try rw [hb]) | refine rD ?_ | refine rA ?_ | fail) <;> try simp only [go_sem, simprocAttr, List.length_map, txns_len]))
 refine awp_loopG (fun i σ => i ≤ T.length ∧ σ.regs 0 = .a (txnsA T) ∧ σ.regs 1 = .a (U set) ∧ σ.regs 5 = .a (rrA (refN T set i)) ∧ σ.regs 14 = .a (I T.length) ∧ σ.regs 15 = .a (I i)) (fun i => T.length - i) 0 ⟨_, g_frz (t := 5) (o := 12) (e := 35) (z := 1) (xs := rrD [[]]) ?_ ?_ (by omega), Nat.zero_le _, ?_, ?_, ?_, ?_, ?_⟩ ?_
 ·simp only [go_sem, simprocAttr]
 ·simp only [go_sem, simprocAttr]
 iterate 5 (· simp only [go_sem, simprocAttr, refN, S.frz])
 rintro i τ ⟨hi, r0, r1, r5, r14, r15⟩
 by_cases hil : i < T.length
 ·have hiI : ((i : Int) < (T.length : Int)) = True := eq_true (by omega)
  have hwi := wrap_succ (n := T.length) hil (by simp only [maxLen]; omega)
  have hbt := t100 set i hs (by omega)
  have e : refN T set (i + 1) = if set.testBit i then newR T set (refN T set i) else refN T set i := rfl
  have hin : ∀ r ∈ refN T set i, r.length ≤ i ∧ r.all (inT T.length) = true := fun r hr => refN_in hr
  have hle := refN_le hT set i
  have h6 : 6 ^ i ≤ 6 ^ 6 := Nat.pow_le_pow_right (by omega) (by omega)
  generalize refN T set i = rs at *
  (refine rO ?_; repeat' ((with_reducible first | refine rG ?_ | (refine rS ?_ ?_ <;> intro hp) | (refine rB ?_ ?_ <;> intro hb <;> try rw [hb]) | refine rD ?_ | refine rA ?_ | fail) <;> try simp only [go_sem, simprocAttr, r0, r1, r5, r14, r15, hiI]))
  refine call_dat hbt ?_
  cases hb : set.testBit i with
  | false =>
   (refine rO ?_; repeat' ((with_reducible first | refine rG ?_ | (refine rS ?_ ?_ <;> intro hp) | (refine rB ?_ ?_ <;> intro hb <;> try rw [hb]) | refine rD ?_ | refine rA ?_ | fail) <;> try simp only [go_sem, simprocAttr, r0, r1, r5, r14, r15, hwi]))
   refine ⟨_, i + 1, Ghost.refl _, ⟨hil, ?_, ?_, ?_, ?_, ?_⟩, by omega⟩
   iterate 5 (· simp only [go_sem, simprocAttr, r0, r1, r5, r14, r15, hwi, e, hb, if_false, Bool.false_eq_true])
  | true =>
   (refine rO ?_; repeat' ((with_reducible first | refine rG ?_ | (refine rS ?_ ?_ <;> intro hp) | (refine rB ?_ ?_ <;> intro hb <;> try rw [hb]) | refine rD ?_ | refine rA ?_ | fail) <;> try simp only [go_sem, simprocAttr, r0, r1, r5, r14, r15, List.length_map]))
   refine awp_loopA (fun j : Nat => [(0, .a (txnsA T)), (1, .a (U set)), (7, .own 22), (14, .a (I T.length)), (15, .a (I i)), (23, .a (rrA rs)), (24, .a (I rs.length)), (25, .a (I j))]) (fun j => [(22, .log 35 1 (rrD (newR T set (rs.take j))))]) (fun j => j ≤ rs.length) (rs.length - ·) 0 ?_ ?_ (Nat.zero_le _) ?_
   ·simp only [go_sem, simprocAttr, r0, r1, r14, r15, List.length_map]
   ·simp only [go_sem, simprocAttr, List.take_zero, newR, List.flatMap_nil, List.map_nil]
   intro j s hj
   by_cases hjl : j < rs.length
   ·have hjI : ((j : Int) < (rs.length : Int)) = True := eq_true (by omega)
    have hwj := wrap_succ (n := rs.length) hjl (by simp only [maxLen]; omega)
    have hx : rs[j]? = some rs[j] := List.getElem?_eq_getElem hjl
    obtain ⟨hrl, hra⟩ := hin _ (List.getElem_mem hjl)
    have hts : rs.take (j + 1) = rs.take j ++ [rs[j]] := List.take_succ_eq_append_getElem hjl
    generalize rs[j] = r at hx hrl hra hts
    have hnl := newR_le T set (rs.take j)
    have htl : (rs.take j).length = j := by simp; omega
    rw [htl] at hnl
    have hn2 : j * T.length ≤ 46656 * 6 := Nat.mul_le_mul (by omega) hT
    have hsr : newR T set (rs.take (j + 1)) = newR T set (rs.take j) ++ newTo T set r T.length := by
     rw [hts]; simp [newR, List.flatMap_append]
    generalize newR T set (rs.take j) = base at hnl hsr
    (refine rO ?_; repeat' ((with_reducible first | refine rG ?_ | (refine rS ?_ ?_ <;> intro hp) | (refine rB ?_ ?_ <;> intro hb <;> try rw [hb]) | refine rD ?_ | refine rA ?_ | fail) <;> try simp only [go_sem, simprocAttr, hjI, hx, List.length_map, txns_len]))
    refine awp_loopA (fun k : Nat => [(0, .a (txnsA T)), (1, .a (U set)), (7, .own 22), (9, .a (intsA r)), (14, .a (I T.length)), (15, .a (I i)), (23, .a (rrA rs)), (24, .a (I rs.length)), (25, .a (I j)), (30, .a (I T.length)), (31, .a (I k))]) (fun k => [(22, .log 35 1 (rrD (base ++ newTo T set r k)))]) (fun k => k ≤ T.length) (T.length - ·) 0 ?_ ?_ (Nat.zero_le _) ?_
    ·simp only [go_sem, simprocAttr, List.length_map, txns_len]
    ·simp only [go_sem, simprocAttr, newTo, List.range_zero, List.flatMap_nil, List.append_nil]
    intro k s2 hk
    by_cases hkl : k < T.length
    ·have hkI : ((k : Int) < (T.length : Int)) = True := eq_true (by omega)
     have hwk := wrap_succ (n := T.length) hkl (by simp only [maxLen]; omega)
     have e2 : newOk T set r k = (set.testBit k && (!(r.any fun y => (k : Int) == y) && keepsFrom T (r ++ [(k : Int)]) 0)) := rfl
     have e3 : newTo T set r (k + 1) = newTo T set r k ++ newOf T set r k := newTo_s
     have e4 : newOf T set r k = if newOk T set r k then [r ++ [(k : Int)]] else [] := rfl
     have hnt := newTo_le T set r k
     have hb2 := t100 set k hs (by omega)
     have hh := t94 r k
     have hw := t1162 r k (by omega)
     have hkp := t25 T hS (r ++ [(k : Int)]) (by simp; omega) (by rw [List.all_append, hra]; simpa using inT_iff.2 ⟨k, rfl, hkl⟩)
     generalize newTo T set r k = base2 at *
     generalize hok : newOk T set r k = ok at *
     generalize hany : (r.any fun y => (k : Int) == y) = any at *
     generalize hke : keepsFrom T (r ++ [(k : Int)]) 0 = kp at *
     generalize hbk : set.testBit k = bk at *
     (refine rO ?_; repeat' ((with_reducible first | refine rG ?_ | (refine rS ?_ ?_ <;> intro hp) | (refine rB ?_ ?_ <;> intro hb <;> try rw [hb]) | refine rD ?_ | refine rA ?_ | fail) <;> try simp only [go_sem, simprocAttr, hkI]))
     refine call_dat hb2 ?_
     have stay : ok = false → newTo T set r (k + 1) = base2 := fun h => by rw [e3, e4, h]; simp
     cases bk with
     | false =>
      have hst := stay (by rw [e2]; rfl)
      (refine rO ?_; repeat' ((with_reducible first | refine rG ?_ | (refine rS ?_ ?_ <;> intro hp) | (refine rB ?_ ?_ <;> intro hb <;> try rw [hb]) | refine rD ?_ | refine rA ?_ | fail) <;> try simp only [go_sem, simprocAttr, hwk]))
      (refine ⟨k + 1, ?_, ?_, hkl, by dsimp only; omega⟩ <;> simp only [go_sem, simprocAttr, hwk, hst])
     | true =>
      (refine rO ?_; repeat' ((with_reducible first | refine rG ?_ | (refine rS ?_ ?_ <;> intro hp) | (refine rB ?_ ?_ <;> intro hb <;> try rw [hb]) | refine rD ?_ | refine rA ?_ | fail) <;> try simp only [go_sem, simprocAttr]))
      refine call_dat hh ?_
      cases any with
      | true =>
       have hst := stay (by rw [e2]; rfl)
       (refine rO ?_; repeat' ((with_reducible first | refine rG ?_ | (refine rS ?_ ?_ <;> intro hp) | (refine rB ?_ ?_ <;> intro hb <;> try rw [hb]) | refine rD ?_ | refine rA ?_ | fail) <;> try simp only [go_sem, simprocAttr, hwk]))
       (refine ⟨k + 1, ?_, ?_, hkl, by dsimp only; omega⟩ <;> simp only [go_sem, simprocAttr, hwk, hst])
      | false =>
       (refine rO ?_; repeat' ((with_reducible first | refine rG ?_ | (refine rS ?_ ?_ <;> intro hp) | (refine rB ?_ ?_ <;> intro hb <;> try rw [hb]) | refine rD ?_ | refine rA ?_ | fail) <;> try simp only [go_sem, simprocAttr]))
       refine call_dat hw ?_
       (refine rO ?_; repeat' ((with_reducible first | refine rG ?_ | (refine rS ?_ ?_ <;> intro hp) | (refine rB ?_ ?_ <;> intro hb <;> try rw [hb]) | refine rD ?_ | refine rA ?_ | fail) <;> try simp only [go_sem, simprocAttr]))
       refine call_dat hkp ?_
       cases kp with
       | false =>
        have hst := stay (by rw [e2]; rfl)
        (refine rO ?_; repeat' ((with_reducible first | refine rG ?_ | (refine rS ?_ ?_ <;> intro hp) | (refine rB ?_ ?_ <;> intro hb <;> try rw [hb]) | refine rD ?_ | refine rA ?_ | fail) <;> try simp only [go_sem, simprocAttr, hwk]))
        (refine ⟨k + 1, ?_, ?_, hkl, by dsimp only; omega⟩ <;> simp only [go_sem, simprocAttr, hwk, hst])
       | true =>
        have hgo : newTo T set r (k + 1) = base2 ++ [r ++ [(k : Int)]] := by rw [e3, e4, e2]; rfl
        (refine rO ?_; repeat' ((with_reducible first | refine rG ?_ | (refine rS ?_ ?_ <;> intro hp) | (refine rB ?_ ?_ <;> intro hb <;> try rw [hb]) | refine rD ?_ | refine rA ?_ | fail) <;> try simp only [go_sem, simprocAttr, hwk]))
        refine call_dat hw ?_
        (refine rO ?_; repeat' ((with_reducible first | refine rG ?_ | (refine rS ?_ ?_ <;> intro hp) | (refine rB ?_ ?_ <;> intro hb <;> try rw [hb]) | refine rD ?_ | refine rA ?_ | fail) <;> try simp only [go_sem, simprocAttr, hwk, List.length_map, List.length_append]))
        (refine ⟨k + 1, ?_, ?_, hkl, by dsimp only; omega⟩ <;> simp only [go_sem, simprocAttr, hwk, hgo, List.map_append, List.append_assoc])
    ·have hkI : ((k : Int) < (T.length : Int)) = False := eq_false (by omega)
     have hke : k = T.length := by omega
     subst hke
     (refine rO ?_; repeat' ((with_reducible first | refine rG ?_ | (refine rS ?_ ?_ <;> intro hp) | (refine rB ?_ ?_ <;> intro hb <;> try rw [hb]) | refine rD ?_ | refine rA ?_ | fail) <;> try simp only [go_sem, simprocAttr, hkI, hwj]))
     (refine ⟨j + 1, ?_, ?_, hjl, by dsimp only; omega⟩ <;> simp only [go_sem, simprocAttr, hwj, hsr])
   ·have hjI : ((j : Int) < (rs.length : Int)) = False := eq_false (by omega)
    have hje : j = rs.length := by omega
    subst hje
    (refine rO ?_; repeat' ((with_reducible first | refine rG ?_ | (refine rS ?_ ?_ <;> intro hp) | (refine rB ?_ ?_ <;> intro hb <;> try rw [hb]) | refine rD ?_ | refine rA ?_ | fail) <;> try simp only [go_sem, simprocAttr, hjI, hwi, List.take_length]))
    refine ⟨_, i + 1, g_frz (t := 5) (o := 22) (e := 35) (z := 1) (xs := rrD (newR T set rs)) ?_ ?_ (by omega), ⟨hil, ?_, ?_, ?_, ?_, ?_⟩, by omega⟩
    ·simp only [go_sem, simprocAttr]
    ·simp only [go_sem, simprocAttr, List.take_length]
    iterate 5 (· simp only [go_sem, simprocAttr, S.frz, hwi, e, hb, if_true])
 ·have hiI : ((i : Int) < (T.length : Int)) = False := eq_false (by omega)
  have hie : i = T.length := by omega
  subst hie
  (refine rO ?_; repeat' ((with_reducible first | refine rG ?_ | (refine rS ?_ ?_ <;> intro hp) | (refine rB ?_ ?_ <;> intro hb <;> try rw [hb]) | refine rD ?_ | refine rA ?_ | fail) <;> try simp only [go_sem, simprocAttr, r0, r1, r5, r14, r15, hiI]))
end Go.VC
end
section
set_option maxRecDepth 100000
namespace Go.VC
open Go.RowKit Go.Proofs Go.IntWalk
def scanR (N : Nat) (good : List Int → Bool) (set : Nat) : List (List Int) → Nat → Nat ⊕ Fd
 | [], s => .inl s
 | r :: rs, s => if s = N then .inr ⟨2, 0, [], s⟩ else if good r then .inr ⟨0, set, r, (s + 1 : Nat)⟩ else scanR N good set rs (s + 1)
def scanE (f : Nat → Fd) : Nat ⊕ Fd → Fd
 | .inl s => f s
 | .inr x => x
def scanS (N : Nat) (fits : Nat → Bool) (rows : Nat → List (List Int)) (good : Nat → List Int → Bool) : List Nat → Nat → Fd
 | [], s => ⟨1, 0, [], s⟩
 | set :: sets, s => if fits set then scanE (scanS N fits rows good sets) (scanR N (good set) set (rows set) s) else scanS N fits rows good sets s
def sets64 : List Nat := List.range 64
theorem sets_drop {k : Nat} (h : k < 64) : sets64.drop k = k :: sets64.drop (k + 1) := range_dropO h
theorem sets_end {k : Nat} (h : 64 ≤ k) : sets64.drop k = [] := List.drop_eq_nil_of_le (by simp [sets64]; omega)
def goodW (T : List Txn) (t : Nat) (kind : Int) (set : Nat) (r : List Int) : Bool := decide (legalN T set (wholeP t kind r) = ((wholeP t kind r).length : Int))
def ansP (T old : List Txn) (t : Nat) (kind : Int) (N : Nat) : Fd :=
 if kind = 3 ∨ kind = 5 ∨ kind = 7 ∨ kind = 9 then scanS N (fitP T old t kind) (fun set => refN T set T.length) (goodW T t kind) sets64 0 else ⟨0, 0, [], 0⟩
theorem wholeP_in {T : List Txn} {t : Nat} {kind : Int} {r : List Int} (ht : t < T.length) (h : r.all (inT T.length) = true) : (wholeP t kind r).all (inT T.length) = true := by
 unfold wholeP
 split
 ·rw [List.all_append, h]; simpa using inT_iff.2 ⟨t, rfl, ht⟩
 ·exact h
theorem wholeP_len (t : Nat) (kind : Int) (r : List Int) : (wholeP t kind r).length ≤ r.length + 1 := by
 unfold wholeP; split <;> simp
theorem t1035 (T old : List Txn) (t : Nat) (kind : Int) (N : Nat) (hT : T.length ≤ 6) (ho : old.length ≤ 6) (hS : StT T) (ht : t < T.length) (hO : ∀ t ∈ T, OpsIn t.ops) (hN : N ≤ 1000000) : Holds Tryz.prog GL 30 [pA T old t kind, I N] [.a (ansP T old t kind N).a] := by
 refine fn_holds (vs := [.cell 4 37]) (by kernel_rfl) Tryz.func30 rfl rfl (by kernel_rfl) (by kernel_rfl) rfl ?_
 have e : ansP T old t kind N = if kind = 3 ∨ kind = 5 ∨ kind = 7 ∨ kind = 9 then scanS N (fitP T old t kind) (fun set => refN T set T.length) (goodW T t kind) sets64 0 else ⟨0, 0, [], 0⟩ := rfl
 generalize ansP T old t kind N = ans at e
 by_cases hk : kind = 3 ∨ kind = 5 ∨ kind = 7 ∨ kind = 9
 ·rw [if_pos hk] at e
  have hfit := fun set hs => t1099 T old t kind set hT ho hS ht hs
  have hrw := fun set hs => t1100 T set hT hS hs
  have hrin : ∀ set r, r ∈ refN T set T.length → r.length ≤ 6 ∧ r.all (inT T.length) = true := fun set r hr => ⟨by have := (refN_in hr).1; omega, (refN_in hr).2⟩
  have hrln : ∀ set, (refN T set T.length).length ≤ 46656 := fun set => by
   have h1 := refN_le hT set T.length
   have h2 : 6 ^ T.length ≤ 6 ^ 6 := Nat.pow_le_pow_right (by omega) hT
   omega
  have hwh := fun r (hr : r.length ≤ 6) => t1101 T old t kind r (by omega)
  have hlg : ∀ set r, set < 2 ^ 32 → r.length ≤ 6 → r.all (inT T.length) = true → Holds Tryz.prog GL 41 [txnsA T, intsA (wholeP t kind r), U set] [.a (I (legalN T set (wholeP t kind r)))] := fun set r h1 h2 h3 => t1102 T (wholeP t kind r) set h1 hO (wholeP_in ht h3) (by have := wholeP_len t kind r; omega) (by omega)
  have hwl : ∀ r : List Int, (wholeP t kind r).length ≤ r.length + 1 := fun r => wholeP_len t kind r
  have hgd : ∀ set r, goodW T t kind set r = decide (legalN T set (wholeP t kind r) = ((wholeP t kind r).length : Int)) := fun set r => rfl
  generalize hrows : (fun set => refN T set T.length) = rows at e
  have hrws : ∀ set, refN T set T.length = rows set := fun set => by rw [← hrows]
  simp only [hrws] at hrw hrin hrln
  generalize goodW T t kind = good at e hgd
  generalize wholeP t kind = wh at *
  generalize fitP T old t kind = fits at *
  rcases hk with k3 | k3 | k3 | k3 <;> (
   (refine rO ?_; repeat' ((with_reducible first | refine rG ?_ | (refine rS ?_ ?_ <;> intro hp) | (refine rB ?_ ?_ <;> intro hb <;> try rw [hb]) | refine rD ?_ | refine rA ?_ | fail) <;> try simp only [go_sem, simprocAttr, k3]))
   refine awp_loopA (fun x : Nat × Nat => [(1, .a (I N)), (2, .ref 2 0), (4, .ref 4 0), (5, .a (I x.2)), (6, .a (U x.1))]) (fun _ => [(2, .box [.a (txnsA T), .a (txnsA old), .a (I t), .a (I kind)]), (4, .box [.a (I 0), .a (.d (.v (.int .u32 0))), .a (.d (.sl [])), .a (I 0)])]) (fun x => x.1 ≤ 64 ∧ x.2 ≤ N ∧ ans = scanS N fits rows good (sets64.drop x.1) x.2) (fun x => 64 - x.1) (0, 0) ?_ ?_ ⟨by omega, Nat.zero_le _, e⟩ ?_
   ·simp only [go_sem, simprocAttr]; try rfl
   ·simp only [go_sem, simprocAttr, k3]; try rfl
   intro ⟨set, s⟩ j ⟨h64, hsN, hans⟩
   dsimp only at h64 hsN hans
   by_cases hlt : set < 64
   ·have hltI : ((set : Int) < 64) = True := eq_true (by omega)
    have hws : IntKind.u32.wrap ((set : Int) + 1) = ((set + 1 : Nat) : Int) := by
     rw [show (set : Int) + 1 = ((set + 1 : Nat) : Int) by omega]; exact u32_in _ (by omega)
    rw [sets_drop hlt] at hans
    have hss : scanS N fits rows good (set :: sets64.drop (set + 1)) s = if fits set then scanE (scanS N fits rows good (sets64.drop (set + 1))) (scanR N (good set) set (rows set) s) else scanS N fits rows good (sets64.drop (set + 1)) s := rfl
    rw [hss] at hans
    have hf1 := hfit set (by omega)
    have hf2 := hrw set (by omega)
    generalize scanS N fits rows good = SC at *
    (refine rO ?_; repeat' ((with_reducible first | refine rG ?_ | (refine rS ?_ ?_ <;> intro hp) | (refine rB ?_ ?_ <;> intro hb <;> try rw [hb]) | refine rD ?_ | refine rA ?_ | fail) <;> try simp only [go_sem, simprocAttr, hltI]))
    refine call_dat hf1 ?_
    cases hf : fits set with
    | false =>
     rw [hf] at hans
     (refine rO ?_; repeat' ((with_reducible first | refine rG ?_ | (refine rS ?_ ?_ <;> intro hp) | (refine rB ?_ ?_ <;> intro hb <;> try rw [hb]) | refine rD ?_ | refine rA ?_ | fail) <;> try simp only [go_sem, simprocAttr, hws]))
     (refine ⟨(set + 1, s), ?_, ?_, ⟨by omega, hsN, hans⟩, by dsimp only; omega⟩ <;> simp only [go_sem, simprocAttr, hws])
    | true =>
     rw [hf, if_pos rfl] at hans
     (refine rO ?_; repeat' ((with_reducible first | refine rG ?_ | (refine rS ?_ ?_ <;> intro hp) | (refine rB ?_ ?_ <;> intro hb <;> try rw [hb]) | refine rD ?_ | refine rA ?_ | fail) <;> try simp only [go_sem, simprocAttr]))
     refine call_dat hf2 ?_
     (refine rO ?_; repeat' ((with_reducible first | refine rG ?_ | (refine rS ?_ ?_ <;> intro hp) | (refine rB ?_ ?_ <;> intro hb <;> try rw [hb]) | refine rD ?_ | refine rA ?_ | fail) <;> try simp only [go_sem, simprocAttr, List.length_map]))
     have hrn := hrin set
     have hln := hrln set
     have hgs := hgd set
     have hlgs := fun r => hlg set r (by omega)
     generalize rows set = rs at *
     generalize good set = gd at *
     generalize legalN T set = lg at *
     refine awp_loopA (fun x : Nat × Nat => [(1, .a (I N)), (2, .ref 2 0), (4, .ref 4 0), (5, .a (I x.2)), (6, .a (U set)), (40, .a (rrA rs)), (41, .a (I rs.length)), (42, .a (I x.1))]) (fun _ => [(2, .box [.a (txnsA T), .a (txnsA old), .a (I t), .a (I kind)]), (4, .box [.a (I 0), .a (.d (.v (.int .u32 0))), .a (.d (.sl [])), .a (I 0)])]) (fun x => x.1 ≤ rs.length ∧ x.2 ≤ N ∧ ans = scanE (SC (sets64.drop (set + 1))) (scanR N gd set (rs.drop x.1) x.2)) (fun x => rs.length - x.1) (0, s) ?_ ?_ ⟨Nat.zero_le _, hsN, hans⟩ ?_
     ·simp only [go_sem, simprocAttr, List.length_map]
     ·simp only [go_sem, simprocAttr]
     intro ⟨q, s2⟩ j2 ⟨hq, hs2, hans2⟩
     dsimp only at hq hs2 hans2
     by_cases hql : q < rs.length
     ·have hqI : ((q : Int) < (rs.length : Int)) = True := eq_true (by omega)
      have hwq := wrap_succ (n := rs.length) hql (by simp only [maxLen]; omega)
      have hx : rs[q]? = some rs[q] := List.getElem?_eq_getElem hql
      obtain ⟨hr6, hrI⟩ := hrn _ (List.getElem_mem hql)
      rw [List.drop_eq_getElem_cons hql] at hans2
      generalize rs[q] = r at hx hr6 hrI hans2
      have hw1 := hwh r hr6
      have hl1 := hlgs r hr6 hrI
      have hg1 := hgs r
      have hwlr := hwl r
      generalize wh r = w at hw1 hl1 hg1 hwlr
      by_cases hsn : s2 = N
      ·have hsI : ((s2 : Int) = (N : Int)) = True := eq_true (by omega)
       have hres : scanR N gd set (r :: rs.drop (q + 1)) s2 = .inr ⟨2, 0, [], s2⟩ := by simp only [scanR]; rw [if_pos hsn]
       rw [hans2, hres]
       (refine rO ?_; repeat' ((with_reducible first | refine rG ?_ | (refine rS ?_ ?_ <;> intro hp) | (refine rB ?_ ?_ <;> intro hb <;> try rw [hb]) | refine rD ?_ | refine rA ?_ | fail) <;> try simp only [go_sem, simprocAttr, hqI, hx, hsI]))
       refine SemOp.old ?_
       (refine rO ?_; repeat' ((with_reducible first | refine rG ?_ | (refine rS ?_ ?_ <;> intro hp) | (refine rB ?_ ?_ <;> intro hb <;> try rw [hb]) | refine rD ?_ | refine rA ?_ | fail) <;> try simp only [go_sem, simprocAttr, y_build0]))
       rfl
      ·have hsI : ((s2 : Int) = (N : Int)) = False := eq_false (by omega)
       have hw2 := wrap_succ (n := N) (k := s2) (by omega) (by simp only [maxLen]; omega)
       by_cases hg : lg w = (w.length : Int)
       ·have hres : scanR N gd set (r :: rs.drop (q + 1)) s2 = .inr ⟨0, set, r, (s2 + 1 : Nat)⟩ := by simp only [scanR]; rw [if_neg hsn, if_pos (by rw [hg1]; exact decide_eq_true hg)]
        rw [hans2, hres]
        have hgI : (lg w = (w.length : Int)) = True := eq_true hg
        (refine rO ?_; repeat' ((with_reducible first | refine rG ?_ | (refine rS ?_ ?_ <;> intro hp) | (refine rB ?_ ?_ <;> intro hb <;> try rw [hb]) | refine rD ?_ | refine rA ?_ | fail) <;> try simp only [go_sem, simprocAttr, hqI, hx, hsI, hw2]))
        refine call_dat hw1 ?_
        (refine rO ?_; repeat' ((with_reducible first | refine rG ?_ | (refine rS ?_ ?_ <;> intro hp) | (refine rB ?_ ?_ <;> intro hb <;> try rw [hb]) | refine rD ?_ | refine rA ?_ | fail) <;> try simp only [go_sem, simprocAttr]))
        refine call_dat hl1 ?_
        (refine rO ?_; repeat' ((with_reducible first | refine rG ?_ | (refine rS ?_ ?_ <;> intro hp) | (refine rB ?_ ?_ <;> intro hb <;> try rw [hb]) | refine rD ?_ | refine rA ?_ | fail) <;> try simp only [go_sem, simprocAttr, List.length_map, hgI]))
        refine SemOp.old ?_
        (refine rO ?_; repeat' ((with_reducible first | refine rG ?_ | (refine rS ?_ ?_ <;> intro hp) | (refine rB ?_ ?_ <;> intro hb <;> try rw [hb]) | refine rD ?_ | refine rA ?_ | fail) <;> try simp only [go_sem, simprocAttr, y_build0]))
        rfl
       ·have hres : scanR N gd set (r :: rs.drop (q + 1)) s2 = scanR N gd set (rs.drop (q + 1)) (s2 + 1) := by simp only [scanR]; rw [if_neg hsn, if_neg (by rw [hg1]; simpa using hg)]
        rw [hres] at hans2
        have hgI : (lg w = (w.length : Int)) = False := eq_false hg
        (refine rO ?_; repeat' ((with_reducible first | refine rG ?_ | (refine rS ?_ ?_ <;> intro hp) | (refine rB ?_ ?_ <;> intro hb <;> try rw [hb]) | refine rD ?_ | refine rA ?_ | fail) <;> try simp only [go_sem, simprocAttr, hqI, hx, hsI, hw2]))
        refine call_dat hw1 ?_
        (refine rO ?_; repeat' ((with_reducible first | refine rG ?_ | (refine rS ?_ ?_ <;> intro hp) | (refine rB ?_ ?_ <;> intro hb <;> try rw [hb]) | refine rD ?_ | refine rA ?_ | fail) <;> try simp only [go_sem, simprocAttr]))
        refine call_dat hl1 ?_
        (refine rO ?_; repeat' ((with_reducible first | refine rG ?_ | (refine rS ?_ ?_ <;> intro hp) | (refine rB ?_ ?_ <;> intro hb <;> try rw [hb]) | refine rD ?_ | refine rA ?_ | fail) <;> try simp only [go_sem, simprocAttr, List.length_map, hgI, hwq]))
        (refine ⟨(q + 1, s2 + 1), ?_, ?_, ⟨by omega, by omega, hans2⟩, by dsimp only; omega⟩ <;> simp only [go_sem, simprocAttr, hwq])
     ·have hqI : ((q : Int) < (rs.length : Int)) = False := eq_false (by omega)
      rw [show rs.drop q = [] from List.drop_eq_nil_of_le (by omega)] at hans2
      (refine rO ?_; repeat' ((with_reducible first | refine rG ?_ | (refine rS ?_ ?_ <;> intro hp) | (refine rB ?_ ?_ <;> intro hb <;> try rw [hb]) | refine rD ?_ | refine rA ?_ | fail) <;> try simp only [go_sem, simprocAttr, hqI, hws]))
      (refine ⟨(set + 1, s2), ?_, ?_, ⟨by omega, hs2, hans2⟩, by dsimp only; omega⟩ <;> simp only [go_sem, simprocAttr, hws])
   ·have hltI : ((set : Int) < 64) = False := eq_false (by omega)
    rw [sets_end (by omega)] at hans
    rw [show scanS N fits rows good [] s = ⟨1, 0, [], s⟩ from rfl] at hans
    rw [hans]
    (refine rO ?_; repeat' ((with_reducible first | refine rG ?_ | (refine rS ?_ ?_ <;> intro hp) | (refine rB ?_ ?_ <;> intro hb <;> try rw [hb]) | refine rD ?_ | refine rA ?_ | fail) <;> try simp only [go_sem, simprocAttr, hltI]))
    refine SemOp.old ?_
    (refine rO ?_; repeat' ((with_reducible first | refine rG ?_ | (refine rS ?_ ?_ <;> intro hp) | (refine rB ?_ ?_ <;> intro hb <;> try rw [hb]) | refine rD ?_ | refine rA ?_ | fail) <;> try simp only [go_sem, simprocAttr, y_build0])))
 ·rw [if_neg hk] at e
  have k3 : (kind = 3) = False := eq_false (by omega)
  have k5 : (kind = 5) = False := eq_false (by omega)
  have k7 : (kind = 7) = False := eq_false (by omega)
  have k9 : (kind = 9) = False := eq_false (by omega)
  rw [e]
  (refine rO ?_; repeat' ((with_reducible first | refine rG ?_ | (refine rS ?_ ?_ <;> intro hp) | (refine rB ?_ ?_ <;> intro hb <;> try rw [hb]) | refine rD ?_ | refine rA ?_ | fail) <;> try simp only [go_sem, simprocAttr, k3, k5, k7, k9]))
  refine SemOp.old ?_
  (refine rO ?_; repeat' ((with_reducible first | refine rG ?_ | (refine rS ?_ ?_ <;> intro hp) | (refine rB ?_ ?_ <;> intro hb <;> try rw [hb]) | refine rD ?_ | refine rA ?_ | fail) <;> try simp only [go_sem, simprocAttr, y_build0]))
end Go.VC
end
