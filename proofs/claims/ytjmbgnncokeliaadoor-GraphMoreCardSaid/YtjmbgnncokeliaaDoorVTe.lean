/- table.Table: the run. -/
import Derived.Test.YtjmbgnncokeliaaDoorVTd
set_option maxRecDepth 100000
set_option linter.unusedSimpArgs false
set_option linter.unusedVariables false
namespace Go.VC
open Go.RowKit Go.Proofs Go.IntWalk
theorem takeK_name {kp : Kp} {i : Int} {e : Ev} : (takeK kp i e).name = kp.name := by unfold takeK; (repeat' split) <;> rfl
theorem takeK_ops {kp : Kp} {i : Int} {e : Ev} : (takeK kp i e).ops.length ≤ kp.ops.length + 1 := by unfold takeK; (repeat' split) <;> simp
def newKp (i : Int) (e : Ev) : Kp := takeK ⟨e.tx, i, 0, 0, [], ⟨0, 0, 0, 0⟩⟩ i e
def pos : List Kp → Int → Option Nat
  | [], _ => none
  | kp :: ks, n => if kp.name = n then some 0 else (pos ks n).map (· + 1)
theorem pos_at {n : Int} : ∀ {ks : List Kp} {j : Nat}, pos ks n = some j → ∃ kp, ks[j]? = some kp ∧ kp.name = n
  | kp :: ks, j, h => by
    simp only [pos] at h
    split at h
    · rename_i e; cases h; exact ⟨kp, rfl, e⟩
    · obtain ⟨j', hj, rfl⟩ := Option.map_eq_some_iff.1 h
      obtain ⟨kp', h1, h2⟩ := pos_at hj
      exact ⟨kp', by simpa using h1, h2⟩
noncomputable def kvFrom : List Kp → Nat → List (Int × Nat)
  | [], _ => []
  | kp :: ks, j => (kp.name, kid j) :: kvFrom ks (j + 1)
theorem kvN_from {n : Int} : ∀ {ks : List Kp} {j : Nat}, kvN (kvFrom ks j) n = (pos ks n).map fun i => kid (j + i)
  | [], j => rfl
  | kp :: ks, j => by
    simp only [kvFrom, kvN, pos]
    split
    · rfl
    · rw [kvN_from, Option.map_map]
      congr 1; funext i; simp only [Function.comp]; congr 1; omega
theorem kvFrom_set {kp' : Kp} : ∀ {ks : List Kp} {i j : Nat}, (∀ kp, ks[i]? = some kp → kp'.name = kp.name) → kvFrom (ks.set i kp') j = kvFrom ks j
  | [], i, j, _ => rfl
  | kp :: ks, 0, j, h => by simp only [List.set_cons_zero, kvFrom, h kp rfl]
  | kp :: ks, i + 1, j, h => by simp only [List.set_cons_succ, kvFrom, kvFrom_set fun kp hk => h kp (by simpa using hk)]
theorem kvFrom_app {kp : Kp} : ∀ {ks : List Kp} {j : Nat}, kvFrom (ks ++ [kp]) j = kvFrom ks j ++ [(kp.name, kid (j + ks.length))]
  | [], j => rfl
  | k :: ks, j => by simp only [List.cons_append, kvFrom, kvFrom_app, List.length_cons]; rw [show j + 1 + ks.length = j + (ks.length + 1) by omega]
theorem kvFrom_ids : ∀ {ks : List Kp} {j : Nat}, (kvFrom ks j).map (·.2) = (List.range ks.length).map fun i => kid (j + i)
  | [], j => rfl
  | k :: ks, j => by
    simp only [kvFrom, List.map_cons, kvFrom_ids, List.length_cons, List.range_succ_eq_map, List.map_map]
    congr 2; funext i; simp only [Function.comp]; congr 1; omega
def tabStep (ks : List Kp) (i : Int) (e : Ev) : List Kp := match pos ks e.tx with
  | some j => match ks[j]? with
    | some kp => ks.set j (takeK kp i e)
    | none => ks
  | none => ks ++ [newKp i e]
def tabAt (h : List Ev) : Nat → List Kp
  | 0 => []
  | k + 1 => match h[k]? with
    | some e => tabStep (tabAt h k) k e
    | none => tabAt h k
noncomputable def kidsN (n : Nat) : List Nat := (List.range n).map kid
theorem kidsN_succ {n : Nat} : kidsN (n + 1) = kidsN n ++ [kid n] := by simp [kidsN, List.range_succ]
theorem kid_inj {i j : Nat} (h : kid i = kid j) : i = j := by rw [kid_eq, kid_eq] at h; omega
theorem kidsN_mem {n x : Nat} : x ∈ kidsN n ↔ ∃ i, i < n ∧ kid i = x := by simp [kidsN]
theorem tab_len {h : List Ev} : ∀ k, (tabAt h k).length ≤ k
  | 0 => by simp [tabAt]
  | k + 1 => by
    have := tab_len (h := h) k
    simp only [tabAt]
    split
    · unfold tabStep
      (repeat' split) <;> simp <;> omega
    · omega
theorem tab_ops {h : List Ev} : ∀ k, ∀ kp ∈ tabAt h k, kp.ops.length ≤ k
  | 0, kp, hk => by simp [tabAt] at hk
  | k + 1, kp, hk => by
    have ih := tab_ops (h := h) k
    simp only [tabAt] at hk
    split at hk
    · unfold tabStep at hk
      (repeat' split at hk)
      · rename_i kp' he
        rcases List.mem_or_eq_of_mem_set hk with h1 | rfl
        · have := ih kp h1; omega
        · have h1 := ih kp' (List.mem_of_getElem? he)
          have := @takeK_ops kp' k ‹Ev›
          omega
      · have := ih kp hk; omega
      · rcases List.mem_append.1 hk with h1 | h1
        · have := ih kp h1; omega
        · simp only [List.mem_singleton] at h1
          subst h1
          have : (newKp k ‹Ev›).ops.length ≤ 0 + 1 := takeK_ops
          omega
    · have := ih kp hk; omega
/-- What holds at the head of a round. -/
structure TabI (h : List Ev) (k : Nat) (σ : S) : Prop where
  le : k ≤ h.length
  r0 : σ.regs 0 = .a (evsA h)
  r6 : σ.regs 6 = .omp 22
  r7 : σ.regs 7 = .own 7
  r23 : σ.regs 23 = .a (evsA h)
  r24 : σ.regs 24 = .a (I h.length)
  r25 : σ.regs 25 = .a (I k)
  m22 : σ.mem 22 = some (.sem (rmp (kvFrom (tabAt h k) 0)))
  m7 : σ.mem 7 = some (.sem (rrow 126 (kidsN (tabAt h k).length)))
  kb : ∀ j kp, (tabAt h k)[j]? = some kp → σ.mem (kid j) = some (.box (kp.cells (rid j)))
  kr : ∀ j kp, (tabAt h k)[j]? = some kp → kp.ops ≠ [] → σ.mem (rid j) = some (.log 89 3 (kp.ops.map Op.enc))
/-- Behind the last round the order is data. -/
structure FinI (h : List Ev) (σ : S) : Prop where
  r7 : σ.regs 7 = .own 7
  r24 : σ.regs 24 = .a (I h.length)
  r25 : σ.regs 25 = .a (I h.length)
  m7 : σ.mem 7 = some (.log 126 1 ((tabAt h h.length).map fun kp => [.pt kp.data]))
def TabG (h : List Ev) (k : Nat) (σ : S) : Prop := (k < h.length ∧ TabI h k σ) ∨ (k = h.length ∧ FinI h σ)
theorem tab_ghost {h : List Ev} (h60 : h.length ≤ 60) {k : Nat} {σ : S} (hI : TabI h k σ) : ∃ σ', Ghost σ σ' ∧ TabG h k σ' := by
  by_cases hk : k < h.length
  · exact ⟨σ, Ghost.refl σ, .inl ⟨hk, hI⟩⟩
  · have hke : k = h.length := by have := hI.le; omega
    subst hke
    have hlen := tab_len (h := h) h.length
    refine ⟨_, g_order (o := 7) (e := 126) (dss := (tabAt h h.length).map Kp.data) hI.m7 (by simp [kidsN]) (fun j i ds hi hds => ?_), .inr ⟨rfl, ?_, ?_, ?_, ?_⟩⟩
    · simp only [List.getElem?_map, Option.map_eq_some_iff] at hds
      obtain ⟨kp, hkp, rfl⟩ := hds
      have hj := (List.getElem?_eq_some_iff.1 hkp).1
      have hi' : i = kid j := by simp [kidsN, hj] at hi; exact hi.symm
      subst hi'
      refine ⟨by have := kid_eq j; omega, by have := kid_eq j; omega, _, hI.kb j kp hkp, ?_⟩
      have hr : rid j < 1000000000 := by have := rid_eq j; omega
      have hr7 : rid j ≠ 7 := by have := rid_eq j; omega
      have row : (∀ q, opsR (rid j) kp.ops = .own q → q ≠ 7) ∧ CellD σ (opsR (rid j) kp.ops) (.sl (kp.ops.map Op.enc)) := by
        cases ho : kp.ops with
        | nil => exact ⟨fun q h => (by cases h), .cs⟩
        | cons x xs =>
          refine ⟨fun q h => by cases h; exact hr7, .own (e := 89) (z := 3) hr ?_⟩
          have := hI.kr j kp hkp (by rw [ho]; simp)
          rw [ho] at this
          exact this
      have an : ∀ n : Int, (∀ q, R.a (I n) = .own q → q ≠ 7) ∧ CellD σ (.a (I n)) (dI n) := fun n => ⟨fun q h => (by cases h), .a⟩
      exact .cons (an _) (.cons (an _) (.cons (an _) (.cons (an _) (.cons row (.cons (an _) (.cons (an _) (.cons (an _) (.cons (an _) .nil))))))))
    · simp only [ordS, hI.r7]; rfl
    · simp only [ordS, hI.r24]
    · simp only [ordS, hI.r25]
    · simp only [ordS, List.map_map, Function.comp_def]; rfl
theorem tab_start {h : List Ev} (h60 : h.length ≤ 60) {σ : S} (r0 : σ.regs 0 = .a (evsA h)) (r6 : σ.regs 6 = .omp 22) (r7 : σ.regs 7 = .own 7) (r23 : σ.regs 23 = .a (evsA h)) (r24 : σ.regs 24 = .a (I h.length)) (r25 : σ.regs 25 = .a (I 0))
    (m22 : σ.mem 22 = some (.mpo [])) (m7 : σ.mem 7 = some (.log 126 1 [])) : ∃ σ', Ghost σ σ' ∧ TabG h 0 σ' := by
  have h0 : TabI h 0 ((σ.setOb 22 (.sem (rmp []))).setOb 7 (.sem (rrow 126 []))) := by
    refine ⟨Nat.zero_le _, r0, r6, r7, r23, r24, r25, ?_, ?_, ?_, ?_⟩
    · simp [S.setOb, upd]; rfl
    · simp [S.setOb, upd]; rfl
    · intro j kp hj; simp [tabAt] at hj
    · intro j kp hj; simp [tabAt] at hj
  obtain ⟨σ1, g1, i1⟩ := tab_ghost h60 h0
  exact ⟨σ1, ((g_map_nil m22).trans (g_row_nil (by simp [S.setOb, upd, m7]))).trans g1, i1⟩
section
variable {P : Program} {gl : Nat → Option (List D)} {σ : S} {K : S → Prop} {dst : Option Tmp} {ty : TypeId} {pos : String} {after : Array Edge} {g : Option (Nat × Bool)}
theorem y_idx0 {t : TypeId} {x i : Operand} : opA0 P gl ⟨dst, .indexAddr t x i, ty, pos, after, g⟩ σ K = opQ P gl ⟨dst, .indexAddr t x i, ty, pos, after, g⟩ σ fun r => K (σ.put dst r) := rfl
theorem y_ld0 {t : TypeId} {x : Operand} : opA0 P gl ⟨dst, .load t x, ty, pos, after, g⟩ σ K = opQ P gl ⟨dst, .load t x, ty, pos, after, g⟩ σ fun r => K (σ.put dst r) := rfl
end
theorem k_sem {x : SemOb} {d : Nat} (h : d ∉ x.os) : Ob.kill d (.sem x) = .sem x := by
  have : x.os.any (fun o' => o' == d) = false := by
    simp only [List.any_eq_false, beq_iff_eq]
    intro o ho e; exact h (e ▸ ho)
  show (if _ then _ else _) = _
  rw [this]; rfl
theorem k_rmp {ks : List Kp} {d j : Nat} (h : decide (d < 1000000) = true) : Ob.kill d (.sem (rmp (kvFrom ks j))) = .sem (rmp (kvFrom ks j)) := k_sem (by
  have := of_decide_eq_true h
  show d ∉ (kvFrom ks j).map (·.2)
  rw [kvFrom_ids]
  simp only [List.mem_map, List.mem_range, not_exists, not_and]
  intro i _ e
  have := kid_eq (j + i); omega)
theorem k_rrow {n d : Nat} {e : TypeId} (h : decide (d < 1000000) = true) : Ob.kill d (.sem (rrow e (kidsN n))) = .sem (rrow e (kidsN n)) := k_sem (by
  have := of_decide_eq_true h
  show d ∉ kidsN n
  rw [kidsN_mem]
  rintro ⟨i, _, e⟩
  have := kid_eq i; omega)
theorem k_kp {kp : Kp} {d j : Nat} (h : decide (d < 1000000) = true) : Ob.kill d (.box (kp.cells (rid j))) = .box (kp.cells (rid j)) := by
  have hr : (rid j == d) = false := rid_lo h
  cases ho : kp.ops <;> simp [Kp.cells, ho, opsR, Ob.kill, R.kill, R.says, R.says0, hr]
theorem k_cells {kp : Kp} {d j : Nat} (h : decide (d < 1000000) = true) : (kp.cells (rid j)).map (R.kill d) = kp.cells (rid j) := by
  have hr : (rid j == d) = false := rid_lo h
  cases ho : kp.ops <;> simp [Kp.cells, ho, opsR, R.kill, R.says, R.says0, hr]
theorem k_log {d : Nat} {e : TypeId} {z : Nat} {xs : List (List D)} : Ob.kill d (.log e z xs) = .log e z xs := rfl
/-- What holds at the head of a round of the second loop. -/
structure TabJ (h : List Ev) (k : Nat) (σ : S) : Prop where
  le : k ≤ (tabAt h h.length).length
  r55 : σ.regs 55 = .own 7
  r56 : σ.regs 56 = .a (I (tabAt h h.length).length)
  r57 : σ.regs 57 = .a (I k)
  r11 : σ.regs 11 = .own 11
  m7 : σ.mem 7 = some (.log 126 1 ((tabAt h h.length).map fun kp => [.pt kp.data]))
  m11 : σ.mem 11 = some (.log 83 5 (((tabAt h h.length).take k).map fun kp => [dI kp.name, dI kp.first, dI kp.last, dI kp.st, .sl (kp.ops.map Op.enc)]))
theorem tab_next {h : List Ev} (h60 : h.length ≤ 60) {k : Nat} (hk : k < h.length) {σ : S} (hI : TabI h (k + 1) σ) : ∃ σ'' a', Ghost σ σ'' ∧ TabG h a' σ'' ∧ h.length - a' < h.length - k := by
  obtain ⟨σ', g, i⟩ := tab_ghost h60 hI
  exact ⟨σ', k + 1, g, i, by omega⟩
theorem nn_ff : (false != false) = false := rfl
theorem nn_tf : (true != false) = true := rfl
theorem tab_set {h : List Ev} {k j : Nat} {kp : Kp} {e : Ev} (hx : h[k]? = some e) (hj : pos (tabAt h k) e.tx = some j) (hkp : (tabAt h k)[j]? = some kp) : tabAt h (k + 1) = (tabAt h k).set j (takeK kp k e) := by
  simp only [tabAt, hx, tabStep, hj, hkp]
theorem tab_app {h : List Ev} {k : Nat} {e : Ev} (hx : h[k]? = some e) (hj : pos (tabAt h k) e.tx = none) : tabAt h (k + 1) = tabAt h k ++ [newKp k e] := by
  simp only [tabAt, hx, tabStep, hj]
theorem tab_next' {h : List Ev} (h60 : h.length ≤ 60) {k : Nat} (hk : k < h.length) {σ τ : S} (hg : Ghost σ τ) (hI : TabI h (k + 1) τ) : ∃ σ'' a', Ghost σ σ'' ∧ TabG h a' σ'' ∧ h.length - a' < h.length - k := by
  obtain ⟨σ', a', g, r⟩ := tab_next h60 hk hI
  exact ⟨σ', a', hg.trans g, r⟩
def Ftb : List (List Nat) := [[0, 1, 2, 3, 4], [0, 1, 2, 3], [], []]
theorem mv_sem {x : SemOb} {a b : Nat} (h : b ∉ x.os) : Ob.mv a b (.sem x) = .sem (x.mv a b) := by
  have : x.os.any (fun o => o == b) = false := by
    simp only [List.any_eq_false, beq_iff_eq]
    intro o ho e; exact h (e ▸ ho)
  show (if _ then _ else _) = _
  rw [this]; rfl
theorem nm_kid {j b : Nat} : nm 41 b (kid j) = kid j := by
  unfold nm; rw [if_neg (by have := kid_eq j; omega)]
theorem nm_from {b : Nat} : ∀ {ks : List Kp} {j : Nat}, (kvFrom ks j).map (fun p => (p.1, nm 41 b p.2)) = kvFrom ks j
  | [], j => rfl
  | kp :: ks, j => by simp only [kvFrom, List.map_cons, nm_kid, nm_from]
theorem mv_rmp {ks : List Kp} {x : Int} : Ob.mv 41 (kid ks.length) (.sem (rmp (kvFrom ks 0 ++ [(x, 41)]))) = .sem (rmp (kvFrom ks 0 ++ [(x, kid ks.length)])) := by
  have hids := @kvFrom_ids ks 0
  rw [mv_sem, rmp_mv]
  · congr 2
    rw [List.map_append]
    congr 1
    exact nm_from
  · show kid ks.length ∉ (kvFrom ks 0 ++ [(x, 41)]).map fun p : Int × Nat => p.2
    rw [List.map_append, hids]
    simp only [List.mem_append, List.mem_map, List.mem_range, not_or, not_exists, not_and, List.map_cons, List.map_nil, List.mem_singleton]
    exact ⟨fun i hi e => by have := kid_inj e; omega, by have := kid_eq ks.length; omega⟩
theorem mv_rrow {n : Nat} {e : TypeId} : Ob.mv 41 (kid n) (.sem (rrow e (kidsN n ++ [41]))) = .sem (rrow e (kidsN n ++ [kid n])) := by
  rw [mv_sem, rrow_mv]
  · congr 2
    rw [List.map_append]
    congr 1
    · rw [List.map_congr_left (g := id), List.map_id]
      intro x hx
      obtain ⟨i, _, rfl⟩ := kidsN_mem.1 hx
      exact nm_kid
  · show kid n ∉ kidsN n ++ [41]
    simp only [List.mem_append, kidsN_mem, not_or, not_exists, not_and, List.mem_singleton]
    exact ⟨fun i hi e => by have := kid_inj e; omega, by have := kid_eq n; omega⟩
theorem mv_cells {kp : Kp} {j n : Nat} (hn : n < 100) : (kp.cells (rid j)).map (R.mv 41 (kid n)) = kp.cells (rid j) := by
  have h1 : (rid j == kid n) = false := rid_kid hn
  have h2 : (rid j == 41) = false := rid_lo rfl
  cases ho : kp.ops with
  | nil => simp [Kp.cells, ho, opsR, mv_a, mv_cs]
  | cons x xs => simp [Kp.cells, ho, opsR, mv_a, mv_ownn h1 h2]
def Kp.row (kp : Kp) : List D := [dI kp.name, dI kp.first, dI kp.last, dI kp.st, .sl (kp.ops.map Op.enc)]
def tabD (h : List Ev) : List (List D) := if checkE h = 0 then (tabAt h h.length).map Kp.row else []
theorem t56 (h : List Ev) : Holds Tryd.prog GL 56 [evsA h] [.a (.d (.sl (tabD h))), .a (I (checkE h))] := by
  refine fn_holds (vs := [.tmp 2, .tmp 3]) (by kernel_rfl) Tryd.func56 rfl rfl (by kernel_rfl) (by kernel_rfl) rfl ?_
  (refine of_gate ?_; repeat' ((first | (with_reducible refine gate_in ?_) | (with_reducible refine spK_intro ?_ ?_ <;> intro hp) | (with_reducible refine brK_intro ?_ ?_ <;> intro hb <;> try rw [hb]) | (with_reducible refine draw_in (by unfold DrawOk; decide +kernel) ?_) | (with_reducible apply c45)) <;> try simp only [↓PR, PO, PC, PX, tyI, tyF, tyX, tyL, tyK, tyB, tyE, tyM, tyP, tyQ, Nat.reduceBEq, Nat.reduceAdd, Nat.reduceMul, Nat.reduceSub, Nat.reduceLeDiff, Nat.reduceEqDiff, Nat.reduceLT, Nat.reducePow, Nat.reduceBneDiff, Nat.reduceBNe, Int.reduceBEq, Int.reduceEq, Int.reduceLT, Int.reduceLE, Int.reduceToNat, String.reduceBEq, PG]))
  · refine SemOp.old ?_
    (refine of_gate ?_; repeat' ((first | (with_reducible refine gate_in ?_) | (with_reducible refine spK_intro ?_ ?_ <;> intro hp) | (with_reducible refine brK_intro ?_ ?_ <;> intro hb <;> try rw [hb]) | (with_reducible refine draw_in (by unfold DrawOk; decide +kernel) ?_) | (with_reducible apply c45)) <;> try simp only [↓PR, PO, PC, PX, tyI, tyF, tyX, tyL, tyK, tyB, tyE, tyM, tyP, tyQ, Nat.reduceBEq, Nat.reduceAdd, Nat.reduceMul, Nat.reduceSub, Nat.reduceLeDiff, Nat.reduceEqDiff, Nat.reduceLT, Nat.reducePow, Nat.reduceBneDiff, Nat.reduceBNe, Int.reduceBEq, Int.reduceEq, Int.reduceLT, Int.reduceLE, Int.reduceToNat, String.reduceBEq, PG, y_mk0]))
    have h60 : h.length ≤ 60 := by
      rcases Nat.lt_or_ge 60 h.length with h1 | h1
      · exfalso
        have : rightH h = false := by simp [rightH]; omega
        simp [checkE, this] at hp
      · exact h1
    refine awp_loopG (TabG h) (fun k => h.length - k) 0 ?_ ?_
    · refine tab_start h60 ?_ ?_ ?_ ?_ ?_ ?_ ?_ ?_ <;> simp only [↓PR, PO, PC, PX, tyI, tyF, tyX, tyL, tyK, tyB, tyE, tyM, tyP, tyQ, Nat.reduceBEq, Nat.reduceAdd, Nat.reduceMul, Nat.reduceSub, Nat.reduceLeDiff, Nat.reduceEqDiff, Nat.reduceLT, Nat.reducePow, Nat.reduceBneDiff, Nat.reduceBNe, Int.reduceBEq, Int.reduceEq, Int.reduceLT, Int.reduceLE, Int.reduceToNat, String.reduceBEq, List.length_map] <;> rfl
    intro k σ hI
    rcases hI with ⟨hk, hI⟩ | ⟨hk, hI⟩
    · obtain ⟨_, r0, r6, r7, r23, r24, r25, m22, m7, kb, kr⟩ := hI
      have hki : ((k : Int) < (h.length : Int)) = True := eq_true (by omega)
      have hx : h[k]? = some h[k] := List.getElem?_eq_getElem hk
      have hw := wrap_succ (n := h.length) hk (by simp only [maxLen]; omega)
      (refine of_gate ?_; repeat' ((first | (with_reducible refine gate_in ?_) | (with_reducible refine spK_intro ?_ ?_ <;> intro hp) | (with_reducible refine brK_intro ?_ ?_ <;> intro hb <;> try rw [hb]) | (with_reducible refine draw_in (by unfold DrawOk; decide +kernel) ?_)) <;> try simp only [↓PR, PO, PC, PX, tyI, tyF, tyX, tyL, tyK, tyB, tyE, tyM, tyP, tyQ, Nat.reduceBEq, Nat.reduceAdd, Nat.reduceMul, Nat.reduceSub, Nat.reduceLeDiff, Nat.reduceEqDiff, Nat.reduceLT, Nat.reducePow, Nat.reduceBneDiff, Nat.reduceBNe, Int.reduceBEq, Int.reduceEq, Int.reduceLT, Int.reduceLE, Int.reduceToNat, String.reduceBEq, PG, r0, r6, r7, r23, r24, r25, hx, hw, Ev.enc_eq]))
      · refine sem_lookup (o := 22) (kv := kvFrom (tabAt h k) 0) (n := h[k].tx) (by kernel_rfl) (by simp only [↓PR, PO, PC, PX, tyI, tyF, tyX, tyL, tyK, tyB, tyE, tyM, tyP, tyQ, Nat.reduceBEq, Nat.reduceAdd, Nat.reduceMul, Nat.reduceSub, Nat.reduceLeDiff, Nat.reduceEqDiff, Nat.reduceLT, Nat.reducePow, Nat.reduceBneDiff, Nat.reduceBNe, Int.reduceBEq, Int.reduceEq, Int.reduceLT, Int.reduceLE, Int.reduceToNat, String.reduceBEq, r6]) (by simp only [↓PR, PO, PC, PX, tyI, tyF, tyX, tyL, tyK, tyB, tyE, tyM, tyP, tyQ, Nat.reduceBEq, Nat.reduceAdd, Nat.reduceMul, Nat.reduceSub, Nat.reduceLeDiff, Nat.reduceEqDiff, Nat.reduceLT, Nat.reducePow, Nat.reduceBneDiff, Nat.reduceBNe, Int.reduceBEq, Int.reduceEq, Int.reduceLT, Int.reduceLE, Int.reduceToNat, String.reduceBEq, m22, k_rmp]) (by simp only [↓PR, PO, PC, PX, tyI, tyF, tyX, tyL, tyK, tyB, tyE, tyM, tyP, tyQ, Nat.reduceBEq, Nat.reduceAdd, Nat.reduceMul, Nat.reduceSub, Nat.reduceLeDiff, Nat.reduceEqDiff, Nat.reduceLT, Nat.reducePow, Nat.reduceBneDiff, Nat.reduceBNe, Int.reduceBEq, Int.reduceEq, Int.reduceLT, Int.reduceLE, Int.reduceToNat, String.reduceBEq]) ?_ (fun q hq => ?_) (fun hq => ?_)
        · intro p hp
          have hp2 : p.2 ∈ (kvFrom (tabAt h k) 0).map (·.2) := List.mem_map.2 ⟨p, hp, rfl⟩
          rw [kvFrom_ids] at hp2
          obtain ⟨i, hi, e⟩ := List.mem_map.1 hp2
          have hi := List.mem_range.1 hi
          rw [Nat.zero_add] at e
          rw [← e]
          exact ⟨_, by simp only [↓PR, PO, PC, PX, tyI, tyF, tyX, tyL, tyK, tyB, tyE, tyM, tyP, tyQ, Nat.reduceBEq, Nat.reduceAdd, Nat.reduceMul, Nat.reduceSub, Nat.reduceLeDiff, Nat.reduceEqDiff, Nat.reduceLT, Nat.reducePow, Nat.reduceBneDiff, Nat.reduceBNe, Int.reduceBEq, Int.reduceEq, Int.reduceLT, Int.reduceLE, Int.reduceToNat, String.reduceBEq, lo_kid, kb i _ (List.getElem?_eq_getElem hi), k_cells]; rfl⟩
        · rw [kvN_from] at hq
          obtain ⟨j, hj, rfl⟩ := Option.map_eq_some_iff.1 hq
          rw [Nat.zero_add]
          obtain ⟨kp, hkp, hnm⟩ := pos_at hj
          have hjl := (List.getElem?_eq_some_iff.1 hkp).1
          have hj60 : j < 100 := by have := tab_len (h := h) k; omega
          (refine of_gate ?_; repeat' ((first | (with_reducible refine gate_in ?_) | (with_reducible refine spK_intro ?_ ?_ <;> intro hp) | (with_reducible refine brK_intro ?_ ?_ <;> intro hb <;> try rw [hb]) | (with_reducible refine draw_in (by unfold DrawOk; decide +kernel) ?_)) <;> try simp only [↓PR, PO, PC, PX, tyI, tyF, tyX, tyL, tyK, tyB, tyE, tyM, tyP, tyQ, Nat.reduceBEq, Nat.reduceAdd, Nat.reduceMul, Nat.reduceSub, Nat.reduceLeDiff, Nat.reduceEqDiff, Nat.reduceLT, Nat.reducePow, Nat.reduceBneDiff, Nat.reduceBNe, Int.reduceBEq, Int.reduceEq, Int.reduceLT, Int.reduceLE, Int.reduceToNat, String.reduceBEq, PG, r0, r6, r7, r23, r24, r25, hx, hw, Ev.enc_eq]))
          refine sem_ptr_nil (b := false) (.inl ⟨rfl, rfl⟩) Tryd.underlying126 (.inr ⟨kid j, 0, by simp only [↓PR, PO, PC, PX, tyI, tyF, tyX, tyL, tyK, tyB, tyE, tyM, tyP, tyQ, Nat.reduceBEq, Nat.reduceAdd, Nat.reduceMul, Nat.reduceSub, Nat.reduceLeDiff, Nat.reduceEqDiff, Nat.reduceLT, Nat.reducePow, Nat.reduceBneDiff, Nat.reduceBNe, Int.reduceBEq, Int.reduceEq, Int.reduceLT, Int.reduceLE, Int.reduceToNat, String.reduceBEq], rfl⟩) ?_
          (refine of_gate ?_; repeat' ((first | (with_reducible refine gate_in ?_) | (with_reducible refine spK_intro ?_ ?_ <;> intro hp) | (with_reducible refine brK_intro ?_ ?_ <;> intro hb <;> try rw [hb]) | (with_reducible refine draw_in (by unfold DrawOk; decide +kernel) ?_)) <;> try simp only [↓PR, PO, PC, PX, tyI, tyF, tyX, tyL, tyK, tyB, tyE, tyM, tyP, tyQ, Nat.reduceBEq, Nat.reduceAdd, Nat.reduceMul, Nat.reduceSub, Nat.reduceLeDiff, Nat.reduceEqDiff, Nat.reduceLT, Nat.reducePow, Nat.reduceBneDiff, Nat.reduceBNe, Int.reduceBEq, Int.reduceEq, Int.reduceLT, Int.reduceLE, Int.reduceToNat, String.reduceBEq, PG, nn_ff, r0, r6, r7, r23, r24, r25, hx, hw, Ev.enc_eq]))
          refine call_inl (take_inl (o := kid j) (q := rid j) (i := k) (e := h[k]) (kp := kp) (kid_lt hj60) (rid_lt hj60) (kid_rid hj60) (rid_kid hj60) ?_ (fun hn => ?_) ?_ (fun σ2 hR hB hW hO => ?_))
          · simp only [↓PR, PO, PC, PX, tyI, tyF, tyX, tyL, tyK, tyB, tyE, tyM, tyP, tyQ, Nat.reduceBEq, Nat.reduceAdd, Nat.reduceMul, Nat.reduceSub, Nat.reduceLeDiff, Nat.reduceEqDiff, Nat.reduceLT, Nat.reducePow, Nat.reduceBneDiff, Nat.reduceBNe, Int.reduceBEq, Int.reduceEq, Int.reduceLT, Int.reduceLE, Int.reduceToNat, String.reduceBEq, lo_kid, kb j kp hkp, k_cells]
          · simp only [↓PR, PO, PC, PX, tyI, tyF, tyX, tyL, tyK, tyB, tyE, tyM, tyP, tyQ, Nat.reduceBEq, Nat.reduceAdd, Nat.reduceMul, Nat.reduceSub, Nat.reduceLeDiff, Nat.reduceEqDiff, Nat.reduceLT, Nat.reducePow, Nat.reduceBneDiff, Nat.reduceBNe, Int.reduceBEq, Int.reduceEq, Int.reduceLT, Int.reduceLE, Int.reduceToNat, String.reduceBEq, lo_rid, kr j kp hkp hn, k_log]
          · have := tab_ops k kp (List.mem_of_getElem? hkp); omega
          · have e0 := hR 0 (by simp only [↓PR, PO, PC, PX, tyI, tyF, tyX, tyL, tyK, tyB, tyE, tyM, tyP, tyQ, Nat.reduceBEq, Nat.reduceAdd, Nat.reduceMul, Nat.reduceSub, Nat.reduceLeDiff, Nat.reduceEqDiff, Nat.reduceLT, Nat.reducePow, Nat.reduceBneDiff, Nat.reduceBNe, Int.reduceBEq, Int.reduceEq, Int.reduceLT, Int.reduceLE, Int.reduceToNat, String.reduceBEq, r0]; exact fineR_a)
            have e6 := hR 6 (by simp only [↓PR, PO, PC, PX, tyI, tyF, tyX, tyL, tyK, tyB, tyE, tyM, tyP, tyQ, Nat.reduceBEq, Nat.reduceAdd, Nat.reduceMul, Nat.reduceSub, Nat.reduceLeDiff, Nat.reduceEqDiff, Nat.reduceLT, Nat.reducePow, Nat.reduceBneDiff, Nat.reduceBNe, Int.reduceBEq, Int.reduceEq, Int.reduceLT, Int.reduceLE, Int.reduceToNat, String.reduceBEq, r6]; exact fineR_omp (lo_rid rfl))
            have e7 := hR 7 (by simp only [↓PR, PO, PC, PX, tyI, tyF, tyX, tyL, tyK, tyB, tyE, tyM, tyP, tyQ, Nat.reduceBEq, Nat.reduceAdd, Nat.reduceMul, Nat.reduceSub, Nat.reduceLeDiff, Nat.reduceEqDiff, Nat.reduceLT, Nat.reducePow, Nat.reduceBneDiff, Nat.reduceBNe, Int.reduceBEq, Int.reduceEq, Int.reduceLT, Int.reduceLE, Int.reduceToNat, String.reduceBEq, r7]; exact fineR_own (lo_rid rfl))
            have e23 := hR 23 (by simp only [↓PR, PO, PC, PX, tyI, tyF, tyX, tyL, tyK, tyB, tyE, tyM, tyP, tyQ, Nat.reduceBEq, Nat.reduceAdd, Nat.reduceMul, Nat.reduceSub, Nat.reduceLeDiff, Nat.reduceEqDiff, Nat.reduceLT, Nat.reducePow, Nat.reduceBneDiff, Nat.reduceBNe, Int.reduceBEq, Int.reduceEq, Int.reduceLT, Int.reduceLE, Int.reduceToNat, String.reduceBEq, r23]; exact fineR_a)
            have e24 := hR 24 (by simp only [↓PR, PO, PC, PX, tyI, tyF, tyX, tyL, tyK, tyB, tyE, tyM, tyP, tyQ, Nat.reduceBEq, Nat.reduceAdd, Nat.reduceMul, Nat.reduceSub, Nat.reduceLeDiff, Nat.reduceEqDiff, Nat.reduceLT, Nat.reducePow, Nat.reduceBneDiff, Nat.reduceBNe, Int.reduceBEq, Int.reduceEq, Int.reduceLT, Int.reduceLE, Int.reduceToNat, String.reduceBEq, r24]; exact fineR_a)
            have e25 := hR 25 (by simp only [↓PR, PO, PC, PX, tyI, tyF, tyX, tyL, tyK, tyB, tyE, tyM, tyP, tyQ, Nat.reduceBEq, Nat.reduceAdd, Nat.reduceMul, Nat.reduceSub, Nat.reduceLeDiff, Nat.reduceEqDiff, Nat.reduceLT, Nat.reducePow, Nat.reduceBneDiff, Nat.reduceBNe, Int.reduceBEq, Int.reduceEq, Int.reduceLT, Int.reduceLE, Int.reduceToNat, String.reduceBEq, r25]; exact fineR_a)
            simp only [↓PR, PO, PC, PX, tyI, tyF, tyX, tyL, tyK, tyB, tyE, tyM, tyP, tyQ, Nat.reduceBEq, Nat.reduceAdd, Nat.reduceMul, Nat.reduceSub, Nat.reduceLeDiff, Nat.reduceEqDiff, Nat.reduceLT, Nat.reducePow, Nat.reduceBneDiff, Nat.reduceBNe, Int.reduceBEq, Int.reduceEq, Int.reduceLT, Int.reduceLE, Int.reduceToNat, String.reduceBEq, r0] at e0
            simp only [↓PR, PO, PC, PX, tyI, tyF, tyX, tyL, tyK, tyB, tyE, tyM, tyP, tyQ, Nat.reduceBEq, Nat.reduceAdd, Nat.reduceMul, Nat.reduceSub, Nat.reduceLeDiff, Nat.reduceEqDiff, Nat.reduceLT, Nat.reducePow, Nat.reduceBneDiff, Nat.reduceBNe, Int.reduceBEq, Int.reduceEq, Int.reduceLT, Int.reduceLE, Int.reduceToNat, String.reduceBEq, r6] at e6
            simp only [↓PR, PO, PC, PX, tyI, tyF, tyX, tyL, tyK, tyB, tyE, tyM, tyP, tyQ, Nat.reduceBEq, Nat.reduceAdd, Nat.reduceMul, Nat.reduceSub, Nat.reduceLeDiff, Nat.reduceEqDiff, Nat.reduceLT, Nat.reducePow, Nat.reduceBneDiff, Nat.reduceBNe, Int.reduceBEq, Int.reduceEq, Int.reduceLT, Int.reduceLE, Int.reduceToNat, String.reduceBEq, r7] at e7
            simp only [↓PR, PO, PC, PX, tyI, tyF, tyX, tyL, tyK, tyB, tyE, tyM, tyP, tyQ, Nat.reduceBEq, Nat.reduceAdd, Nat.reduceMul, Nat.reduceSub, Nat.reduceLeDiff, Nat.reduceEqDiff, Nat.reduceLT, Nat.reducePow, Nat.reduceBneDiff, Nat.reduceBNe, Int.reduceBEq, Int.reduceEq, Int.reduceLT, Int.reduceLE, Int.reduceToNat, String.reduceBEq, r23] at e23
            simp only [↓PR, PO, PC, PX, tyI, tyF, tyX, tyL, tyK, tyB, tyE, tyM, tyP, tyQ, Nat.reduceBEq, Nat.reduceAdd, Nat.reduceMul, Nat.reduceSub, Nat.reduceLeDiff, Nat.reduceEqDiff, Nat.reduceLT, Nat.reducePow, Nat.reduceBneDiff, Nat.reduceBNe, Int.reduceBEq, Int.reduceEq, Int.reduceLT, Int.reduceLE, Int.reduceToNat, String.reduceBEq, r24] at e24
            simp only [↓PR, PO, PC, PX, tyI, tyF, tyX, tyL, tyK, tyB, tyE, tyM, tyP, tyQ, Nat.reduceBEq, Nat.reduceAdd, Nat.reduceMul, Nat.reduceSub, Nat.reduceLeDiff, Nat.reduceEqDiff, Nat.reduceLT, Nat.reducePow, Nat.reduceBneDiff, Nat.reduceBNe, Int.reduceBEq, Int.reduceEq, Int.reduceLT, Int.reduceLE, Int.reduceToNat, String.reduceBEq, r25] at e25
            have f22 := hO 22 (.sem (rmp (kvFrom (tabAt h k) 0))) (lo_kid rfl) (lo_rid rfl) rfl (by simp only [↓PR, PO, PC, PX, tyI, tyF, tyX, tyL, tyK, tyB, tyE, tyM, tyP, tyQ, Nat.reduceBEq, Nat.reduceAdd, Nat.reduceMul, Nat.reduceSub, Nat.reduceLeDiff, Nat.reduceEqDiff, Nat.reduceLT, Nat.reducePow, Nat.reduceBneDiff, Nat.reduceBNe, Int.reduceBEq, Int.reduceEq, Int.reduceLT, Int.reduceLE, Int.reduceToNat, String.reduceBEq, m22, k_rmp]) (fineO_sem (by
              show _ ∉ (kvFrom (tabAt h k) 0).map (·.2)
              rw [kvFrom_ids]
              simp only [List.mem_map, List.mem_range, not_exists, not_and]
              intro i hi e
              have := kid_eq (0 + i); have := rid_eq j; have := tab_len (h := h) k; omega))
            have f7 := hO 7 (.sem (rrow 126 (kidsN (tabAt h k).length))) (lo_kid rfl) (lo_rid rfl) rfl (by simp only [↓PR, PO, PC, PX, tyI, tyF, tyX, tyL, tyK, tyB, tyE, tyM, tyP, tyQ, Nat.reduceBEq, Nat.reduceAdd, Nat.reduceMul, Nat.reduceSub, Nat.reduceLeDiff, Nat.reduceEqDiff, Nat.reduceLT, Nat.reducePow, Nat.reduceBneDiff, Nat.reduceBNe, Int.reduceBEq, Int.reduceEq, Int.reduceLT, Int.reduceLE, Int.reduceToNat, String.reduceBEq, m7, k_rrow]) (fineO_sem (by
              show _ ∉ kidsN _
              rw [kidsN_mem]
              rintro ⟨i, hi, e⟩
              have := kid_eq i; have := rid_eq j; have := tab_len (h := h) k; omega))
            have fk : ∀ j' kp', j' ≠ j → (tabAt h k)[j']? = some kp' → σ2.mem (kid j') = some (.box (kp'.cells (rid j'))) := fun j' kp' hne hk' => by
              have hj' := (List.getElem?_eq_some_iff.1 hk').1
              have hj'60 : j' < 100 := by have := tab_len (h := h) k; omega
              exact hO (kid j') _ (kid_ne hne) (kid_rid hj'60) (kid_lt hj'60) (by simp only [↓PR, PO, PC, PX, tyI, tyF, tyX, tyL, tyK, tyB, tyE, tyM, tyP, tyQ, Nat.reduceBEq, Nat.reduceAdd, Nat.reduceMul, Nat.reduceSub, Nat.reduceLeDiff, Nat.reduceEqDiff, Nat.reduceLT, Nat.reducePow, Nat.reduceBneDiff, Nat.reduceBNe, Int.reduceBEq, Int.reduceEq, Int.reduceLT, Int.reduceLE, Int.reduceToNat, String.reduceBEq, lo_kid, kb j' kp' hk', k_cells]) (fineO_kp (rid_ne hne))
            have fr : ∀ j' kp', j' ≠ j → (tabAt h k)[j']? = some kp' → kp'.ops ≠ [] → σ2.mem (rid j') = some (.log 89 3 (kp'.ops.map Op.enc)) := fun j' kp' hne hk' hn => by
              have hj' := (List.getElem?_eq_some_iff.1 hk').1
              have hj'60 : j' < 100 := by have := tab_len (h := h) k; omega
              exact hO (rid j') _ (rid_kid hj60) (rid_ne hne) (rid_lt hj'60) (by simp only [↓PR, PO, PC, PX, tyI, tyF, tyX, tyL, tyK, tyB, tyE, tyM, tyP, tyQ, Nat.reduceBEq, Nat.reduceAdd, Nat.reduceMul, Nat.reduceSub, Nat.reduceLeDiff, Nat.reduceEqDiff, Nat.reduceLT, Nat.reducePow, Nat.reduceBneDiff, Nat.reduceBNe, Int.reduceBEq, Int.reduceEq, Int.reduceLT, Int.reduceLE, Int.reduceToNat, String.reduceBEq, lo_rid, kr j' kp' hk' hn, k_log]) fineO_log
            have hset := tab_set hx hj hkp
            (refine of_gate ?_; repeat' ((first | (with_reducible refine gate_in ?_) | (with_reducible refine spK_intro ?_ ?_ <;> intro hp) | (with_reducible refine brK_intro ?_ ?_ <;> intro hb <;> try rw [hb]) | (with_reducible refine draw_in (by unfold DrawOk; decide +kernel) ?_)) <;> try simp only [↓PR, PO, PC, PX, tyI, tyF, tyX, tyL, tyK, tyB, tyE, tyM, tyP, tyQ, Nat.reduceBEq, Nat.reduceAdd, Nat.reduceMul, Nat.reduceSub, Nat.reduceLeDiff, Nat.reduceEqDiff, Nat.reduceLT, Nat.reducePow, Nat.reduceBneDiff, Nat.reduceBNe, Int.reduceBEq, Int.reduceEq, Int.reduceLT, Int.reduceLE, Int.reduceToNat, String.reduceBEq, PG, one, e0, e6, e7, e23, e24, e25, hx, hw, Ev.enc_eq]))
            refine tab_next h60 hk ⟨by omega, ?_, ?_, ?_, ?_, ?_, ?_, ?_, ?_, fun j' kp' hk' => ?_, fun j' kp' hk' hn => ?_⟩
            iterate 6 (· simp only [↓PR, PO, PC, PX, tyI, tyF, tyX, tyL, tyK, tyB, tyE, tyM, tyP, tyQ, Nat.reduceBEq, Nat.reduceAdd, Nat.reduceMul, Nat.reduceSub, Nat.reduceLeDiff, Nat.reduceEqDiff, Nat.reduceLT, Nat.reducePow, Nat.reduceBneDiff, Nat.reduceBNe, Int.reduceBEq, Int.reduceEq, Int.reduceLT, Int.reduceLE, Int.reduceToNat, String.reduceBEq, e0, e6, e7, e23, e24, e25, hw])
            · simp only [↓PR, PO, PC, PX, tyI, tyF, tyX, tyL, tyK, tyB, tyE, tyM, tyP, tyQ, Nat.reduceBEq, Nat.reduceAdd, Nat.reduceMul, Nat.reduceSub, Nat.reduceLeDiff, Nat.reduceEqDiff, Nat.reduceLT, Nat.reducePow, Nat.reduceBneDiff, Nat.reduceBNe, Int.reduceBEq, Int.reduceEq, Int.reduceLT, Int.reduceLE, Int.reduceToNat, String.reduceBEq, f22]
              rw [hset, kvFrom_set fun kp2 h2 => by rw [hkp] at h2; cases h2; exact takeK_name]
            · simp only [↓PR, PO, PC, PX, tyI, tyF, tyX, tyL, tyK, tyB, tyE, tyM, tyP, tyQ, Nat.reduceBEq, Nat.reduceAdd, Nat.reduceMul, Nat.reduceSub, Nat.reduceLeDiff, Nat.reduceEqDiff, Nat.reduceLT, Nat.reducePow, Nat.reduceBneDiff, Nat.reduceBNe, Int.reduceBEq, Int.reduceEq, Int.reduceLT, Int.reduceLE, Int.reduceToNat, String.reduceBEq, f7]
              rw [hset, List.length_set]
            · rw [hset] at hk'
              by_cases hjj : j' = j
              · subst hjj
                rw [List.getElem?_set_self hjl] at hk'
                cases hk'
                simp only [↓PR, PO, PC, PX, tyI, tyF, tyX, tyL, tyK, tyB, tyE, tyM, tyP, tyQ, Nat.reduceBEq, Nat.reduceAdd, Nat.reduceMul, Nat.reduceSub, Nat.reduceLeDiff, Nat.reduceEqDiff, Nat.reduceLT, Nat.reducePow, Nat.reduceBneDiff, Nat.reduceBNe, Int.reduceBEq, Int.reduceEq, Int.reduceLT, Int.reduceLE, Int.reduceToNat, String.reduceBEq, hB]
              · rw [List.getElem?_set_ne (Ne.symm hjj)] at hk'
                simp only [↓PR, PO, PC, PX, tyI, tyF, tyX, tyL, tyK, tyB, tyE, tyM, tyP, tyQ, Nat.reduceBEq, Nat.reduceAdd, Nat.reduceMul, Nat.reduceSub, Nat.reduceLeDiff, Nat.reduceEqDiff, Nat.reduceLT, Nat.reducePow, Nat.reduceBneDiff, Nat.reduceBNe, Int.reduceBEq, Int.reduceEq, Int.reduceLT, Int.reduceLE, Int.reduceToNat, String.reduceBEq, fk j' kp' hjj hk']
            · rw [hset] at hk'
              by_cases hjj : j' = j
              · subst hjj
                rw [List.getElem?_set_self hjl] at hk'
                cases hk'
                simp only [↓PR, PO, PC, PX, tyI, tyF, tyX, tyL, tyK, tyB, tyE, tyM, tyP, tyQ, Nat.reduceBEq, Nat.reduceAdd, Nat.reduceMul, Nat.reduceSub, Nat.reduceLeDiff, Nat.reduceEqDiff, Nat.reduceLT, Nat.reducePow, Nat.reduceBneDiff, Nat.reduceBNe, Int.reduceBEq, Int.reduceEq, Int.reduceLT, Int.reduceLE, Int.reduceToNat, String.reduceBEq, hW hn]
              · rw [List.getElem?_set_ne (Ne.symm hjj)] at hk'
                simp only [↓PR, PO, PC, PX, tyI, tyF, tyX, tyL, tyK, tyB, tyE, tyM, tyP, tyQ, Nat.reduceBEq, Nat.reduceAdd, Nat.reduceMul, Nat.reduceSub, Nat.reduceLeDiff, Nat.reduceEqDiff, Nat.reduceLT, Nat.reducePow, Nat.reduceBneDiff, Nat.reduceBNe, Int.reduceBEq, Int.reduceEq, Int.reduceLT, Int.reduceLE, Int.reduceToNat, String.reduceBEq, fr j' kp' hjj hk' hn]
        · have hpn : pos (tabAt h k) h[k].tx = none := by
            rw [kvN_from] at hq
            cases hp9 : pos (tabAt h k) h[k].tx with
            | none => rfl
            | some j => rw [hp9] at hq; cases hq
          (refine of_gate ?_; repeat' ((first | (with_reducible refine gate_in ?_) | (with_reducible refine spK_intro ?_ ?_ <;> intro hp) | (with_reducible refine brK_intro ?_ ?_ <;> intro hb <;> try rw [hb]) | (with_reducible refine draw_in (by unfold DrawOk; decide +kernel) ?_)) <;> try simp only [↓PR, PO, PC, PX, tyI, tyF, tyX, tyL, tyK, tyB, tyE, tyM, tyP, tyQ, Nat.reduceBEq, Nat.reduceAdd, Nat.reduceMul, Nat.reduceSub, Nat.reduceLeDiff, Nat.reduceEqDiff, Nat.reduceLT, Nat.reducePow, Nat.reduceBneDiff, Nat.reduceBNe, Int.reduceBEq, Int.reduceEq, Int.reduceLT, Int.reduceLE, Int.reduceToNat, String.reduceBEq, PG, nn_tf, r0, r6, r7, r23, r24, r25, hx, hw, Ev.enc_eq]))
          refine sem_ptr_nil (b := true) (.inl ⟨rfl, rfl⟩) Tryd.underlying126 (.inl ⟨by simp only [↓PR, PO, PC, PX, tyI, tyF, tyX, tyL, tyK, tyB, tyE, tyM, tyP, tyQ, Nat.reduceBEq, Nat.reduceAdd, Nat.reduceMul, Nat.reduceSub, Nat.reduceLeDiff, Nat.reduceEqDiff, Nat.reduceLT, Nat.reducePow, Nat.reduceBneDiff, Nat.reduceBNe, Int.reduceBEq, Int.reduceEq, Int.reduceLT, Int.reduceLE, Int.reduceToNat, String.reduceBEq], rfl⟩) ?_
          (refine of_gate ?_; repeat' ((first | (with_reducible refine gate_in ?_) | (with_reducible refine spK_intro ?_ ?_ <;> intro hp) | (with_reducible refine brK_intro ?_ ?_ <;> intro hb <;> try rw [hb]) | (with_reducible refine draw_in (by unfold DrawOk; decide +kernel) ?_)) <;> try simp only [↓PR, PO, PC, PX, tyI, tyF, tyX, tyL, tyK, tyB, tyE, tyM, tyP, tyQ, Nat.reduceBEq, Nat.reduceAdd, Nat.reduceMul, Nat.reduceSub, Nat.reduceLeDiff, Nat.reduceEqDiff, Nat.reduceLT, Nat.reducePow, Nat.reduceBneDiff, Nat.reduceBNe, Int.reduceBEq, Int.reduceEq, Int.reduceLT, Int.reduceLE, Int.reduceToNat, String.reduceBEq, PG, nn_tf, r0, r6, r7, r23, r24, r25, hx, hw, Ev.enc_eq]))
          refine sem_build (ti := ⟨5, 56, true, [.int .i64 0, .int .i64 0, .int .i64 0, .int .i64 0, .slice none 0 0]⟩) (offs := [(0, 1, false), (1, 1, false), (2, 1, false), (3, 1, false), (4, 1, false)]) (l := [(0, .tmp 37), (1, .tmp 38)]) (ps := [(0, [.a (I h[k].tx)]), (1, [.a (I k)])]) (rs := [.a (I h[k].tx), .a (I k), .a (I 0), .a (I 0), .cs []]) (by kernel_rfl) (by kernel_rfl) rfl rfl (by simp only [partsR, ↓PR, PO, PC, PX, tyI, tyF, tyX, tyL, tyK, tyB, tyE, tyM, tyP, tyQ, Nat.reduceBEq, Nat.reduceAdd, Nat.reduceMul, Nat.reduceSub, Nat.reduceLeDiff, Nat.reduceEqDiff, Nat.reduceLT, Nat.reducePow, Nat.reduceBneDiff, Nat.reduceBNe, Int.reduceBEq, Int.reduceEq, Int.reduceLT, Int.reduceLE, Int.reduceToNat, String.reduceBEq]) rfl ?_
          (refine of_gate ?_; repeat' ((first | (with_reducible refine gate_in ?_) | (with_reducible refine spK_intro ?_ ?_ <;> intro hp) | (with_reducible refine brK_intro ?_ ?_ <;> intro hb <;> try rw [hb]) | (with_reducible refine draw_in (by unfold DrawOk; decide +kernel) ?_)) <;> try simp only [↓PR, PO, PC, PX, tyI, tyF, tyX, tyL, tyK, tyB, tyE, tyM, tyP, tyQ, Nat.reduceBEq, Nat.reduceAdd, Nat.reduceMul, Nat.reduceSub, Nat.reduceLeDiff, Nat.reduceEqDiff, Nat.reduceLT, Nat.reducePow, Nat.reduceBneDiff, Nat.reduceBNe, Int.reduceBEq, Int.reduceEq, Int.reduceLT, Int.reduceLE, Int.reduceToNat, String.reduceBEq, PG, nn_tf, r0, r6, r7, r23, r24, r25, hx, hw, Ev.enc_eq]))
          refine sem_build (ti := ⟨9, 88, true, [.int .i64 0, .int .i64 0, .int .i64 0, .int .i64 0, .slice none 0 0, .int .i64 0, .int .i64 0, .int .i64 0, .int .i64 0]⟩) (offs := [(0, 5, true), (5, 4, true)]) (l := [(0, .tmp 39)]) (ps := [(0, [.a (I h[k].tx), .a (I k), .a (I 0), .a (I 0), .cs []])]) (rs := [.a (I h[k].tx), .a (I k), .a (I 0), .a (I 0), .cs [], .a (I 0), .a (I 0), .a (I 0), .a (I 0)]) (by kernel_rfl) (by kernel_rfl) rfl rfl (by simp only [partsR, ↓PR, PO, PC, PX, tyI, tyF, tyX, tyL, tyK, tyB, tyE, tyM, tyP, tyQ, Nat.reduceBEq, Nat.reduceAdd, Nat.reduceMul, Nat.reduceSub, Nat.reduceLeDiff, Nat.reduceEqDiff, Nat.reduceLT, Nat.reducePow, Nat.reduceBneDiff, Nat.reduceBNe, Int.reduceBEq, Int.reduceEq, Int.reduceLT, Int.reduceLE, Int.reduceToNat, String.reduceBEq]) rfl ?_
          (refine of_gate ?_; repeat' ((first | (with_reducible refine gate_in ?_) | (with_reducible refine spK_intro ?_ ?_ <;> intro hp) | (with_reducible refine brK_intro ?_ ?_ <;> intro hb <;> try rw [hb]) | (with_reducible refine draw_in (by unfold DrawOk; decide +kernel) ?_) | (with_reducible refine draw_F Ftb (by decide +kernel) ?_)) <;> try simp only [↓PR, PO, PC, PX, tyI, tyF, tyX, tyL, tyK, tyB, tyE, tyM, tyP, tyQ, Nat.reduceBEq, Nat.reduceAdd, Nat.reduceMul, Nat.reduceSub, Nat.reduceLeDiff, Nat.reduceEqDiff, Nat.reduceLT, Nat.reducePow, Nat.reduceBneDiff, Nat.reduceBNe, Int.reduceBEq, Int.reduceEq, Int.reduceLT, Int.reduceLE, Int.reduceToNat, String.reduceBEq, PG, Ftb, nn_tf, r0, r6, r7, r23, r24, r25, hx, hw, Ev.enc_eq]))
          refine sem_bs1 (ti := ⟨1, 8, false, [.pointer none]⟩) (e := 126) (q := 41) Tryd.underlying125 (by kernel_rfl) rfl rfl (by simp only [↓PR, PO, PC, PX, tyI, tyF, tyX, tyL, tyK, tyB, tyE, tyM, tyP, tyQ, Nat.reduceBEq, Nat.reduceAdd, Nat.reduceMul, Nat.reduceSub, Nat.reduceLeDiff, Nat.reduceEqDiff, Nat.reduceLT, Nat.reducePow, Nat.reduceBneDiff, Nat.reduceBNe, Int.reduceBEq, Int.reduceEq, Int.reduceLT, Int.reduceLE, Int.reduceToNat, String.reduceBEq]) (by decide) ?_
          (refine of_gate ?_; repeat' ((first | (with_reducible refine gate_in ?_) | (with_reducible refine spK_intro ?_ ?_ <;> intro hp) | (with_reducible refine brK_intro ?_ ?_ <;> intro hb <;> try rw [hb]) | (with_reducible refine draw_in (by unfold DrawOk; decide +kernel) ?_)) <;> try simp only [↓PR, PO, PC, PX, tyI, tyF, tyX, tyL, tyK, tyB, tyE, tyM, tyP, tyQ, Nat.reduceBEq, Nat.reduceAdd, Nat.reduceMul, Nat.reduceSub, Nat.reduceLeDiff, Nat.reduceEqDiff, Nat.reduceLT, Nat.reducePow, Nat.reduceBneDiff, Nat.reduceBNe, Int.reduceBEq, Int.reduceEq, Int.reduceLT, Int.reduceLE, Int.reduceToNat, String.reduceBEq, PG, Ftb, nn_tf, r0, r6, r7, r23, r24, r25, hx, hw, Ev.enc_eq]))
          have hn7 : 7 ∉ kidsN (tabAt h k).length := by
            rw [kidsN_mem]
            rintro ⟨i, _, e⟩
            have := kid_eq i; omega
          have htl := tab_len (h := h) k
          refine sem_app (ti := ⟨1, 8, false, [.pointer none]⟩) (e := 126) (o := 7) (o2 := 48) (ids := kidsN (tabAt h k).length) (ids2 := [41]) (by kernel_rfl) (by kernel_rfl) rfl rfl (by decide) (by simp only [↓PR, PO, PC, PX, tyI, tyF, tyX, tyL, tyK, tyB, tyE, tyM, tyP, tyQ, Nat.reduceBEq, Nat.reduceAdd, Nat.reduceMul, Nat.reduceSub, Nat.reduceLeDiff, Nat.reduceEqDiff, Nat.reduceLT, Nat.reducePow, Nat.reduceBneDiff, Nat.reduceBNe, Int.reduceBEq, Int.reduceEq, Int.reduceLT, Int.reduceLE, Int.reduceToNat, String.reduceBEq, r7]) (by simp only [↓PR, PO, PC, PX, tyI, tyF, tyX, tyL, tyK, tyB, tyE, tyM, tyP, tyQ, Nat.reduceBEq, Nat.reduceAdd, Nat.reduceMul, Nat.reduceSub, Nat.reduceLeDiff, Nat.reduceEqDiff, Nat.reduceLT, Nat.reducePow, Nat.reduceBneDiff, Nat.reduceBNe, Int.reduceBEq, Int.reduceEq, Int.reduceLT, Int.reduceLE, Int.reduceToNat, String.reduceBEq]) (by simp only [↓PR, PO, PC, PX, tyI, tyF, tyX, tyL, tyK, tyB, tyE, tyM, tyP, tyQ, Nat.reduceBEq, Nat.reduceAdd, Nat.reduceMul, Nat.reduceSub, Nat.reduceLeDiff, Nat.reduceEqDiff, Nat.reduceLT, Nat.reducePow, Nat.reduceBneDiff, Nat.reduceBNe, Int.reduceBEq, Int.reduceEq, Int.reduceLT, Int.reduceLE, Int.reduceToNat, String.reduceBEq, m7, k_rrow]) (by simp only [↓PR, PO, PC, PX, tyI, tyF, tyX, tyL, tyK, tyB, tyE, tyM, tyP, tyQ, Nat.reduceBEq, Nat.reduceAdd, Nat.reduceMul, Nat.reduceSub, Nat.reduceLeDiff, Nat.reduceEqDiff, Nat.reduceLT, Nat.reducePow, Nat.reduceBneDiff, Nat.reduceBNe, Int.reduceBEq, Int.reduceEq, Int.reduceLT, Int.reduceLE, Int.reduceToNat, String.reduceBEq]) hn7 (by decide) (by decide) (by simp [kidsN]; omega) ?_
          (refine of_gate ?_; repeat' ((first | (with_reducible refine gate_in ?_) | (with_reducible refine spK_intro ?_ ?_ <;> intro hp) | (with_reducible refine brK_intro ?_ ?_ <;> intro hb <;> try rw [hb]) | (with_reducible refine draw_in (by unfold DrawOk; decide +kernel) ?_)) <;> try simp only [↓PR, PO, PC, PX, tyI, tyF, tyX, tyL, tyK, tyB, tyE, tyM, tyP, tyQ, Nat.reduceBEq, Nat.reduceAdd, Nat.reduceMul, Nat.reduceSub, Nat.reduceLeDiff, Nat.reduceEqDiff, Nat.reduceLT, Nat.reducePow, Nat.reduceBneDiff, Nat.reduceBNe, Int.reduceBEq, Int.reduceEq, Int.reduceLT, Int.reduceLE, Int.reduceToNat, String.reduceBEq, PG, Ftb, nn_tf, r0, r6, r7, r23, r24, r25, hx, hw, Ev.enc_eq]))
          refine sem_upd (kt := 3) (e := 126) (o := 22) (q := 41) (kv := kvFrom (tabAt h k) 0) (n := h[k].tx) Tryd.underlying124 Tryd.underlying3 (by simp only [↓PR, PO, PC, PX, tyI, tyF, tyX, tyL, tyK, tyB, tyE, tyM, tyP, tyQ, Nat.reduceBEq, Nat.reduceAdd, Nat.reduceMul, Nat.reduceSub, Nat.reduceLeDiff, Nat.reduceEqDiff, Nat.reduceLT, Nat.reducePow, Nat.reduceBneDiff, Nat.reduceBNe, Int.reduceBEq, Int.reduceEq, Int.reduceLT, Int.reduceLE, Int.reduceToNat, String.reduceBEq, r6]) (by simp only [↓PR, PO, PC, PX, tyI, tyF, tyX, tyL, tyK, tyB, tyE, tyM, tyP, tyQ, Nat.reduceBEq, Nat.reduceAdd, Nat.reduceMul, Nat.reduceSub, Nat.reduceLeDiff, Nat.reduceEqDiff, Nat.reduceLT, Nat.reducePow, Nat.reduceBneDiff, Nat.reduceBNe, Int.reduceBEq, Int.reduceEq, Int.reduceLT, Int.reduceLE, Int.reduceToNat, String.reduceBEq, m22, k_rmp]) (by simp only [↓PR, PO, PC, PX, tyI, tyF, tyX, tyL, tyK, tyB, tyE, tyM, tyP, tyQ, Nat.reduceBEq, Nat.reduceAdd, Nat.reduceMul, Nat.reduceSub, Nat.reduceLeDiff, Nat.reduceEqDiff, Nat.reduceLT, Nat.reducePow, Nat.reduceBneDiff, Nat.reduceBNe, Int.reduceBEq, Int.reduceEq, Int.reduceLT, Int.reduceLE, Int.reduceToNat, String.reduceBEq]) (by simp only [↓PR, PO, PC, PX, tyI, tyF, tyX, tyL, tyK, tyB, tyE, tyM, tyP, tyQ, Nat.reduceBEq, Nat.reduceAdd, Nat.reduceMul, Nat.reduceSub, Nat.reduceLeDiff, Nat.reduceEqDiff, Nat.reduceLT, Nat.reducePow, Nat.reduceBneDiff, Nat.reduceBNe, Int.reduceBEq, Int.reduceEq, Int.reduceLT, Int.reduceLE, Int.reduceToNat, String.reduceBEq]) (by simp only [↓PR, PO, PC, PX, tyI, tyF, tyX, tyL, tyK, tyB, tyE, tyM, tyP, tyQ, Nat.reduceBEq, Nat.reduceAdd, Nat.reduceMul, Nat.reduceSub, Nat.reduceLeDiff, Nat.reduceEqDiff, Nat.reduceLT, Nat.reducePow, Nat.reduceBneDiff, Nat.reduceBNe, Int.reduceBEq, Int.reduceEq, Int.reduceLT, Int.reduceLE, Int.reduceToNat, String.reduceBEq]; rfl) hq ?_
          (refine of_gate ?_; repeat' ((first | (with_reducible refine gate_in ?_) | (with_reducible refine spK_intro ?_ ?_ <;> intro hp) | (with_reducible refine brK_intro ?_ ?_ <;> intro hb <;> try rw [hb]) | (with_reducible refine draw_in (by unfold DrawOk; decide +kernel) ?_)) <;> try simp only [↓PR, PO, PC, PX, tyI, tyF, tyX, tyL, tyK, tyB, tyE, tyM, tyP, tyQ, Nat.reduceBEq, Nat.reduceAdd, Nat.reduceMul, Nat.reduceSub, Nat.reduceLeDiff, Nat.reduceEqDiff, Nat.reduceLT, Nat.reducePow, Nat.reduceBneDiff, Nat.reduceBNe, Int.reduceBEq, Int.reduceEq, Int.reduceLT, Int.reduceLE, Int.reduceToNat, String.reduceBEq, PG, Ftb, nn_tf, r0, r6, r7, r23, r24, r25, hx, hw, Ev.enc_eq]))
          have hn100 : (tabAt h k).length < 100 := by omega
          refine call_inl (take_inl (o := 41) (q := rid (tabAt h k).length) (i := k) (e := h[k]) (kp := ⟨h[k].tx, k, 0, 0, [], ⟨0, 0, 0, 0⟩⟩) rfl (rid_lt hn100) (lo_rid rfl) (rid_lo rfl) ?_ (fun hn => absurd rfl hn) (Nat.zero_le _) (fun σ2 hR hB hW hO => ?_))
          · simp only [↓PR, PO, PC, PX, tyI, tyF, tyX, tyL, tyK, tyB, tyE, tyM, tyP, tyQ, Nat.reduceBEq, Nat.reduceAdd, Nat.reduceMul, Nat.reduceSub, Nat.reduceLeDiff, Nat.reduceEqDiff, Nat.reduceLT, Nat.reducePow, Nat.reduceBneDiff, Nat.reduceBNe, Int.reduceBEq, Int.reduceEq, Int.reduceLT, Int.reduceLE, Int.reduceToNat, String.reduceBEq]; rfl
          · have e0 := hR 0 (by simp only [↓PR, PO, PC, PX, tyI, tyF, tyX, tyL, tyK, tyB, tyE, tyM, tyP, tyQ, Nat.reduceBEq, Nat.reduceAdd, Nat.reduceMul, Nat.reduceSub, Nat.reduceLeDiff, Nat.reduceEqDiff, Nat.reduceLT, Nat.reducePow, Nat.reduceBneDiff, Nat.reduceBNe, Int.reduceBEq, Int.reduceEq, Int.reduceLT, Int.reduceLE, Int.reduceToNat, String.reduceBEq, r0]; exact fineR_a)
            have e6 := hR 6 (by simp only [↓PR, PO, PC, PX, tyI, tyF, tyX, tyL, tyK, tyB, tyE, tyM, tyP, tyQ, Nat.reduceBEq, Nat.reduceAdd, Nat.reduceMul, Nat.reduceSub, Nat.reduceLeDiff, Nat.reduceEqDiff, Nat.reduceLT, Nat.reducePow, Nat.reduceBneDiff, Nat.reduceBNe, Int.reduceBEq, Int.reduceEq, Int.reduceLT, Int.reduceLE, Int.reduceToNat, String.reduceBEq, r6]; exact fineR_omp (lo_rid rfl))
            have e7 := hR 7 (by simp only [↓PR, PO, PC, PX, tyI, tyF, tyX, tyL, tyK, tyB, tyE, tyM, tyP, tyQ, Nat.reduceBEq, Nat.reduceAdd, Nat.reduceMul, Nat.reduceSub, Nat.reduceLeDiff, Nat.reduceEqDiff, Nat.reduceLT, Nat.reducePow, Nat.reduceBneDiff, Nat.reduceBNe, Int.reduceBEq, Int.reduceEq, Int.reduceLT, Int.reduceLE, Int.reduceToNat, String.reduceBEq, r7]; exact fineR_own (lo_rid rfl))
            have e23 := hR 23 (by simp only [↓PR, PO, PC, PX, tyI, tyF, tyX, tyL, tyK, tyB, tyE, tyM, tyP, tyQ, Nat.reduceBEq, Nat.reduceAdd, Nat.reduceMul, Nat.reduceSub, Nat.reduceLeDiff, Nat.reduceEqDiff, Nat.reduceLT, Nat.reducePow, Nat.reduceBneDiff, Nat.reduceBNe, Int.reduceBEq, Int.reduceEq, Int.reduceLT, Int.reduceLE, Int.reduceToNat, String.reduceBEq, r23]; exact fineR_a)
            have e24 := hR 24 (by simp only [↓PR, PO, PC, PX, tyI, tyF, tyX, tyL, tyK, tyB, tyE, tyM, tyP, tyQ, Nat.reduceBEq, Nat.reduceAdd, Nat.reduceMul, Nat.reduceSub, Nat.reduceLeDiff, Nat.reduceEqDiff, Nat.reduceLT, Nat.reducePow, Nat.reduceBneDiff, Nat.reduceBNe, Int.reduceBEq, Int.reduceEq, Int.reduceLT, Int.reduceLE, Int.reduceToNat, String.reduceBEq, r24]; exact fineR_a)
            have e25 := hR 25 (by simp only [↓PR, PO, PC, PX, tyI, tyF, tyX, tyL, tyK, tyB, tyE, tyM, tyP, tyQ, Nat.reduceBEq, Nat.reduceAdd, Nat.reduceMul, Nat.reduceSub, Nat.reduceLeDiff, Nat.reduceEqDiff, Nat.reduceLT, Nat.reducePow, Nat.reduceBneDiff, Nat.reduceBNe, Int.reduceBEq, Int.reduceEq, Int.reduceLT, Int.reduceLE, Int.reduceToNat, String.reduceBEq, r25]; exact fineR_a)
            simp only [↓PR, PO, PC, PX, tyI, tyF, tyX, tyL, tyK, tyB, tyE, tyM, tyP, tyQ, Nat.reduceBEq, Nat.reduceAdd, Nat.reduceMul, Nat.reduceSub, Nat.reduceLeDiff, Nat.reduceEqDiff, Nat.reduceLT, Nat.reducePow, Nat.reduceBneDiff, Nat.reduceBNe, Int.reduceBEq, Int.reduceEq, Int.reduceLT, Int.reduceLE, Int.reduceToNat, String.reduceBEq, r0] at e0
            simp only [↓PR, PO, PC, PX, tyI, tyF, tyX, tyL, tyK, tyB, tyE, tyM, tyP, tyQ, Nat.reduceBEq, Nat.reduceAdd, Nat.reduceMul, Nat.reduceSub, Nat.reduceLeDiff, Nat.reduceEqDiff, Nat.reduceLT, Nat.reducePow, Nat.reduceBneDiff, Nat.reduceBNe, Int.reduceBEq, Int.reduceEq, Int.reduceLT, Int.reduceLE, Int.reduceToNat, String.reduceBEq, r6] at e6
            simp only [↓PR, PO, PC, PX, tyI, tyF, tyX, tyL, tyK, tyB, tyE, tyM, tyP, tyQ, Nat.reduceBEq, Nat.reduceAdd, Nat.reduceMul, Nat.reduceSub, Nat.reduceLeDiff, Nat.reduceEqDiff, Nat.reduceLT, Nat.reducePow, Nat.reduceBneDiff, Nat.reduceBNe, Int.reduceBEq, Int.reduceEq, Int.reduceLT, Int.reduceLE, Int.reduceToNat, String.reduceBEq, r7] at e7
            simp only [↓PR, PO, PC, PX, tyI, tyF, tyX, tyL, tyK, tyB, tyE, tyM, tyP, tyQ, Nat.reduceBEq, Nat.reduceAdd, Nat.reduceMul, Nat.reduceSub, Nat.reduceLeDiff, Nat.reduceEqDiff, Nat.reduceLT, Nat.reducePow, Nat.reduceBneDiff, Nat.reduceBNe, Int.reduceBEq, Int.reduceEq, Int.reduceLT, Int.reduceLE, Int.reduceToNat, String.reduceBEq, r23] at e23
            simp only [↓PR, PO, PC, PX, tyI, tyF, tyX, tyL, tyK, tyB, tyE, tyM, tyP, tyQ, Nat.reduceBEq, Nat.reduceAdd, Nat.reduceMul, Nat.reduceSub, Nat.reduceLeDiff, Nat.reduceEqDiff, Nat.reduceLT, Nat.reducePow, Nat.reduceBneDiff, Nat.reduceBNe, Int.reduceBEq, Int.reduceEq, Int.reduceLT, Int.reduceLE, Int.reduceToNat, String.reduceBEq, r24] at e24
            simp only [↓PR, PO, PC, PX, tyI, tyF, tyX, tyL, tyK, tyB, tyE, tyM, tyP, tyQ, Nat.reduceBEq, Nat.reduceAdd, Nat.reduceMul, Nat.reduceSub, Nat.reduceLeDiff, Nat.reduceEqDiff, Nat.reduceLT, Nat.reducePow, Nat.reduceBneDiff, Nat.reduceBNe, Int.reduceBEq, Int.reduceEq, Int.reduceLT, Int.reduceLE, Int.reduceToNat, String.reduceBEq, r25] at e25
            have f22 := hO 22 (.sem (rmp (kvFrom (tabAt h k) 0 ++ [(h[k].tx, 41)]))) rfl (lo_rid rfl) rfl (by simp only [↓PR, PO, PC, PX, tyI, tyF, tyX, tyL, tyK, tyB, tyE, tyM, tyP, tyQ, Nat.reduceBEq, Nat.reduceAdd, Nat.reduceMul, Nat.reduceSub, Nat.reduceLeDiff, Nat.reduceEqDiff, Nat.reduceLT, Nat.reducePow, Nat.reduceBneDiff, Nat.reduceBNe, Int.reduceBEq, Int.reduceEq, Int.reduceLT, Int.reduceLE, Int.reduceToNat, String.reduceBEq]) (fineO_sem (by
              show _ ∉ (kvFrom (tabAt h k) 0 ++ [(h[k].tx, 41)]).map fun p : Int × Nat => p.2
              rw [List.map_append, kvFrom_ids]
              simp only [List.mem_append, List.mem_map, List.mem_range, not_or, not_exists, not_and, List.map_cons, List.map_nil, List.mem_singleton]
              exact ⟨fun i hi e => by have := kid_eq (0 + i); have := rid_eq (tabAt h k).length; omega, by have := rid_eq (tabAt h k).length; omega⟩))
            have f7 := hO 7 (.sem (rrow 126 (kidsN (tabAt h k).length ++ [41]))) rfl (lo_rid rfl) rfl (by simp only [↓PR, PO, PC, PX, tyI, tyF, tyX, tyL, tyK, tyB, tyE, tyM, tyP, tyQ, Nat.reduceBEq, Nat.reduceAdd, Nat.reduceMul, Nat.reduceSub, Nat.reduceLeDiff, Nat.reduceEqDiff, Nat.reduceLT, Nat.reducePow, Nat.reduceBneDiff, Nat.reduceBNe, Int.reduceBEq, Int.reduceEq, Int.reduceLT, Int.reduceLE, Int.reduceToNat, String.reduceBEq]) (fineO_sem (by
              show _ ∉ kidsN _ ++ [41]
              simp only [List.mem_append, kidsN_mem, not_or, not_exists, not_and, List.mem_singleton]
              exact ⟨fun i hi e => by have := kid_eq i; have := rid_eq (tabAt h k).length; omega, by have := rid_eq (tabAt h k).length; omega⟩))
            have fk : ∀ j' kp', (tabAt h k)[j']? = some kp' → σ2.mem (kid j') = some (.box (kp'.cells (rid j'))) := fun j' kp' hk' => by
              have hj' := (List.getElem?_eq_some_iff.1 hk').1
              have hj'60 : j' < 100 := by omega
              exact hO (kid j') _ (kid_lo rfl) (kid_rid hj'60) (kid_lt hj'60) (by simp only [↓PR, PO, PC, PX, tyI, tyF, tyX, tyL, tyK, tyB, tyE, tyM, tyP, tyQ, Nat.reduceBEq, Nat.reduceAdd, Nat.reduceMul, Nat.reduceSub, Nat.reduceLeDiff, Nat.reduceEqDiff, Nat.reduceLT, Nat.reducePow, Nat.reduceBneDiff, Nat.reduceBNe, Int.reduceBEq, Int.reduceEq, Int.reduceLT, Int.reduceLE, Int.reduceToNat, String.reduceBEq, lo_kid, kb j' kp' hk', k_cells]) (fineO_kp (rid_ne (by omega)))
            have fr : ∀ j' kp', (tabAt h k)[j']? = some kp' → kp'.ops ≠ [] → σ2.mem (rid j') = some (.log 89 3 (kp'.ops.map Op.enc)) := fun j' kp' hk' hn => by
              have hj' := (List.getElem?_eq_some_iff.1 hk').1
              have hj'60 : j' < 100 := by omega
              exact hO (rid j') _ (rid_lo rfl) (rid_ne (by omega)) (rid_lt hj'60) (by simp only [↓PR, PO, PC, PX, tyI, tyF, tyX, tyL, tyK, tyB, tyE, tyM, tyP, tyQ, Nat.reduceBEq, Nat.reduceAdd, Nat.reduceMul, Nat.reduceSub, Nat.reduceLeDiff, Nat.reduceEqDiff, Nat.reduceLT, Nat.reducePow, Nat.reduceBneDiff, Nat.reduceBNe, Int.reduceBEq, Int.reduceEq, Int.reduceLT, Int.reduceLE, Int.reduceToNat, String.reduceBEq, lo_rid, kr j' kp' hk' hn, k_log]) fineO_log
            have happ := tab_app hx hpn
            (refine of_gate ?_; repeat' ((first | (with_reducible refine gate_in ?_) | (with_reducible refine spK_intro ?_ ?_ <;> intro hp) | (with_reducible refine brK_intro ?_ ?_ <;> intro hb <;> try rw [hb]) | (with_reducible refine draw_in (by unfold DrawOk; decide +kernel) ?_)) <;> try simp only [↓PR, PO, PC, PX, tyI, tyF, tyX, tyL, tyK, tyB, tyE, tyM, tyP, tyQ, Nat.reduceBEq, Nat.reduceAdd, Nat.reduceMul, Nat.reduceSub, Nat.reduceLeDiff, Nat.reduceEqDiff, Nat.reduceLT, Nat.reducePow, Nat.reduceBneDiff, Nat.reduceBNe, Int.reduceBEq, Int.reduceEq, Int.reduceLT, Int.reduceLE, Int.reduceToNat, String.reduceBEq, PG, one, e0, e6, e7, e23, e24, e25, hx, hw, Ev.enc_eq]))
            refine tab_next' h60 hk (g_mv (a := 41) (b := kid (tabAt h k).length) (by decide) (by have := kid_eq (tabAt h k).length; omega)) ⟨by omega, ?_, ?_, ?_, ?_, ?_, ?_, ?_, ?_, fun j' kp' hk' => ?_, fun j' kp' hk' hn => ?_⟩
            iterate 6 (· simp only [↓PR, PO, PC, PX, tyI, tyF, tyX, tyL, tyK, tyB, tyE, tyM, tyP, tyQ, Nat.reduceBEq, Nat.reduceAdd, Nat.reduceMul, Nat.reduceSub, Nat.reduceLeDiff, Nat.reduceEqDiff, Nat.reduceLT, Nat.reducePow, Nat.reduceBneDiff, Nat.reduceBNe, Int.reduceBEq, Int.reduceEq, Int.reduceLT, Int.reduceLE, Int.reduceToNat, String.reduceBEq, PM, e0, lo_kid, e6, e7, e23, e24, e25, hw])
            · rw [happ, kvFrom_app, Nat.zero_add]
              simp only [↓PR, PO, PC, PX, tyI, tyF, tyX, tyL, tyK, tyB, tyE, tyM, tyP, tyQ, Nat.reduceBEq, Nat.reduceAdd, Nat.reduceMul, Nat.reduceSub, Nat.reduceLeDiff, Nat.reduceEqDiff, Nat.reduceLT, Nat.reducePow, Nat.reduceBneDiff, Nat.reduceBNe, Int.reduceBEq, Int.reduceEq, Int.reduceLT, Int.reduceLE, Int.reduceToNat, String.reduceBEq, mv_mo, lo_kid, f22, mv_rmp, newKp, takeK_name]
            · rw [happ, List.length_append, List.length_singleton, kidsN_succ]
              simp only [↓PR, PO, PC, PX, tyI, tyF, tyX, tyL, tyK, tyB, tyE, tyM, tyP, tyQ, Nat.reduceBEq, Nat.reduceAdd, Nat.reduceMul, Nat.reduceSub, Nat.reduceLeDiff, Nat.reduceEqDiff, Nat.reduceLT, Nat.reducePow, Nat.reduceBneDiff, Nat.reduceBNe, Int.reduceBEq, Int.reduceEq, Int.reduceLT, Int.reduceLE, Int.reduceToNat, String.reduceBEq, mv_mo, lo_kid, f7, mv_rrow]
            · rw [happ] at hk'
              rcases Nat.lt_or_ge j' (tabAt h k).length with hlt | hge
              · rw [List.getElem?_append_left hlt] at hk'
                have h1 : (kid j' == kid (tabAt h k).length) = false := kid_ne (by omega)
                simp only [↓PR, PO, PC, PX, tyI, tyF, tyX, tyL, tyK, tyB, tyE, tyM, tyP, tyQ, Nat.reduceBEq, Nat.reduceAdd, Nat.reduceMul, Nat.reduceSub, Nat.reduceLeDiff, Nat.reduceEqDiff, Nat.reduceLT, Nat.reducePow, Nat.reduceBneDiff, Nat.reduceBNe, Int.reduceBEq, Int.reduceEq, Int.reduceLT, Int.reduceLE, Int.reduceToNat, String.reduceBEq, mv_mo, h1, kid_lo, fk j' kp' hk', mo_box, mv_cells hn100]
              · rw [List.getElem?_append_right hge] at hk'
                have hje : j' = (tabAt h k).length := by
                  have := (List.getElem?_eq_some_iff.1 hk').1
                  simp at this; omega
                subst hje
                rw [Nat.sub_self] at hk'
                cases hk'
                simp only [↓PR, PO, PC, PX, tyI, tyF, tyX, tyL, tyK, tyB, tyE, tyM, tyP, tyQ, Nat.reduceBEq, Nat.reduceAdd, Nat.reduceMul, Nat.reduceSub, Nat.reduceLeDiff, Nat.reduceEqDiff, Nat.reduceLT, Nat.reducePow, Nat.reduceBneDiff, Nat.reduceBNe, Int.reduceBEq, Int.reduceEq, Int.reduceLT, Int.reduceLE, Int.reduceToNat, String.reduceBEq, mv_mb, hB, mo_box, mv_cells hn100]
                rfl
            · rw [happ] at hk'
              rcases Nat.lt_or_ge j' (tabAt h k).length with hlt | hge
              · rw [List.getElem?_append_left hlt] at hk'
                have h1 : (rid j' == kid (tabAt h k).length) = false := rid_kid hn100
                simp only [↓PR, PO, PC, PX, tyI, tyF, tyX, tyL, tyK, tyB, tyE, tyM, tyP, tyQ, Nat.reduceBEq, Nat.reduceAdd, Nat.reduceMul, Nat.reduceSub, Nat.reduceLeDiff, Nat.reduceEqDiff, Nat.reduceLT, Nat.reducePow, Nat.reduceBneDiff, Nat.reduceBNe, Int.reduceBEq, Int.reduceEq, Int.reduceLT, Int.reduceLE, Int.reduceToNat, String.reduceBEq, mv_mo, h1, rid_lo, fr j' kp' hk' hn, mo_log]
              · rw [List.getElem?_append_right hge] at hk'
                have hje : j' = (tabAt h k).length := by
                  have := (List.getElem?_eq_some_iff.1 hk').1
                  simp at this; omega
                subst hje
                rw [Nat.sub_self] at hk'
                cases hk'
                have h1 : (rid (tabAt h k).length == kid (tabAt h k).length) = false := rid_kid hn100
                have hW' := hW hn
                simp only [↓PR, PO, PC, PX, tyI, tyF, tyX, tyL, tyK, tyB, tyE, tyM, tyP, tyQ, Nat.reduceBEq, Nat.reduceAdd, Nat.reduceMul, Nat.reduceSub, Nat.reduceLeDiff, Nat.reduceEqDiff, Nat.reduceLT, Nat.reducePow, Nat.reduceBneDiff, Nat.reduceBNe, Int.reduceBEq, Int.reduceEq, Int.reduceLT, Int.reduceLE, Int.reduceToNat, String.reduceBEq, mv_mo, h1, rid_lo, hW', mo_log]
                rfl
      · exact absurd ‹_› (by omega)
    · subst hk
      obtain ⟨r7, r24, r25, m7⟩ := hI
      (refine of_gate ?_; repeat' ((first | (with_reducible refine gate_in ?_) | (with_reducible refine spK_intro ?_ ?_ <;> intro hp) | (with_reducible refine brK_intro ?_ ?_ <;> intro hb <;> try rw [hb]) | (with_reducible refine draw_in (by unfold DrawOk; decide +kernel) ?_)) <;> try simp only [↓PR, PO, PC, PX, tyI, tyF, tyX, tyL, tyK, tyB, tyE, tyM, tyP, tyQ, Nat.reduceBEq, Nat.reduceAdd, Nat.reduceMul, Nat.reduceSub, Nat.reduceLeDiff, Nat.reduceEqDiff, Nat.reduceLT, Nat.reducePow, Nat.reduceBneDiff, Nat.reduceBNe, Int.reduceBEq, Int.reduceEq, Int.reduceLT, Int.reduceLE, Int.reduceToNat, String.reduceBEq, PG, r7, r24, r25, m7, List.length_map]))
      · exact absurd ‹_› (by omega)
      · have hlen := tab_len (h := h) h.length
        refine awp_loopG (TabJ h) (fun k => (tabAt h h.length).length - k) 0 ⟨_, Ghost.refl _, Nat.zero_le _, ?_, ?_, ?_, ?_, ?_, ?_⟩ ?_
        iterate 6 (· simp only [↓PR, PO, PC, PX, tyI, tyF, tyX, tyL, tyK, tyB, tyE, tyM, tyP, tyQ, Nat.reduceBEq, Nat.reduceAdd, Nat.reduceMul, Nat.reduceSub, Nat.reduceLeDiff, Nat.reduceEqDiff, Nat.reduceLT, Nat.reducePow, Nat.reduceBneDiff, Nat.reduceBNe, Int.reduceBEq, Int.reduceEq, Int.reduceLT, Int.reduceLE, Int.reduceToNat, String.reduceBEq, m7, k_log])
        intro k σ hJ
        obtain ⟨hk, r55, r56, r57, r11, m7, m11⟩ := hJ
        (refine of_gate ?_; repeat' ((first | (with_reducible refine gate_in ?_) | (with_reducible refine spK_intro ?_ ?_ <;> intro hp) | (with_reducible refine brK_intro ?_ ?_ <;> intro hb <;> try rw [hb]) | (with_reducible refine draw_in (by unfold DrawOk; decide +kernel) ?_)) <;> try simp only [↓PR, PO, PC, PX, tyI, tyF, tyX, tyL, tyK, tyB, tyE, tyM, tyP, tyQ, Nat.reduceBEq, Nat.reduceAdd, Nat.reduceMul, Nat.reduceSub, Nat.reduceLeDiff, Nat.reduceEqDiff, Nat.reduceLT, Nat.reducePow, Nat.reduceBneDiff, Nat.reduceBNe, Int.reduceBEq, Int.reduceEq, Int.reduceLT, Int.reduceLE, Int.reduceToNat, String.reduceBEq, PG, r55, r56, r57, r11, m7, m11, List.length_map]))
        · have hk' : k < (tabAt h h.length).length := by omega
          have hx : (tabAt h h.length)[k]? = some (tabAt h h.length)[k] := List.getElem?_eq_getElem hk'
          have hw := wrap_succ (n := (tabAt h h.length).length) hk' (by simp only [maxLen]; omega)
          refine SemOp.old ?_
          (refine of_gate ?_; repeat' ((first | (with_reducible refine gate_in ?_) | (with_reducible refine spK_intro ?_ ?_ <;> intro hp) | (with_reducible refine brK_intro ?_ ?_ <;> intro hb <;> try rw [hb]) | (with_reducible refine draw_in (by unfold DrawOk; decide +kernel) ?_)) <;> try simp only [↓PR, PO, PC, PX, tyI, tyF, tyX, tyL, tyK, tyB, tyE, tyM, tyP, tyQ, Nat.reduceBEq, Nat.reduceAdd, Nat.reduceMul, Nat.reduceSub, Nat.reduceLeDiff, Nat.reduceEqDiff, Nat.reduceLT, Nat.reducePow, Nat.reduceBneDiff, Nat.reduceBNe, Int.reduceBEq, Int.reduceEq, Int.reduceLT, Int.reduceLE, Int.reduceToNat, String.reduceBEq, PG, y_idx0, r55, r56, r57, r11, m7, m11, List.length_map, hx]))
          refine SemOp.old ?_
          (refine of_gate ?_; repeat' ((first | (with_reducible refine gate_in ?_) | (with_reducible refine spK_intro ?_ ?_ <;> intro hp) | (with_reducible refine brK_intro ?_ ?_ <;> intro hb <;> try rw [hb]) | (with_reducible refine draw_in (by unfold DrawOk; decide +kernel) ?_)) <;> try simp only [↓PR, PO, PC, PX, tyI, tyF, tyX, tyL, tyK, tyB, tyE, tyM, tyP, tyQ, Nat.reduceBEq, Nat.reduceAdd, Nat.reduceMul, Nat.reduceSub, Nat.reduceLeDiff, Nat.reduceEqDiff, Nat.reduceLT, Nat.reducePow, Nat.reduceBneDiff, Nat.reduceBNe, Int.reduceBEq, Int.reduceEq, Int.reduceLT, Int.reduceLE, Int.reduceToNat, String.reduceBEq, PG, y_ld0, Kp.data, r55, r56, r57, r11, m7, m11, List.length_map, hx]))
          refine ⟨by simp; omega, _, k + 1, Ghost.refl _, ⟨by omega, ?_, ?_, ?_, ?_, ?_, ?_⟩, by omega⟩
          iterate 5 (· simp only [↓PR, PO, PC, PX, tyI, tyF, tyX, tyL, tyK, tyB, tyE, tyM, tyP, tyQ, Nat.reduceBEq, Nat.reduceAdd, Nat.reduceMul, Nat.reduceSub, Nat.reduceLeDiff, Nat.reduceEqDiff, Nat.reduceLT, Nat.reducePow, Nat.reduceBneDiff, Nat.reduceBNe, Int.reduceBEq, Int.reduceEq, Int.reduceLT, Int.reduceLE, Int.reduceToNat, String.reduceBEq, r55, r56, r57, hw, m7, k_log])
          · simp only [↓PR, PO, PC, PX, tyI, tyF, tyX, tyL, tyK, tyB, tyE, tyM, tyP, tyQ, Nat.reduceBEq, Nat.reduceAdd, Nat.reduceMul, Nat.reduceSub, Nat.reduceLeDiff, Nat.reduceEqDiff, Nat.reduceLT, Nat.reducePow, Nat.reduceBneDiff, Nat.reduceBNe, Int.reduceBEq, Int.reduceEq, Int.reduceLT, Int.reduceLE, Int.reduceToNat, String.reduceBEq, m11, k_log]
            rw [List.take_succ_eq_append_getElem hk', List.map_append]
            rfl
        · have hke : k = (tabAt h h.length).length := by omega
          refine ⟨?_, (‹checkE h = 0›).symm⟩
          rw [hke, List.take_length, tabD, if_pos ‹checkE h = 0›]
          rfl
  · unfold tabD; rw [if_neg ‹_›]
end Go.VC
