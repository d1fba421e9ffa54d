/- Part 4 of the texts that stand behind the row: what the statement's functions do, and plain laws. -/
import Derived.Test.YtgbdclkofpcfaaaDoorP3
set_option maxRecDepth 100000
set_option linter.unusedSimpArgs false
set_option linter.unusedVariables false
set_option linter.unnecessarySimpa false
set_option linter.defProp false
section
set_option maxRecDepth 100000
set_option linter.unusedSimpArgs false
set_option linter.unusedVariables false
namespace Go.VC
open Go.RowKit Go.Proofs Go.IntWalk
theorem takeK_name {kp : Kp} {i : Int} {e : Ev} : (takeK kp i e).name = kp.name := by unfold takeK; (repeat' split) <;> rfl
theorem takeK_ops {kp : Kp} {i : Int} {e : Ev} : (takeK kp i e).ops.length ≤ kp.ops.length + 1 := by unfold takeK; (repeat' split) <;> simp
def newKp (i : Int) (e : Ev) : Kp := takeK ⟨e.tx, i, 0, 0, [], ⟨0, 0, 0, 0⟩⟩ i e
def pos : List Kp → Int → Option Nat
  | [], _ => none
  | kp :: ks, n => if kp.name = n then some 0 else (pos ks n).map (· + 1)
theorem pos_at {n : Int} : ∀ {ks : List Kp} {j : Nat}, pos ks n = some j → ∃ kp, ks[j]? = some kp ∧ kp.name = n
  | kp :: ks, j, h => by
    simp only [pos] at h
    split at h
    · rename_i e; cases h; exact ⟨kp, rfl, e⟩
    · obtain ⟨j', hj, rfl⟩ := Option.map_eq_some_iff.1 h
      obtain ⟨kp', h1, h2⟩ := pos_at hj
      exact ⟨kp', by simpa using h1, h2⟩
noncomputable def kvFrom : List Kp → Nat → List (Int × Nat)
  | [], _ => []
  | kp :: ks, j => (kp.name, kid j) :: kvFrom ks (j + 1)
theorem kvN_from {n : Int} : ∀ {ks : List Kp} {j : Nat}, kvN (kvFrom ks j) n = (pos ks n).map fun i => kid (j + i)
  | [], j => rfl
  | kp :: ks, j => by
    simp only [kvFrom, kvN, pos]
    split
    · rfl
    · rw [kvN_from, Option.map_map]
      congr 1; funext i; simp only [Function.comp]; congr 1; omega
theorem kvFrom_set {kp' : Kp} : ∀ {ks : List Kp} {i j : Nat}, (∀ kp, ks[i]? = some kp → kp'.name = kp.name) → kvFrom (ks.set i kp') j = kvFrom ks j
  | [], i, j, _ => rfl
  | kp :: ks, 0, j, h => by simp only [List.set_cons_zero, kvFrom, h kp rfl]
  | kp :: ks, i + 1, j, h => by simp only [List.set_cons_succ, kvFrom, kvFrom_set fun kp hk => h kp (by simpa using hk)]
theorem kvFrom_app {kp : Kp} : ∀ {ks : List Kp} {j : Nat}, kvFrom (ks ++ [kp]) j = kvFrom ks j ++ [(kp.name, kid (j + ks.length))]
  | [], j => rfl
  | k :: ks, j => by simp only [List.cons_append, kvFrom, kvFrom_app, List.length_cons]; rw [show j + 1 + ks.length = j + (ks.length + 1) by omega]
theorem kvFrom_ids : ∀ {ks : List Kp} {j : Nat}, (kvFrom ks j).map (·.2) = (List.range ks.length).map fun i => kid (j + i)
  | [], j => rfl
  | k :: ks, j => by
    simp only [kvFrom, List.map_cons, kvFrom_ids, List.length_cons, List.range_succ_eq_map, List.map_map]
    congr 2; funext i; simp only [Function.comp]; congr 1; omega
def tabStep (ks : List Kp) (i : Int) (e : Ev) : List Kp := match pos ks e.tx with
  | some j => match ks[j]? with
    | some kp => ks.set j (takeK kp i e)
    | none => ks
  | none => ks ++ [newKp i e]
def tabAt (h : List Ev) : Nat → List Kp
  | 0 => []
  | k + 1 => match h[k]? with
    | some e => tabStep (tabAt h k) k e
    | none => tabAt h k
noncomputable def kidsN (n : Nat) : List Nat := (List.range n).map kid
theorem kidsN_succ {n : Nat} : kidsN (n + 1) = kidsN n ++ [kid n] := by simp [kidsN, List.range_succ]
theorem kid_inj {i j : Nat} (h : kid i = kid j) : i = j := by rw [kid_eq, kid_eq] at h; omega
theorem kidsN_mem {n x : Nat} : x ∈ kidsN n ↔ ∃ i, i < n ∧ kid i = x := by simp [kidsN]
theorem tab_len {h : List Ev} : ∀ k, (tabAt h k).length ≤ k
  | 0 => by simp [tabAt]
  | k + 1 => by
    have := tab_len (h := h) k
    simp only [tabAt]
    split
    · unfold tabStep
      (repeat' split) <;> simp <;> omega
    · omega
theorem tab_ops {h : List Ev} : ∀ k, ∀ kp ∈ tabAt h k, kp.ops.length ≤ k
  | 0, kp, hk => by simp [tabAt] at hk
  | k + 1, kp, hk => by
    have ih := tab_ops (h := h) k
    simp only [tabAt] at hk
    split at hk
    · unfold tabStep at hk
      (repeat' split at hk)
      · rename_i kp' he
        rcases List.mem_or_eq_of_mem_set hk with h1 | rfl
        · have := ih kp h1; omega
        · have h1 := ih kp' (List.mem_of_getElem? he)
          have := @takeK_ops kp' k ‹Ev›
          omega
      · have := ih kp hk; omega
      · rcases List.mem_append.1 hk with h1 | h1
        · have := ih kp h1; omega
        · simp only [List.mem_singleton] at h1
          subst h1
          have : (newKp k ‹Ev›).ops.length ≤ 0 + 1 := takeK_ops
          omega
    · have := ih kp hk; omega
/-- What holds at the head of a round. -/
structure TabI (h : List Ev) (k : Nat) (σ : S) : Prop where
  le : k ≤ h.length
  r0 : σ.regs 0 = .a (evsA h)
  r6 : σ.regs 6 = .omp 22
  r7 : σ.regs 7 = .own 7
  r23 : σ.regs 23 = .a (evsA h)
  r24 : σ.regs 24 = .a (I h.length)
  r25 : σ.regs 25 = .a (I k)
  m22 : σ.mem 22 = some (.sem (rmp (kvFrom (tabAt h k) 0)))
  m7 : σ.mem 7 = some (.sem (rrow 63 (kidsN (tabAt h k).length)))
  kb : ∀ j kp, (tabAt h k)[j]? = some kp → σ.mem (kid j) = some (.box (kp.cells (rid j)))
  kr : ∀ j kp, (tabAt h k)[j]? = some kp → kp.ops ≠ [] → σ.mem (rid j) = some (.log 80 3 (kp.ops.map Op.enc))
/-- Behind the last round the order is data. -/
structure FinI (h : List Ev) (σ : S) : Prop where
  r7 : σ.regs 7 = .own 7
  r24 : σ.regs 24 = .a (I h.length)
  r25 : σ.regs 25 = .a (I h.length)
  m7 : σ.mem 7 = some (.log 63 1 ((tabAt h h.length).map fun kp => [.pt kp.data]))
def TabG (h : List Ev) (k : Nat) (σ : S) : Prop := (k < h.length ∧ TabI h k σ) ∨ (k = h.length ∧ FinI h σ)
theorem tab_ghost {h : List Ev} (h60 : h.length ≤ 60) {k : Nat} {σ : S} (hI : TabI h k σ) : ∃ σ', Ghost σ σ' ∧ TabG h k σ' := by
  by_cases hk : k < h.length
  · exact ⟨σ, Ghost.refl σ, .inl ⟨hk, hI⟩⟩
  · have hke : k = h.length := by have := hI.le; omega
    subst hke
    have hlen := tab_len (h := h) h.length
    refine ⟨_, g_order (o := 7) (e := 63) (dss := (tabAt h h.length).map Kp.data) hI.m7 (by simp [kidsN]) (fun j i ds hi hds => ?_), .inr ⟨rfl, ?_, ?_, ?_, ?_⟩⟩
    · simp only [List.getElem?_map, Option.map_eq_some_iff] at hds
      obtain ⟨kp, hkp, rfl⟩ := hds
      have hj := (List.getElem?_eq_some_iff.1 hkp).1
      have hi' : i = kid j := by simp [kidsN, hj] at hi; exact hi.symm
      subst hi'
      refine ⟨by have := kid_eq j; omega, by have := kid_eq j; omega, _, hI.kb j kp hkp, ?_⟩
      have hr : rid j < 1000000000 := by have := rid_eq j; omega
      have hr7 : rid j ≠ 7 := by have := rid_eq j; omega
      have row : (∀ q, opsR (rid j) kp.ops = .own q → q ≠ 7) ∧ CellD σ (opsR (rid j) kp.ops) (.sl (kp.ops.map Op.enc)) := by
        cases ho : kp.ops with
        | nil => exact ⟨fun q h => (by cases h), .cs⟩
        | cons x xs =>
          refine ⟨fun q h => by cases h; exact hr7, .own (e := 80) (z := 3) hr ?_⟩
          have := hI.kr j kp hkp (by rw [ho]; simp)
          rw [ho] at this
          exact this
      have an : ∀ n : Int, (∀ q, R.a (I n) = .own q → q ≠ 7) ∧ CellD σ (.a (I n)) (dI n) := fun n => ⟨fun q h => (by cases h), .a⟩
      exact .cons (an _) (.cons (an _) (.cons (an _) (.cons (an _) (.cons row (.cons (an _) (.cons (an _) (.cons (an _) (.cons (an _) .nil))))))))
    · simp only [ordS, hI.r7]; rfl
    · simp only [ordS, hI.r24]
    · simp only [ordS, hI.r25]
    · simp only [ordS, List.map_map, Function.comp_def]; rfl
theorem tab_start {h : List Ev} (h60 : h.length ≤ 60) {σ : S} (r0 : σ.regs 0 = .a (evsA h)) (r6 : σ.regs 6 = .omp 22) (r7 : σ.regs 7 = .own 7) (r23 : σ.regs 23 = .a (evsA h)) (r24 : σ.regs 24 = .a (I h.length)) (r25 : σ.regs 25 = .a (I 0))
    (m22 : σ.mem 22 = some (.mpo [])) (m7 : σ.mem 7 = some (.log 63 1 [])) : ∃ σ', Ghost σ σ' ∧ TabG h 0 σ' := by
  have h0 : TabI h 0 ((σ.setOb 22 (.sem (rmp []))).setOb 7 (.sem (rrow 63 []))) := by
    refine ⟨Nat.zero_le _, r0, r6, r7, r23, r24, r25, ?_, ?_, ?_, ?_⟩
    · simp [S.setOb, upd]; rfl
    · simp [S.setOb, upd]; rfl
    · intro j kp hj; simp [tabAt] at hj
    · intro j kp hj; simp [tabAt] at hj
  obtain ⟨σ1, g1, i1⟩ := tab_ghost h60 h0
  exact ⟨σ1, ((g_map_nil m22).trans (g_row_nil (by simp [S.setOb, upd, m7]))).trans g1, i1⟩
section
variable {P : Program} {gl : Nat → Option (List D)} {σ : S} {K : S → Prop} {dst : Option Tmp} {ty : TypeId} {pos : String} {after : Array Edge} {g : Option (Nat × Bool)}
theorem y_idx0 {t : TypeId} {x i : Operand} : opA0 P gl ⟨dst, .indexAddr t x i, ty, pos, after, g⟩ σ K = opQ P gl ⟨dst, .indexAddr t x i, ty, pos, after, g⟩ σ fun r => K (σ.put dst r) := rfl
theorem y_ld0 {t : TypeId} {x : Operand} : opA0 P gl ⟨dst, .load t x, ty, pos, after, g⟩ σ K = opQ P gl ⟨dst, .load t x, ty, pos, after, g⟩ σ fun r => K (σ.put dst r) := rfl
end
theorem k_sem {x : SemOb} {d : Nat} (h : d ∉ x.os) : Ob.kill d (.sem x) = .sem x := by
  have : x.os.any (fun o' => o' == d) = false := by
    simp only [List.any_eq_false, beq_iff_eq]
    intro o ho e; exact h (e ▸ ho)
  show (if _ then _ else _) = _
  rw [this]; rfl
theorem k_rmp {ks : List Kp} {d j : Nat} (h : decide (d < 1000000) = true) : Ob.kill d (.sem (rmp (kvFrom ks j))) = .sem (rmp (kvFrom ks j)) := k_sem (by
  have := of_decide_eq_true h
  show d ∉ (kvFrom ks j).map (·.2)
  rw [kvFrom_ids]
  simp only [List.mem_map, List.mem_range, not_exists, not_and]
  intro i _ e
  have := kid_eq (j + i); omega)
theorem k_rrow {n d : Nat} {e : TypeId} (h : decide (d < 1000000) = true) : Ob.kill d (.sem (rrow e (kidsN n))) = .sem (rrow e (kidsN n)) := k_sem (by
  have := of_decide_eq_true h
  show d ∉ kidsN n
  rw [kidsN_mem]
  rintro ⟨i, _, e⟩
  have := kid_eq i; omega)
theorem k_cells {kp : Kp} {d j : Nat} (h : decide (d < 1000000) = true) : (kp.cells (rid j)).map (R.kill d) = kp.cells (rid j) := by
  have hr : (rid j == d) = false := rid_lo h
  cases ho : kp.ops <;> simp [Kp.cells, ho, opsR, R.kill, R.says, R.says0, hr]
theorem k_log {d : Nat} {e : TypeId} {z : Nat} {xs : List (List D)} : Ob.kill d (.log e z xs) = .log e z xs := rfl
/-- What holds at the head of a round of the second loop. -/
structure TabJ (h : List Ev) (k : Nat) (σ : S) : Prop where
  le : k ≤ (tabAt h h.length).length
  r55 : σ.regs 55 = .own 7
  r56 : σ.regs 56 = .a (I (tabAt h h.length).length)
  r57 : σ.regs 57 = .a (I k)
  r11 : σ.regs 11 = .own 11
  m7 : σ.mem 7 = some (.log 63 1 ((tabAt h h.length).map fun kp => [.pt kp.data]))
  m11 : σ.mem 11 = some (.log 44 5 (((tabAt h h.length).take k).map fun kp => [dI kp.name, dI kp.first, dI kp.last, dI kp.st, .sl (kp.ops.map Op.enc)]))
theorem tab_next {h : List Ev} (h60 : h.length ≤ 60) {k : Nat} (hk : k < h.length) {σ : S} (hI : TabI h (k + 1) σ) : ∃ σ'' a', Ghost σ σ'' ∧ TabG h a' σ'' ∧ h.length - a' < h.length - k := by
  obtain ⟨σ', g, i⟩ := tab_ghost h60 hI
  exact ⟨σ', k + 1, g, i, by omega⟩
theorem nn_ff : (false != false) = false := rfl
theorem nn_tf : (true != false) = true := rfl
theorem tab_set {h : List Ev} {k j : Nat} {kp : Kp} {e : Ev} (hx : h[k]? = some e) (hj : pos (tabAt h k) e.tx = some j) (hkp : (tabAt h k)[j]? = some kp) : tabAt h (k + 1) = (tabAt h k).set j (takeK kp k e) := by
  simp only [tabAt, hx, tabStep, hj, hkp]
theorem tab_app {h : List Ev} {k : Nat} {e : Ev} (hx : h[k]? = some e) (hj : pos (tabAt h k) e.tx = none) : tabAt h (k + 1) = tabAt h k ++ [newKp k e] := by
  simp only [tabAt, hx, tabStep, hj]
theorem tab_next' {h : List Ev} (h60 : h.length ≤ 60) {k : Nat} (hk : k < h.length) {σ τ : S} (hg : Ghost σ τ) (hI : TabI h (k + 1) τ) : ∃ σ'' a', Ghost σ σ'' ∧ TabG h a' σ'' ∧ h.length - a' < h.length - k := by
  obtain ⟨σ', a', g, r⟩ := tab_next h60 hk hI
  exact ⟨σ', a', hg.trans g, r⟩
def Ftb : List (List Nat) := [[0, 1, 2, 3, 4], [0, 1, 2, 3], [], []]
theorem mv_sem {x : SemOb} {a b : Nat} (h : b ∉ x.os) : Ob.mv a b (.sem x) = .sem (x.mv a b) := by
  have : x.os.any (fun o => o == b) = false := by
    simp only [List.any_eq_false, beq_iff_eq]
    intro o ho e; exact h (e ▸ ho)
  show (if _ then _ else _) = _
  rw [this]; rfl
theorem nm_kid {j b : Nat} : nm 41 b (kid j) = kid j := by
  unfold nm; rw [if_neg (by have := kid_eq j; omega)]
theorem nm_from {b : Nat} : ∀ {ks : List Kp} {j : Nat}, (kvFrom ks j).map (fun p => (p.1, nm 41 b p.2)) = kvFrom ks j
  | [], j => rfl
  | kp :: ks, j => by simp only [kvFrom, List.map_cons, nm_kid, nm_from]
theorem mv_rmp {ks : List Kp} {x : Int} : Ob.mv 41 (kid ks.length) (.sem (rmp (kvFrom ks 0 ++ [(x, 41)]))) = .sem (rmp (kvFrom ks 0 ++ [(x, kid ks.length)])) := by
  have hids := @kvFrom_ids ks 0
  rw [mv_sem, rmp_mv]
  · congr 2
    rw [List.map_append]
    congr 1
    exact nm_from
  · show kid ks.length ∉ (kvFrom ks 0 ++ [(x, 41)]).map fun p : Int × Nat => p.2
    rw [List.map_append, hids]
    simp only [List.mem_append, List.mem_map, List.mem_range, not_or, not_exists, not_and, List.map_cons, List.map_nil, List.mem_singleton]
    exact ⟨fun i hi e => by have := kid_inj e; omega, by have := kid_eq ks.length; omega⟩
theorem mv_rrow {n : Nat} {e : TypeId} : Ob.mv 41 (kid n) (.sem (rrow e (kidsN n ++ [41]))) = .sem (rrow e (kidsN n ++ [kid n])) := by
  rw [mv_sem, rrow_mv]
  · congr 2
    rw [List.map_append]
    congr 1
    · rw [List.map_congr_left (g := id), List.map_id]
      intro x hx
      obtain ⟨i, _, rfl⟩ := kidsN_mem.1 hx
      exact nm_kid
  · show kid n ∉ kidsN n ++ [41]
    simp only [List.mem_append, kidsN_mem, not_or, not_exists, not_and, List.mem_singleton]
    exact ⟨fun i hi e => by have := kid_inj e; omega, by have := kid_eq n; omega⟩
theorem mv_cells {kp : Kp} {j n : Nat} (hn : n < 100) : (kp.cells (rid j)).map (R.mv 41 (kid n)) = kp.cells (rid j) := by
  have h1 : (rid j == kid n) = false := rid_kid hn
  have h2 : (rid j == 41) = false := rid_lo rfl
  cases ho : kp.ops with
  | nil => simp [Kp.cells, ho, opsR, mv_a, mv_cs]
  | cons x xs => simp [Kp.cells, ho, opsR, mv_a, mv_ownn h1 h2]
def Kp.row (kp : Kp) : List D := [dI kp.name, dI kp.first, dI kp.last, dI kp.st, .sl (kp.ops.map Op.enc)]
def tabD (h : List Ev) : List (List D) := if checkE h = 0 then (tabAt h h.length).map Kp.row else []
theorem t56 (h : List Ev) : Holds Tryd.prog GL 16 [evsA h] [.a (.d (.sl (tabD h))), .a (I (checkE h))] := by
  refine fn_holds (vs := [.tmp 2, .tmp 3]) (by kernel_rfl) Tryd.func16 rfl rfl (by kernel_rfl) (by kernel_rfl) rfl ?_
  (refine rO ?_; repeat' ((with_reducible first | refine rG ?_ | (refine rS ?_ ?_ <;> intro hp) | (refine rB ?_ ?_ <;> intro hb <;> try rw [hb]) | refine rD ?_ | apply c45) <;> try simp only [go_sem, simprocAttr, PG]))
  · refine SemOp.old ?_
    (refine rO ?_; repeat' ((with_reducible first | refine rG ?_ | (refine rS ?_ ?_ <;> intro hp) | (refine rB ?_ ?_ <;> intro hb <;> try rw [hb]) | refine rD ?_ | apply c45) <;> try simp only [go_sem, simprocAttr, PG, y_mk0]))
    have h60 : h.length ≤ 60 := by
      rcases Nat.lt_or_ge 60 h.length with h1 | h1
      · exfalso
        have : rightH h = false := by simp [rightH]; omega
        simp [checkE, this] at hp
      · exact h1
    refine awp_loopG (TabG h) (fun k => h.length - k) 0 ?_ ?_
    · refine tab_start h60 ?_ ?_ ?_ ?_ ?_ ?_ ?_ ?_ <;> simp only [go_sem, simprocAttr, List.length_map] <;> rfl
    intro k σ hI
    rcases hI with ⟨hk, hI⟩ | ⟨hk, hI⟩
    · obtain ⟨_, r0, r6, r7, r23, r24, r25, m22, m7, kb, kr⟩ := hI
      have hki : ((k : Int) < (h.length : Int)) = True := eq_true (by omega)
      have hx : h[k]? = some h[k] := List.getElem?_eq_getElem hk
      have hw := wrap_succ (n := h.length) hk (by simp only [maxLen]; omega)
      (refine rO ?_; repeat' ((with_reducible first | refine rG ?_ | (refine rS ?_ ?_ <;> intro hp) | (refine rB ?_ ?_ <;> intro hb <;> try rw [hb]) | refine rD ?_) <;> try simp only [go_sem, simprocAttr, PG, r0, r6, r7, r23, r24, r25, hx, hw, Ev.enc_eq]))
      · refine sem_lookup (o := 22) (kv := kvFrom (tabAt h k) 0) (n := h[k].tx) (by kernel_rfl) (by simp only [go_sem, simprocAttr, r6]) (by simp only [go_sem, simprocAttr, m22, k_rmp]) (by simp only [go_sem, simprocAttr]) ?_ (fun q hq => ?_) (fun hq => ?_)
        · intro p hp
          have hp2 : p.2 ∈ (kvFrom (tabAt h k) 0).map (·.2) := List.mem_map.2 ⟨p, hp, rfl⟩
          rw [kvFrom_ids] at hp2
          obtain ⟨i, hi, e⟩ := List.mem_map.1 hp2
          have hi := List.mem_range.1 hi
          rw [Nat.zero_add] at e
          rw [← e]
          exact ⟨_, by simp only [go_sem, simprocAttr, lo_kid, kb i _ (List.getElem?_eq_getElem hi), k_cells]; rfl⟩
        · rw [kvN_from] at hq
          obtain ⟨j, hj, rfl⟩ := Option.map_eq_some_iff.1 hq
          rw [Nat.zero_add]
          obtain ⟨kp, hkp, hnm⟩ := pos_at hj
          have hjl := (List.getElem?_eq_some_iff.1 hkp).1
          have hj60 : j < 100 := by have := tab_len (h := h) k; omega
          (refine rO ?_; repeat' ((with_reducible first | refine rG ?_ | (refine rS ?_ ?_ <;> intro hp) | (refine rB ?_ ?_ <;> intro hb <;> try rw [hb]) | refine rD ?_) <;> try simp only [go_sem, simprocAttr, PG, r0, r6, r7, r23, r24, r25, hx, hw, Ev.enc_eq]))
          refine sem_ptr_nil (b := false) (.inl ⟨rfl, rfl⟩) Tryd.underlying63 (.inr ⟨kid j, 0, by simp only [go_sem, simprocAttr], rfl⟩) ?_
          (refine rO ?_; repeat' ((with_reducible first | refine rG ?_ | (refine rS ?_ ?_ <;> intro hp) | (refine rB ?_ ?_ <;> intro hb <;> try rw [hb]) | refine rD ?_) <;> try simp only [go_sem, simprocAttr, PG, nn_ff, r0, r6, r7, r23, r24, r25, hx, hw, Ev.enc_eq]))
          refine call_inl (take_inl (o := kid j) (q := rid j) (i := k) (e := h[k]) (kp := kp) (kid_lt hj60) (rid_lt hj60) (kid_rid hj60) (rid_kid hj60) ?_ (fun hn => ?_) ?_ (fun σ2 hR hB hW hO => ?_))
          · simp only [go_sem, simprocAttr, lo_kid, kb j kp hkp, k_cells]
          · simp only [go_sem, simprocAttr, lo_rid, kr j kp hkp hn, k_log]
          · have := tab_ops k kp (List.mem_of_getElem? hkp); omega
          · have e0 := hR 0 (by simp only [go_sem, simprocAttr, r0]; exact fineR_a)
            have e6 := hR 6 (by simp only [go_sem, simprocAttr, r6]; exact fineR_omp (lo_rid rfl))
            have e7 := hR 7 (by simp only [go_sem, simprocAttr, r7]; exact fineR_own (lo_rid rfl))
            have e23 := hR 23 (by simp only [go_sem, simprocAttr, r23]; exact fineR_a)
            have e24 := hR 24 (by simp only [go_sem, simprocAttr, r24]; exact fineR_a)
            have e25 := hR 25 (by simp only [go_sem, simprocAttr, r25]; exact fineR_a)
            simp only [go_sem, simprocAttr, r0] at e0
            simp only [go_sem, simprocAttr, r6] at e6
            simp only [go_sem, simprocAttr, r7] at e7
            simp only [go_sem, simprocAttr, r23] at e23
            simp only [go_sem, simprocAttr, r24] at e24
            simp only [go_sem, simprocAttr, r25] at e25
            have f22 := hO 22 (.sem (rmp (kvFrom (tabAt h k) 0))) (lo_kid rfl) (lo_rid rfl) rfl (by simp only [go_sem, simprocAttr, m22, k_rmp]) (fineO_sem (by
              show _ ∉ (kvFrom (tabAt h k) 0).map (·.2)
              rw [kvFrom_ids]
              simp only [List.mem_map, List.mem_range, not_exists, not_and]
              intro i hi e
              have := kid_eq (0 + i); have := rid_eq j; have := tab_len (h := h) k; omega))
            have f7 := hO 7 (.sem (rrow 63 (kidsN (tabAt h k).length))) (lo_kid rfl) (lo_rid rfl) rfl (by simp only [go_sem, simprocAttr, m7, k_rrow]) (fineO_sem (by
              show _ ∉ kidsN _
              rw [kidsN_mem]
              rintro ⟨i, hi, e⟩
              have := kid_eq i; have := rid_eq j; have := tab_len (h := h) k; omega))
            have fk : ∀ j' kp', j' ≠ j → (tabAt h k)[j']? = some kp' → σ2.mem (kid j') = some (.box (kp'.cells (rid j'))) := fun j' kp' hne hk' => by
              have hj' := (List.getElem?_eq_some_iff.1 hk').1
              have hj'60 : j' < 100 := by have := tab_len (h := h) k; omega
              exact hO (kid j') _ (kid_ne hne) (kid_rid hj'60) (kid_lt hj'60) (by simp only [go_sem, simprocAttr, lo_kid, kb j' kp' hk', k_cells]) (fineO_kp (rid_ne hne))
            have fr : ∀ j' kp', j' ≠ j → (tabAt h k)[j']? = some kp' → kp'.ops ≠ [] → σ2.mem (rid j') = some (.log 80 3 (kp'.ops.map Op.enc)) := fun j' kp' hne hk' hn => by
              have hj' := (List.getElem?_eq_some_iff.1 hk').1
              have hj'60 : j' < 100 := by have := tab_len (h := h) k; omega
              exact hO (rid j') _ (rid_kid hj60) (rid_ne hne) (rid_lt hj'60) (by simp only [go_sem, simprocAttr, lo_rid, kr j' kp' hk' hn, k_log]) fineO_log
            have hset := tab_set hx hj hkp
            (refine rO ?_; repeat' ((with_reducible first | refine rG ?_ | (refine rS ?_ ?_ <;> intro hp) | (refine rB ?_ ?_ <;> intro hb <;> try rw [hb]) | refine rD ?_) <;> try simp only [go_sem, simprocAttr, PG, one, e0, e6, e7, e23, e24, e25, hx, hw, Ev.enc_eq]))
            refine tab_next h60 hk ⟨by omega, ?_, ?_, ?_, ?_, ?_, ?_, ?_, ?_, fun j' kp' hk' => ?_, fun j' kp' hk' hn => ?_⟩
            iterate 6 (· simp only [go_sem, simprocAttr, e0, e6, e7, e23, e24, e25, hw])
            · simp only [go_sem, simprocAttr, f22]
              rw [hset, kvFrom_set fun kp2 h2 => by rw [hkp] at h2; cases h2; exact takeK_name]
            · simp only [go_sem, simprocAttr, f7]
              rw [hset, List.length_set]
            · rw [hset] at hk'
              by_cases hjj : j' = j
              · subst hjj
                rw [List.getElem?_set_self hjl] at hk'
                cases hk'
                simp only [go_sem, simprocAttr, hB]
              · rw [List.getElem?_set_ne (Ne.symm hjj)] at hk'
                simp only [go_sem, simprocAttr, fk j' kp' hjj hk']
            · rw [hset] at hk'
              by_cases hjj : j' = j
              · subst hjj
                rw [List.getElem?_set_self hjl] at hk'
                cases hk'
                simp only [go_sem, simprocAttr, hW hn]
              · rw [List.getElem?_set_ne (Ne.symm hjj)] at hk'
                simp only [go_sem, simprocAttr, fr j' kp' hjj hk' hn]
        · have hpn : pos (tabAt h k) h[k].tx = none := by
            rw [kvN_from] at hq
            cases hp9 : pos (tabAt h k) h[k].tx with
            | none => rfl
            | some j => rw [hp9] at hq; cases hq
          (refine rO ?_; repeat' ((with_reducible first | refine rG ?_ | (refine rS ?_ ?_ <;> intro hp) | (refine rB ?_ ?_ <;> intro hb <;> try rw [hb]) | refine rD ?_) <;> try simp only [go_sem, simprocAttr, PG, nn_tf, r0, r6, r7, r23, r24, r25, hx, hw, Ev.enc_eq]))
          refine sem_ptr_nil (b := true) (.inl ⟨rfl, rfl⟩) Tryd.underlying63 (.inl ⟨by simp only [go_sem, simprocAttr], rfl⟩) ?_
          (refine rO ?_; repeat' ((with_reducible first | refine rG ?_ | (refine rS ?_ ?_ <;> intro hp) | (refine rB ?_ ?_ <;> intro hb <;> try rw [hb]) | refine rD ?_) <;> try simp only [go_sem, simprocAttr, PG, nn_tf, r0, r6, r7, r23, r24, r25, hx, hw, Ev.enc_eq]))
          refine sem_build (ti := ⟨5, 56, true, [.int .i64 0, .int .i64 0, .int .i64 0, .int .i64 0, .slice none 0 0]⟩) (offs := [(0, 1, false), (1, 1, false), (2, 1, false), (3, 1, false), (4, 1, false)]) (l := [(0, .tmp 37), (1, .tmp 38)]) (ps := [(0, [.a (I h[k].tx)]), (1, [.a (I k)])]) (rs := [.a (I h[k].tx), .a (I k), .a (I 0), .a (I 0), .cs []]) (by kernel_rfl) (by kernel_rfl) rfl rfl (by simp only [partsR, go_sem, simprocAttr]) rfl ?_
          (refine rO ?_; repeat' ((with_reducible first | refine rG ?_ | (refine rS ?_ ?_ <;> intro hp) | (refine rB ?_ ?_ <;> intro hb <;> try rw [hb]) | refine rD ?_) <;> try simp only [go_sem, simprocAttr, PG, nn_tf, r0, r6, r7, r23, r24, r25, hx, hw, Ev.enc_eq]))
          refine sem_build (ti := ⟨9, 88, true, [.int .i64 0, .int .i64 0, .int .i64 0, .int .i64 0, .slice none 0 0, .int .i64 0, .int .i64 0, .int .i64 0, .int .i64 0]⟩) (offs := [(0, 5, true), (5, 4, true)]) (l := [(0, .tmp 39)]) (ps := [(0, [.a (I h[k].tx), .a (I k), .a (I 0), .a (I 0), .cs []])]) (rs := [.a (I h[k].tx), .a (I k), .a (I 0), .a (I 0), .cs [], .a (I 0), .a (I 0), .a (I 0), .a (I 0)]) (by kernel_rfl) (by kernel_rfl) rfl rfl (by simp only [partsR, go_sem, simprocAttr]) rfl ?_
          (refine rO ?_; repeat' ((with_reducible first | refine rG ?_ | (refine rS ?_ ?_ <;> intro hp) | (refine rB ?_ ?_ <;> intro hb <;> try rw [hb]) | refine rD ?_ | refine draw_F Ftb (by decide +kernel) ?_) <;> try simp only [go_sem, simprocAttr, PG, Ftb, nn_tf, r0, r6, r7, r23, r24, r25, hx, hw, Ev.enc_eq]))
          refine sem_bs1 (ti := ⟨1, 8, false, [.pointer none]⟩) (e := 63) (q := 41) Tryd.underlying62 (by kernel_rfl) rfl rfl (by simp only [go_sem, simprocAttr]) (by decide) ?_
          (refine rO ?_; repeat' ((with_reducible first | refine rG ?_ | (refine rS ?_ ?_ <;> intro hp) | (refine rB ?_ ?_ <;> intro hb <;> try rw [hb]) | refine rD ?_) <;> try simp only [go_sem, simprocAttr, PG, Ftb, nn_tf, r0, r6, r7, r23, r24, r25, hx, hw, Ev.enc_eq]))
          have hn7 : 7 ∉ kidsN (tabAt h k).length := by
            rw [kidsN_mem]
            rintro ⟨i, _, e⟩
            have := kid_eq i; omega
          have htl := tab_len (h := h) k
          refine sem_app (ti := ⟨1, 8, false, [.pointer none]⟩) (e := 63) (o := 7) (o2 := 48) (ids := kidsN (tabAt h k).length) (ids2 := [41]) (by kernel_rfl) (by kernel_rfl) rfl rfl (by decide) (by simp only [go_sem, simprocAttr, r7]) (by simp only [go_sem, simprocAttr]) (by simp only [go_sem, simprocAttr, m7, k_rrow]) (by simp only [go_sem, simprocAttr]) hn7 (by decide) (by decide) (by simp [kidsN]; omega) ?_
          (refine rO ?_; repeat' ((with_reducible first | refine rG ?_ | (refine rS ?_ ?_ <;> intro hp) | (refine rB ?_ ?_ <;> intro hb <;> try rw [hb]) | refine rD ?_) <;> try simp only [go_sem, simprocAttr, PG, Ftb, nn_tf, r0, r6, r7, r23, r24, r25, hx, hw, Ev.enc_eq]))
          refine sem_upd (kt := 3) (e := 63) (o := 22) (q := 41) (kv := kvFrom (tabAt h k) 0) (n := h[k].tx) Tryd.underlying61 Tryd.underlying3 (by simp only [go_sem, simprocAttr, r6]) (by simp only [go_sem, simprocAttr, m22, k_rmp]) (by simp only [go_sem, simprocAttr]) (by simp only [go_sem, simprocAttr]) (by simp only [go_sem, simprocAttr]; rfl) hq ?_
          (refine rO ?_; repeat' ((with_reducible first | refine rG ?_ | (refine rS ?_ ?_ <;> intro hp) | (refine rB ?_ ?_ <;> intro hb <;> try rw [hb]) | refine rD ?_) <;> try simp only [go_sem, simprocAttr, PG, Ftb, nn_tf, r0, r6, r7, r23, r24, r25, hx, hw, Ev.enc_eq]))
          have hn100 : (tabAt h k).length < 100 := by omega
          refine call_inl (take_inl (o := 41) (q := rid (tabAt h k).length) (i := k) (e := h[k]) (kp := ⟨h[k].tx, k, 0, 0, [], ⟨0, 0, 0, 0⟩⟩) rfl (rid_lt hn100) (lo_rid rfl) (rid_lo rfl) ?_ (fun hn => absurd rfl hn) (Nat.zero_le _) (fun σ2 hR hB hW hO => ?_))
          · simp only [go_sem, simprocAttr]; rfl
          · have e0 := hR 0 (by simp only [go_sem, simprocAttr, r0]; exact fineR_a)
            have e6 := hR 6 (by simp only [go_sem, simprocAttr, r6]; exact fineR_omp (lo_rid rfl))
            have e7 := hR 7 (by simp only [go_sem, simprocAttr, r7]; exact fineR_own (lo_rid rfl))
            have e23 := hR 23 (by simp only [go_sem, simprocAttr, r23]; exact fineR_a)
            have e24 := hR 24 (by simp only [go_sem, simprocAttr, r24]; exact fineR_a)
            have e25 := hR 25 (by simp only [go_sem, simprocAttr, r25]; exact fineR_a)
            simp only [go_sem, simprocAttr, r0] at e0
            simp only [go_sem, simprocAttr, r6] at e6
            simp only [go_sem, simprocAttr, r7] at e7
            simp only [go_sem, simprocAttr, r23] at e23
            simp only [go_sem, simprocAttr, r24] at e24
            simp only [go_sem, simprocAttr, r25] at e25
            have f22 := hO 22 (.sem (rmp (kvFrom (tabAt h k) 0 ++ [(h[k].tx, 41)]))) rfl (lo_rid rfl) rfl (by simp only [go_sem, simprocAttr]) (fineO_sem (by
              show _ ∉ (kvFrom (tabAt h k) 0 ++ [(h[k].tx, 41)]).map fun p : Int × Nat => p.2
              rw [List.map_append, kvFrom_ids]
              simp only [List.mem_append, List.mem_map, List.mem_range, not_or, not_exists, not_and, List.map_cons, List.map_nil, List.mem_singleton]
              exact ⟨fun i hi e => by have := kid_eq (0 + i); have := rid_eq (tabAt h k).length; omega, by have := rid_eq (tabAt h k).length; omega⟩))
            have f7 := hO 7 (.sem (rrow 63 (kidsN (tabAt h k).length ++ [41]))) rfl (lo_rid rfl) rfl (by simp only [go_sem, simprocAttr]) (fineO_sem (by
              show _ ∉ kidsN _ ++ [41]
              simp only [List.mem_append, kidsN_mem, not_or, not_exists, not_and, List.mem_singleton]
              exact ⟨fun i hi e => by have := kid_eq i; have := rid_eq (tabAt h k).length; omega, by have := rid_eq (tabAt h k).length; omega⟩))
            have fk : ∀ j' kp', (tabAt h k)[j']? = some kp' → σ2.mem (kid j') = some (.box (kp'.cells (rid j'))) := fun j' kp' hk' => by
              have hj' := (List.getElem?_eq_some_iff.1 hk').1
              have hj'60 : j' < 100 := by omega
              exact hO (kid j') _ (kid_lo rfl) (kid_rid hj'60) (kid_lt hj'60) (by simp only [go_sem, simprocAttr, lo_kid, kb j' kp' hk', k_cells]) (fineO_kp (rid_ne (by omega)))
            have fr : ∀ j' kp', (tabAt h k)[j']? = some kp' → kp'.ops ≠ [] → σ2.mem (rid j') = some (.log 80 3 (kp'.ops.map Op.enc)) := fun j' kp' hk' hn => by
              have hj' := (List.getElem?_eq_some_iff.1 hk').1
              have hj'60 : j' < 100 := by omega
              exact hO (rid j') _ (rid_lo rfl) (rid_ne (by omega)) (rid_lt hj'60) (by simp only [go_sem, simprocAttr, lo_rid, kr j' kp' hk' hn, k_log]) fineO_log
            have happ := tab_app hx hpn
            (refine rO ?_; repeat' ((with_reducible first | refine rG ?_ | (refine rS ?_ ?_ <;> intro hp) | (refine rB ?_ ?_ <;> intro hb <;> try rw [hb]) | refine rD ?_) <;> try simp only [go_sem, simprocAttr, PG, one, e0, e6, e7, e23, e24, e25, hx, hw, Ev.enc_eq]))
            refine tab_next' h60 hk (g_mv (a := 41) (b := kid (tabAt h k).length) (by decide) (by have := kid_eq (tabAt h k).length; omega)) ⟨by omega, ?_, ?_, ?_, ?_, ?_, ?_, ?_, ?_, fun j' kp' hk' => ?_, fun j' kp' hk' hn => ?_⟩
            iterate 6 (· simp only [go_sem, simprocAttr, PM, e0, lo_kid, e6, e7, e23, e24, e25, hw])
            · rw [happ, kvFrom_app, Nat.zero_add]
              simp only [go_sem, simprocAttr, mv_mo, lo_kid, f22, mv_rmp, newKp, takeK_name]
            · rw [happ, List.length_append, List.length_singleton, kidsN_succ]
              simp only [go_sem, simprocAttr, mv_mo, lo_kid, f7, mv_rrow]
            · rw [happ] at hk'
              rcases Nat.lt_or_ge j' (tabAt h k).length with hlt | hge
              · rw [List.getElem?_append_left hlt] at hk'
                have h1 : (kid j' == kid (tabAt h k).length) = false := kid_ne (by omega)
                simp only [go_sem, simprocAttr, mv_mo, h1, kid_lo, fk j' kp' hk', mo_box, mv_cells hn100]
              · rw [List.getElem?_append_right hge] at hk'
                have hje : j' = (tabAt h k).length := by
                  have := (List.getElem?_eq_some_iff.1 hk').1
                  simp at this; omega
                subst hje
                rw [Nat.sub_self] at hk'
                cases hk'
                simp only [go_sem, simprocAttr, mv_mb, hB, mo_box, mv_cells hn100]
                rfl
            · rw [happ] at hk'
              rcases Nat.lt_or_ge j' (tabAt h k).length with hlt | hge
              · rw [List.getElem?_append_left hlt] at hk'
                have h1 : (rid j' == kid (tabAt h k).length) = false := rid_kid hn100
                simp only [go_sem, simprocAttr, mv_mo, h1, rid_lo, fr j' kp' hk' hn, mo_log]
              · rw [List.getElem?_append_right hge] at hk'
                have hje : j' = (tabAt h k).length := by
                  have := (List.getElem?_eq_some_iff.1 hk').1
                  simp at this; omega
                subst hje
                rw [Nat.sub_self] at hk'
                cases hk'
                have h1 : (rid (tabAt h k).length == kid (tabAt h k).length) = false := rid_kid hn100
                have hW' := hW hn
                simp only [go_sem, simprocAttr, mv_mo, h1, rid_lo, hW', mo_log]
                rfl
      · exact absurd ‹_› (by omega)
    · subst hk
      obtain ⟨r7, r24, r25, m7⟩ := hI
      (refine rO ?_; repeat' ((with_reducible first | refine rG ?_ | (refine rS ?_ ?_ <;> intro hp) | (refine rB ?_ ?_ <;> intro hb <;> try rw [hb]) | refine rD ?_) <;> try simp only [go_sem, simprocAttr, PG, r7, r24, r25, m7, List.length_map]))
      · exact absurd ‹_› (by omega)
      · have hlen := tab_len (h := h) h.length
        refine awp_loopG (TabJ h) (fun k => (tabAt h h.length).length - k) 0 ⟨_, Ghost.refl _, Nat.zero_le _, ?_, ?_, ?_, ?_, ?_, ?_⟩ ?_
        iterate 6 (· simp only [go_sem, simprocAttr, m7, k_log])
        intro k σ hJ
        obtain ⟨hk, r55, r56, r57, r11, m7, m11⟩ := hJ
        (refine rO ?_; repeat' ((with_reducible first | refine rG ?_ | (refine rS ?_ ?_ <;> intro hp) | (refine rB ?_ ?_ <;> intro hb <;> try rw [hb]) | refine rD ?_) <;> try simp only [go_sem, simprocAttr, PG, r55, r56, r57, r11, m7, m11, List.length_map]))
        · have hk' : k < (tabAt h h.length).length := by omega
          have hx : (tabAt h h.length)[k]? = some (tabAt h h.length)[k] := List.getElem?_eq_getElem hk'
          have hw := wrap_succ (n := (tabAt h h.length).length) hk' (by simp only [maxLen]; omega)
          refine SemOp.old ?_
          (refine rO ?_; repeat' ((with_reducible first | refine rG ?_ | (refine rS ?_ ?_ <;> intro hp) | (refine rB ?_ ?_ <;> intro hb <;> try rw [hb]) | refine rD ?_) <;> try simp only [go_sem, simprocAttr, PG, y_idx0, r55, r56, r57, r11, m7, m11, List.length_map, hx]))
          refine SemOp.old ?_
          (refine rO ?_; repeat' ((with_reducible first | refine rG ?_ | (refine rS ?_ ?_ <;> intro hp) | (refine rB ?_ ?_ <;> intro hb <;> try rw [hb]) | refine rD ?_) <;> try simp only [go_sem, simprocAttr, PG, y_ld0, Kp.data, r55, r56, r57, r11, m7, m11, List.length_map, hx]))
          refine ⟨by simp; omega, _, k + 1, Ghost.refl _, ⟨by omega, ?_, ?_, ?_, ?_, ?_, ?_⟩, by omega⟩
          iterate 5 (· simp only [go_sem, simprocAttr, r55, r56, r57, hw, m7, k_log])
          · simp only [go_sem, simprocAttr, m11, k_log]
            rw [List.take_succ_eq_append_getElem hk', List.map_append]
            rfl
        · have hke : k = (tabAt h h.length).length := by omega
          refine ⟨?_, (‹checkE h = 0›).symm⟩
          rw [hke, List.take_length, tabD, if_pos ‹checkE h = 0›]
          rfl
  · unfold tabD; rw [if_neg ‹_›]
end Go.VC
end
section
set_option maxRecDepth 100000
set_option linter.unusedSimpArgs false
set_option linter.unusedVariables false
namespace Go.VC
open Go.RowKit Go.Proofs Go.IntWalk
theorem tkE : tk Tryd.prog 22 = .slice 52 := by kernel_rfl
theorem t52 (h : List Ev) (hl : h.length ≤ 1000000) : Holds Tryd.prog GL 22 [evsA h] [.fresh 52 4 (h.map Ev.enc)] := by
  refine fn_holds (vs := [.tmp 2]) (by kernel_rfl) Tryd.func22 rfl rfl (by kernel_rfl) (by kernel_rfl) rfl ?_
  have h0 : (0 + (h.map Ev.enc).length) * 32 ≤ 140737488355328 := by simp; omega
  (refine rO ?_; repeat' ((with_reducible first | refine rG ?_ | (refine rS ?_ ?_ <;> intro hp) | (refine rB ?_ ?_ <;> intro hb <;> try rw [hb]) | refine rD ?_) <;> try simp only [go_sem, simprocAttr]))
  refine sem_nil (.inl ⟨rfl, rfl⟩) tkE (xs := h.map Ev.enc) (by simp only [go_sem, simprocAttr]; rfl) (fun hne => ?_) (fun he b => ?_)
  · (refine rO ?_; repeat' ((with_reducible first | refine rG ?_ | (refine rS ?_ ?_ <;> intro hp) | (refine rB ?_ ?_ <;> intro hb <;> try rw [hb]) | refine rD ?_) <;> try simp only [go_sem, simprocAttr, h0]))
  · cases b
    · (refine rO ?_; repeat' ((with_reducible first | refine rG ?_ | (refine rS ?_ ?_ <;> intro hp) | (refine rB ?_ ?_ <;> intro hb <;> try rw [hb]) | refine rD ?_) <;> try simp only [go_sem, simprocAttr, h0]))
    · rw [he]
      (refine rO ?_; repeat' ((with_reducible first | refine rG ?_ | (refine rS ?_ ?_ <;> intro hp) | (refine rB ?_ ?_ <;> intro hb <;> try rw [hb]) | refine rD ?_) <;> try simp only [go_sem, simprocAttr]))
end Go.VC
end
section
set_option maxRecDepth 100000
set_option linter.unusedSimpArgs false
set_option linter.unusedVariables false
namespace Go.VC
open Go.RowKit Go.Proofs Go.IntWalk
def WFl (h : List Ev) : Prop := ∀ pre e suf, h = pre ++ e :: suf → may (lastK pre e.tx) e.kind = true
theorem wf_first (h : List Ev) : WFl h ↔ firstI h = h.length := by
  constructor
  · intro hw
    refine first_none (k := h.length) (Nat.le_refl _) fun i hi => ?_
    have hx : h[i]? = some h[i] := List.getElem?_eq_getElem hi
    simp only [badAt, hx, Bool.not_eq_false']
    exact hw (h.take i) h[i] (h.drop (i + 1)) (by rw [← List.drop_eq_getElem_cons hi, List.take_append_drop])
  · rintro hf pre e suf rfl
    have hb : badAt (pre ++ e :: suf) pre.length = false := by
      unfold firstI at hf
      have hn : (List.range (pre ++ e :: suf).length).find? (badAt (pre ++ e :: suf)) = none := by
        cases hq : (List.range (pre ++ e :: suf).length).find? (badAt (pre ++ e :: suf)) with
        | none => rfl
        | some k =>
          rw [hq] at hf
          have := List.mem_range.1 (List.mem_of_find?_eq_some hq)
          simp only [Option.getD_some] at hf; omega
      have := List.find?_eq_none.1 hn pre.length (List.mem_range.2 (by simp))
      simpa using this
    simpa [badAt] using hb
theorem check_wf {h : List Ev} (hr : rightH h = true) : checkE h = 0 ↔ WFl h := by
  rw [wf_first, run_eq]
  have hle := runF_le h []
  simp only [checkE, hr, if_true]
  constructor
  · intro h1; by_cases hc : (runF h []).1 < h.length
    · simp [hc] at h1
    · omega
  · intro h1; simp [h1]
end Go.VC
end
section
set_option maxRecDepth 100000
set_option linter.unusedSimpArgs false
set_option linter.unusedVariables false
namespace Go.VC
open Go.RowKit Go.Proofs Go.IntWalk
theorem check_arg {h : List Ev} : checkE h = 1 ↔ rightH h = false := by
  cases hr : rightH h with
  | false => simp [checkE, hr]
  | true =>
    simp only [checkE, hr, if_true]
    constructor
    · intro h1; split at h1 <;> simp at h1
    · intro h1; cases h1
theorem cutN (N : Nat) (h : List Ev) : List.take (min (h.length : Int) N).toNat (h.map Ev.enc) = (h.take N).map Ev.enc := by
  have : (min (h.length : Int) N).toNat = min h.length N := by omega
  rw [this, ← List.map_take]
  congr 1
  rcases Nat.le_total h.length N with hl | hl
  · rw [Nat.min_eq_left hl, List.take_of_length_le (Nat.le_refl _), List.take_of_length_le hl]
  · rw [Nat.min_eq_right hl]
end Go.VC
end
section
set_option linter.unusedSimpArgs false
set_option linter.unusedVariables false
namespace Go.VC
open Go.RowKit Go.Proofs Go.IntWalk
theorem check60 {h : List Ev} (h0 : checkE h = 0) : h.length ≤ 60 := by
  rcases Nat.lt_or_ge 60 h.length with h1 | h1
  · exfalso
    have : rightH h = false := by simp [rightH]; omega
    simp [checkE, this] at h0
  · exact h1
def tabOf (h : List Ev) : List Kp := tabAt h h.length
structure KExt (a b : Kp) : Prop where
  name : b.name = a.name
  first : b.first = a.first
  ops : a.ops <+: b.ops
def TExt (ks ks' : List Kp) : Prop := ∀ (j : Nat) a, ks[j]? = some a → ∃ b, ks'[j]? = some b ∧ KExt a b
theorem TExt.refl (ks : List Kp) : TExt ks ks := fun j a h => ⟨a, h, rfl, rfl, List.prefix_refl _⟩
theorem TExt.trans {a b c : List Kp} (h : TExt a b) (k : TExt b c) : TExt a c := fun j x hx => by
  obtain ⟨y, hy, n1, f1, o1⟩ := h j x hx
  obtain ⟨z, hz, n2, f2, o2⟩ := k j y hy
  exact ⟨z, hz, n2.trans n1, f2.trans f1, o1.trans o2⟩
theorem TExt.len {a b : List Kp} (h : TExt a b) : a.length ≤ b.length := by
  rcases Nat.lt_or_ge b.length a.length with hl | hl
  · obtain ⟨y, hy, _⟩ := h b.length a[b.length] (List.getElem?_eq_getElem hl)
    simp at hy
  · exact hl
end Go.VC
end
section
set_option maxRecDepth 100000
set_option linter.unusedSimpArgs false
set_option linter.unusedVariables false
namespace Go.VC
open Go.RowKit Go.Proofs Go.IntWalk
structure Txn where
  name : Int
  first : Int
  last : Int
  st : Int
  ops : List Op
def Txn.enc (t : Txn) : List D := [dI t.name, dI t.first, dI t.last, dI t.st, .sl (t.ops.map Op.enc)]
theorem Txn.enc_eq (t : Txn) : t.enc = [dI t.name, dI t.first, dI t.last, dI t.st, .sl (t.ops.map Op.enc)] := rfl
abbrev Txn.a (t : Txn) : A := .ag [dI t.name, dI t.first, dI t.last, dI t.st, .sl (t.ops.map Op.enc)]
abbrev txnsA (l : List Txn) : A := .d (.sl (l.map Txn.enc))
abbrev opsA' (l : List Op) : A := .d (.sl (l.map Op.enc))
def Kp.txn (k : Kp) : Txn := ⟨k.name, k.first, k.last, k.st, k.ops⟩
/-- Lists that a program may hold. -/
def FitT (l : List Txn) : Prop := l.length ≤ 1000000 ∧ ∀ t ∈ l, t.ops.length ≤ 1000000
theorem FitT.at {l : List Txn} (h : FitT l) {k : Nat} (hk : k < l.length) : l[k].ops.length ≤ 1000000 := h.2 _ (List.getElem_mem hk)
def stateOf (k : Int) : Int := if k = 7 then 2 else if k = 9 then 3 else if k = 6 then 1 else 0
theorem t65 (k : Int) : Holds Tryd.prog GL 27 [I k] [.a (I (stateOf k))] := by
  refine fn_holds (vs := [.tmp 2]) (by kernel_rfl) Tryd.func27 rfl rfl (by kernel_rfl) (by kernel_rfl) rfl ?_
  (refine rO ?_; repeat' ((with_reducible first | refine rG ?_ | (refine rS ?_ ?_ <;> intro hp) | (refine rB ?_ ?_ <;> intro hb <;> try rw [hb]) | refine rD ?_ | refine rA ?_ | fail) <;> try simp only [go_sem, simprocAttr]))
  all_goals simp [stateOf, *]
theorem c65 {k : Int} {dst : Option Tmp} {σ : S} {K : S → Prop} (hK : S.ret σ dst [.a (I (stateOf k))] K) : callV Tryd.prog GL 27 [.a (I k)] dst σ K :=
  call_dat (t65 k) hK
def lastEv (h : List Ev) (tx : Int) : Ev := h.foldl (fun out e => if e.tx = tx then e else out) ⟨0, 0, 0, 0⟩
theorem lastEv_s {h : List Ev} {k : Nat} {tx : Int} (hk : k < h.length) : lastEv (h.take (k + 1)) tx = if h[k].tx = tx then h[k] else lastEv (h.take k) tx := by
  rw [List.take_succ_eq_append_getElem hk, lastEv, List.foldl_append]; rfl
abbrev evB (e : Ev) : Ob := .box [.a (I e.kind), .a (I e.tx), .a (I e.var), .a (I e.val)]
theorem t95 (h : List Ev) (i : Nat) (tx : Int) (hi : i ≤ h.length) (hl : h.length ≤ 1000000) : Holds Tryd.prog GL 44 [evsA h, I i, I tx] [.a (lastEv (h.take i) tx).a] := by
  refine fn_holds (vs := [.cell 6 52]) (by kernel_rfl) Tryd.func44 rfl rfl (by kernel_rfl) (by kernel_rfl) rfl ?_
  have hi1 : (i : Int) ≤ (h.length : Int) := by omega
  have htk : List.take i (h.map Ev.enc) = (h.take i).map Ev.enc := by rw [List.map_take]
  have hgl : (h.take i).length ≤ 1000000 := by simp; omega
  generalize h.take i = g at htk hgl
  (refine rO ?_; repeat' ((with_reducible first | refine rG ?_ | (refine rS ?_ ?_ <;> intro hp) | (refine rB ?_ ?_ <;> intro hb <;> try rw [hb]) | refine rD ?_ | refine rA ?_ | fail) <;> try simp only [go_sem, simprocAttr, hi1, htk, evs_lenT, Int.toNat_zero, List.length_map]))
  refine awp_loopA (fun k : Nat => [(2, .a (I tx)), (6, .ref 6 0), (7, .ref 7 0), (13, .a (evsA g)), (14, .a (I g.length)), (15, .a (I k))]) (fun k => [(6, evB ⟨0, 0, 0, 0⟩), (7, evB (lastEv (g.take k) tx))]) (fun k => k ≤ g.length) (g.length - ·) 0 ?_ ?_ (Nat.zero_le _) ?_
  · simp only [go_sem, simprocAttr, htk]
  · simp only [go_sem, simprocAttr]; try rfl
  intro k j hk
  (refine rO ?_; repeat' ((with_reducible first | refine rG ?_ | (refine rS ?_ ?_ <;> intro hp) | (refine rB ?_ ?_ <;> intro hb <;> try rw [hb]) | refine rD ?_ | refine rA ?_ | fail) <;> try simp only [go_sem, simprocAttr, evB]))
  · have hkl : k < g.length := by omega
    have hx : g[k]? = some g[k] := List.getElem?_eq_getElem hkl
    have hw := wrap_succ (n := g.length) hkl (by simp only [maxLen]; omega)
    have hs := lastEv_s (tx := tx) hkl
    generalize g[k] = e at hx hs
    (refine rO ?_; repeat' ((with_reducible first | refine rG ?_ | (refine rS ?_ ?_ <;> intro hp) | (refine rB ?_ ?_ <;> intro hb <;> try rw [hb]) | refine rD ?_ | refine rA ?_ | fail) <;> try simp only [go_sem, simprocAttr, hx, evB, Ev.enc_eq, hw]))
    · rw [if_pos ‹_›] at hs
      exact ⟨k + 1, by simp only [go_sem, simprocAttr], by simp only [go_sem, simprocAttr, evB, hs], hkl, by dsimp only; omega⟩
    · rw [if_neg ‹_›] at hs
      exact ⟨k + 1, by simp only [go_sem, simprocAttr], by simp only [go_sem, simprocAttr, evB, hs], hkl, by dsimp only; omega⟩
  · rw [List.take_of_length_le (by omega)]
def opsTo (h : List Ev) (tx : Int) : Nat → List Op
  | 0 => []
  | k + 1 => opsTo h tx k ++ match h[k]? with
    | some e => if e.tx = tx then (if e.kind = 3 then [⟨false, (lastEv (h.take k) tx).var, e.val⟩] else []) ++ (if e.kind = 5 then [⟨true, (lastEv (h.take k) tx).var, (lastEv (h.take k) tx).val⟩] else []) else []
    | none => []
theorem opsTo_le (h : List Ev) (tx : Int) : ∀ k, (opsTo h tx k).length ≤ k
  | 0 => Nat.le_refl _
  | k + 1 => by
    have := opsTo_le h tx k
    simp only [opsTo, List.length_append]
    split
    · rename_i e _
      by_cases h1 : e.tx = tx
      · by_cases h3 : e.kind = 3
        · simp [h1, h3]; omega
        · by_cases h5 : e.kind = 5 <;> simp [h1, h3, h5] <;> omega
      · simp [h1]; omega
    · simp; omega
theorem t67 (h : List Ev) (tx : Int) (hl : h.length ≤ 1000000) : Holds Tryd.prog GL 29 [evsA h, I tx] [.a (opsA' (opsTo h tx h.length))] := by
  refine fn_holds (vs := [.tmp 4]) (by kernel_rfl) Tryd.func29 rfl rfl (by kernel_rfl) (by kernel_rfl) rfl ?_
  (refine rO ?_; repeat' ((with_reducible first | refine rG ?_ | (refine rS ?_ ?_ <;> intro hp) | (refine rB ?_ ?_ <;> intro hb <;> try rw [hb]) | refine rD ?_ | refine rA ?_ | fail) <;> try simp only [go_sem, simprocAttr, List.length_map]))
  refine awp_loopA (fun k : Nat => [(0, .a (evsA h)), (1, .a (I tx)), (5, .own 9), (10, .a (evsA h)), (11, .a (I h.length)), (12, .a (I k))]) (fun k => [(9, .log 80 3 ((opsTo h tx k).map Op.enc))]) (fun k => k ≤ h.length) (h.length - ·) 0 ?_ ?_ (Nat.zero_le _) ?_
  · simp only [go_sem, simprocAttr]
  · simp only [go_sem, simprocAttr]; try rfl
  intro k j hk
  (refine rO ?_; repeat' ((with_reducible first | refine rG ?_ | (refine rS ?_ ?_ <;> intro hp) | (refine rB ?_ ?_ <;> intro hb <;> try rw [hb]) | refine rD ?_ | refine rA ?_ | fail) <;> try simp only [go_sem, simprocAttr]))
  · have hkl : k < h.length := by omega
    have hx : h[k]? = some h[k] := List.getElem?_eq_getElem hkl
    have hw := wrap_succ (n := h.length) hkl (by simp only [maxLen]; omega)
    have hole := opsTo_le h tx k
    have hs : opsTo h tx (k + 1) = opsTo h tx k ++ (if h[k].tx = tx then (if h[k].kind = 3 then [⟨false, (lastEv (h.take k) tx).var, h[k].val⟩] else []) ++ (if h[k].kind = 5 then [⟨true, (lastEv (h.take k) tx).var, (lastEv (h.take k) tx).val⟩] else []) else []) := by
      simp only [opsTo, hx]
    generalize h[k] = e at hx hs
    (refine rO ?_; repeat' ((with_reducible first | refine rG ?_ | (refine rS ?_ ?_ <;> intro hp) | (refine rB ?_ ?_ <;> intro hb <;> try rw [hb]) | refine rD ?_ | refine rA ?_ | fail) <;> try simp only [go_sem, simprocAttr, hx, evB, Ev.enc_eq, hw]))
    · refine call_dat (t95 h k tx (by omega) hl) ?_
      generalize lastEv (h.take k) tx = q at hs
      (refine rO ?_; repeat' ((with_reducible first | refine rG ?_ | (refine rS ?_ ?_ <;> intro hp) | (refine rB ?_ ?_ <;> intro hb <;> try rw [hb]) | refine rD ?_ | refine rA ?_ | fail) <;> try simp only [go_sem, simprocAttr, hx, evB, Ev.enc_eq, hw]))
      all_goals simp only [*, if_true, if_false, reduceIte, List.append_nil, List.nil_append, Int.reduceEq] at hs
      all_goals first | omega | (refine ⟨k + 1, ?_, ?_, hkl, by dsimp only; omega⟩ <;> simp only [go_sem, simprocAttr, hs, List.map_append, Op.enc_eq])
    · rw [if_neg ‹_›, List.append_nil] at hs
      (refine ⟨k + 1, ?_, ?_, hkl, by dsimp only; omega⟩ <;> simp only [go_sem, simprocAttr, hs])
  · rw [show k = h.length by omega]
/-- First and last place of a name. -/
def flTo (h : List Ev) (n : Int) : Nat → Int × Int
  | 0 => (-1, 0)
  | k + 1 => match h[k]? with
    | some e => if e.tx = n then (if (flTo h n k).1 < 0 then (k : Int) else (flTo h n k).1, (k : Int)) else flTo h n k
    | none => flTo h n k
def refTxn (h : List Ev) (n : Int) : Txn := ⟨n, (flTo h n h.length).1, (flTo h n h.length).2, stateOf (lastK h n), opsTo h n h.length⟩
def refTab (h : List Ev) : List Txn := (namesE h).map (refTxn h)
/-- The place, the row so far: a table's row. -/
theorem t32 (h : List Ev) (hl : h.length ≤ 60) : Holds Tryd.prog GL 10 [evsA h] [.a (txnsA (refTab h))] := by
  refine fn_holds (vs := [.tmp 2]) (by kernel_rfl) Tryd.func10 rfl rfl (by kernel_rfl) (by kernel_rfl) rfl ?_
  have hnl := names_le h
  (refine rO ?_; repeat' ((with_reducible first | refine rG ?_ | (refine rS ?_ ?_ <;> intro hp) | (refine rB ?_ ?_ <;> intro hb <;> try rw [hb]) | refine rD ?_ | refine rA ?_ | fail) <;> try simp only [go_sem, simprocAttr, List.length_map]))
  refine call_dat (t64 h hl) ?_
  (refine rO ?_; repeat' ((with_reducible first | refine rG ?_ | (refine rS ?_ ?_ <;> intro hp) | (refine rB ?_ ?_ <;> intro hb <;> try rw [hb]) | refine rD ?_ | refine rA ?_ | fail) <;> try simp only [go_sem, simprocAttr, List.length_map]))
  refine awp_loopA (fun k : Nat => [(0, .a (evsA h)), (3, .own 9), (11, .a (intsA (namesE h))), (12, .a (I (namesE h).length)), (13, .a (I k))]) (fun k => [(9, .log 44 5 (((namesE h).take k).map fun n => (refTxn h n).enc))]) (fun k => k ≤ (namesE h).length) ((namesE h).length - ·) 0 ?_ ?_ (Nat.zero_le _) ?_
  · simp only [go_sem, simprocAttr]
  · simp only [go_sem, simprocAttr]
  intro k j hk
  (refine rO ?_; repeat' ((with_reducible first | refine rG ?_ | (refine rS ?_ ?_ <;> intro hp) | (refine rB ?_ ?_ <;> intro hb <;> try rw [hb]) | refine rD ?_ | refine rA ?_ | fail) <;> try simp only [go_sem, simprocAttr]))
  · have hkl : k < (namesE h).length := by omega
    have hx : (namesE h)[k]? = some (namesE h)[k] := List.getElem?_eq_getElem hkl
    have hw := wrap_succ (n := (namesE h).length) hkl (by simp only [maxLen]; omega)
    have hts : (namesE h).take (k + 1) = (namesE h).take k ++ [(namesE h)[k]] := List.take_succ_eq_append_getElem hkl
    generalize (namesE h)[k] = n at hx hts
    (refine rO ?_; repeat' ((with_reducible first | refine rG ?_ | (refine rS ?_ ?_ <;> intro hp) | (refine rB ?_ ?_ <;> intro hb <;> try rw [hb]) | refine rD ?_ | apply c66 | apply c65 | refine rA ?_ | fail) <;> try simp only [go_sem, simprocAttr, hx, ienc_eq, hw]))
    refine call_dat (t67 h n (by omega)) ?_
    (refine rO ?_; repeat' ((with_reducible first | refine rG ?_ | (refine rS ?_ ?_ <;> intro hp) | (refine rB ?_ ?_ <;> intro hb <;> try rw [hb]) | refine rD ?_ | refine rA ?_ | fail) <;> try simp only [go_sem, simprocAttr, hx, ienc_eq, hw]))
    refine SemOp.old ?_
    (refine rO ?_; repeat' ((with_reducible first | refine rG ?_ | (refine rS ?_ ?_ <;> intro hp) | (refine rB ?_ ?_ <;> intro hb <;> try rw [hb]) | refine rD ?_ | refine rA ?_ | fail) <;> try simp only [go_sem, simprocAttr, y_build0]))
    refine awp_loopA (fun i : Nat => [(0, .a (evsA h)), (3, .own 9), (5, .a (I n)), (6, .ref 6 0), (11, .a (intsA (namesE h))), (12, .a (I (namesE h).length)), (13, .a (I k)), (26, .a (evsA h)), (27, .a (I h.length)), (28, .a (I i))])
      (fun i => [(9, .log 44 5 (((namesE h).take k).map fun n => (refTxn h n).enc)), (6, .box [.a (I n), .a (I (flTo h n i).1), .a (I (flTo h n i).2), .a (I (stateOf (lastK h n))), .a (opsA' (opsTo h n h.length))])]) (fun i => i ≤ h.length) (h.length - ·) 0 ?_ ?_ (Nat.zero_le _) ?_
    · simp only [go_sem, simprocAttr, List.length_map]
    · simp only [go_sem, simprocAttr]; try rfl
    intro i j hi
    (refine rO ?_; repeat' ((with_reducible first | refine rG ?_ | (refine rS ?_ ?_ <;> intro hp) | (refine rB ?_ ?_ <;> intro hb <;> try rw [hb]) | refine rD ?_ | refine rA ?_ | fail) <;> try simp only [go_sem, simprocAttr]))
    · have hil : i < h.length := by omega
      have hy : h[i]? = some h[i] := List.getElem?_eq_getElem hil
      have hwi := wrap_succ (n := h.length) hil (by simp only [maxLen]; omega)
      have hs : flTo h n (i + 1) = if h[i].tx = n then (if (flTo h n i).1 < 0 then (i : Int) else (flTo h n i).1, (i : Int)) else flTo h n i := by simp only [flTo, hy]
      generalize h[i] = e at hy hs
      (refine rO ?_; repeat' ((with_reducible first | refine rG ?_ | (refine rS ?_ ?_ <;> intro hp) | (refine rB ?_ ?_ <;> intro hb <;> try rw [hb]) | refine rD ?_ | refine rA ?_ | fail) <;> try simp only [go_sem, simprocAttr, hy, Ev.enc_eq, hwi]))
      · rw [if_pos ‹_›, if_pos ‹_›] at hs
        (refine ⟨i + 1, ?_, ?_, hil, by dsimp only; omega⟩ <;> simp only [go_sem, simprocAttr, hs])
      · rw [if_pos ‹_›, if_neg ‹_›] at hs
        (refine ⟨i + 1, ?_, ?_, hil, by dsimp only; omega⟩ <;> simp only [go_sem, simprocAttr, hs])
      · rw [if_neg ‹_›] at hs
        (refine ⟨i + 1, ?_, ?_, hil, by dsimp only; omega⟩ <;> simp only [go_sem, simprocAttr, hs])
    · rw [show i = h.length by omega]
      (refine rO ?_; repeat' ((with_reducible first | refine rG ?_ | (refine rS ?_ ?_ <;> intro hp) | (refine rB ?_ ?_ <;> intro hb <;> try rw [hb]) | refine rD ?_ | refine rA ?_ | fail) <;> try simp only [go_sem, simprocAttr, hw]))
      (refine ⟨k + 1, ?_, ?_, hkl, by dsimp only; omega⟩ <;> simp only [go_sem, simprocAttr, hts, List.map_append, refTxn, Txn.enc_eq])
  · rw [List.take_of_length_le (by omega), refTab, List.map_map]; rfl
end Go.VC
end
section
set_option linter.unusedSimpArgs false
set_option linter.unusedVariables false
namespace Go.VC
open Go.RowKit Go.Proofs Go.IntWalk
/-- Of one name, behind k events: what the program's keeper tells is as the reference's words tell it. -/
structure Told (h : List Ev) (k : Nat) (kp : Kp) : Prop where
  fl : flTo h kp.name k = (kp.first, kp.last)
  st : kp.st = stateOf (lastK (h.take k) kp.name)
  ops : kp.ops = opsTo h kp.name k
  ask : lastK (h.take k) kp.name = 2 ∨ lastK (h.take k) kp.name = 4 → kp.ask = lastEv (h.take k) kp.name
  pos : 0 ≤ kp.first
theorem told_other {h : List Ev} {k : Nat} {kp : Kp} (hk : k < h.length) (hne : h[k].tx ≠ kp.name) (t : Told h k kp) : Told h (k + 1) kp := by
  obtain ⟨a, b, c, d, e⟩ := t
  have hx : h[k]? = some h[k] := List.getElem?_eq_getElem hk
  have hl : lastK (h.take (k + 1)) kp.name = lastK (h.take k) kp.name := by rw [last_s hk, lastStep, if_neg hne]
  refine ⟨?_, ?_, ?_, ?_, e⟩
  · simp only [flTo, hx, if_neg hne]; exact a
  · rw [hl]; exact b
  · simp only [opsTo, hx, if_neg hne, List.append_nil]; exact c
  · rw [hl, lastEv_s hk, if_neg hne]; exact d
theorem may_got {l : Int} (h : may l 3 = true) : l = 2 := by
  unfold may at h; (repeat' split at h) <;> simp_all
theorem may_wrote {l : Int} (h : may l 5 = true) : l = 4 := by
  unfold may at h; (repeat' split at h) <;> simp_all
theorem told_take {h : List Ev} {k : Nat} {kp : Kp} (hk : k < h.length) (he : h[k].tx = kp.name) (hm : may (lastK (h.take k) kp.name) h[k].kind = true) (t : Told h k kp) : Told h (k + 1) (takeK kp k h[k]) := by
  obtain ⟨a, b, c, d, e⟩ := t
  have hx : h[k]? = some h[k] := List.getElem?_eq_getElem hk
  have hn := @takeK_name kp k h[k]
  have hl : lastK (h.take (k + 1)) kp.name = h[k].kind := by rw [last_s hk, lastStep, if_pos he]
  have hev : lastEv (h.take (k + 1)) kp.name = h[k] := by rw [lastEv_s hk, if_pos he]
  have hf : (takeK kp k h[k]).first = kp.first := by unfold takeK; (repeat' split) <;> rfl
  have hla : (takeK kp k h[k]).last = k := by unfold takeK; (repeat' split) <;> rfl
  refine ⟨?_, ?_, ?_, ?_, by rw [hf]; exact e⟩
  · rw [hn, hf, hla]
    simp only [flTo, hx, if_pos he, a, if_neg (show ¬ kp.first < 0 by omega)]
  · rw [hn, hl]
    unfold takeK stateOf
    by_cases h24 : h[k].kind = 2 ∨ h[k].kind = 4
    · rw [if_pos h24]; rcases h24 with h2 | h2 <;> simp [h2]
    · by_cases h3 : h[k].kind = 3
      · simp [h3]
      · by_cases h5 : h[k].kind = 5
        · simp [h5]
        · rw [if_neg h24, if_neg h3, if_neg h5]
          by_cases h6 : h[k].kind = 6
          · simp [h6]
          · by_cases h7 : h[k].kind = 7
            · simp [h7]
            · by_cases h9 : h[k].kind = 9 <;> simp [h6, h7, h9]
  · rw [hn]
    simp only [opsTo, hx, if_pos he]
    unfold takeK
    by_cases h24 : h[k].kind = 2 ∨ h[k].kind = 4
    · rw [if_pos h24]
      rw [if_neg (by omega), if_neg (by omega)]; simpa using c
    · by_cases h3 : h[k].kind = 3
      · rw [h3] at hm
        have hask := d (.inl (may_got hm))
        rw [if_neg h24, if_pos h3, if_pos h3, if_neg (by omega)]
        simp [c, hask]
      · by_cases h5 : h[k].kind = 5
        · rw [h5] at hm
          have hask := d (.inr (may_wrote hm))
          rw [if_neg h24, if_neg h3, if_pos h5, if_neg h3, if_pos h5]
          simp [c, hask]
        · rw [if_neg h24, if_neg h3, if_neg h5, if_neg h3, if_neg h5]; simpa using c
  · rw [hn, hl, hev]
    intro h24
    unfold takeK
    rw [if_pos h24]
theorem pos_none {n : Int} : ∀ {ks : List Kp}, pos ks n = none → ∀ kp ∈ ks, kp.name ≠ n
  | [], _, kp, h => by cases h
  | k :: ks, hp, kp, h => by
    simp only [pos] at hp
    split at hp
    · cases hp
    · rename_i hk
      rcases List.mem_cons.1 h with rfl | h
      · exact hk
      · exact pos_none (Option.map_eq_none_iff.1 hp) kp h
structure TabT (h : List Ev) (k : Nat) : Prop where
  names : (tabAt h k).map Kp.name = namesE (h.take k)
  nodup : ((tabAt h k).map Kp.name).Nodup
  told : ∀ kp ∈ tabAt h k, Told h k kp
  other : ∀ n, (∀ kp ∈ tabAt h k, kp.name ≠ n) → flTo h n k = (-1, 0) ∧ opsTo h n k = [] ∧ lastK (h.take k) n = -1
theorem tabT {h : List Ev} (hw : WFl h) : ∀ k, k ≤ h.length → TabT h k
  | 0, _ => ⟨rfl, by simp [tabAt], fun kp hk => by simp [tabAt] at hk, fun n _ => ⟨rfl, rfl, rfl⟩⟩
  | k + 1, hk => by
    obtain ⟨a, b, c, d⟩ := tabT hw k (by omega)
    have hkl : k < h.length := by omega
    have hx : h[k]? = some h[k] := List.getElem?_eq_getElem hkl
    have hm : may (lastK (h.take k) h[k].tx) h[k].kind = true := hw (h.take k) h[k] (h.drop (k + 1)) (by rw [← List.drop_eq_getElem_cons hkl, List.take_append_drop])
    have hany : (namesE (h.take k)).any (fun y => h[k].tx == y) = (pos (tabAt h k) h[k].tx).isSome := by
      rw [← a]
      cases hp : pos (tabAt h k) h[k].tx with
      | none =>
        have := pos_none hp
        simp only [List.any_map, Option.isSome_none, List.any_eq_false, Function.comp, beq_iff_eq]
        exact fun kp hkp e => this kp hkp e.symm
      | some j =>
        obtain ⟨kp, h1, h2⟩ := pos_at hp
        simp only [List.any_map, Option.isSome_some, List.any_eq_true, Function.comp, beq_iff_eq]
        exact ⟨kp, List.mem_of_getElem? h1, h2.symm⟩
    cases hp : pos (tabAt h k) h[k].tx with
    | some j =>
      obtain ⟨kp, h1, h2⟩ := pos_at hp
      have hset := tab_set hx hp h1
      have hjl := (List.getElem?_eq_some_iff.1 h1).1
      have hmap : (tabAt h (k + 1)).map Kp.name = (tabAt h k).map Kp.name := by
        rw [hset, List.map_set, takeK_name]
        refine List.ext_getElem? fun i => ?_
        rw [List.getElem?_set]
        split
        · rename_i e; subst e
          rw [if_pos (by simpa using hjl), List.getElem?_map, h1]; rfl
        · rfl
      refine ⟨?_, by rw [hmap]; exact b, fun kp' hk' => ?_, fun n hn => ?_⟩
      · rw [hmap, names_s hkl, nameStep, hany, hp, a]; rfl
      · rw [hset] at hk'
        obtain ⟨i, hi⟩ := List.getElem?_of_mem hk'
        rw [List.getElem?_set] at hi
        split at hi
        · cases hi
          exact told_take hkl h2.symm (by rw [h2]; exact hm) (c kp (List.mem_of_getElem? h1))
        · rename_i hne
          refine told_other hkl (fun e => hne ?_) (c kp' (List.mem_of_getElem? hi))
          have e1 : ((tabAt h k).map Kp.name)[j]? = some h[k].tx := by rw [List.getElem?_map, h1]; exact congrArg some h2
          have e2 : ((tabAt h k).map Kp.name)[i]? = some h[k].tx := by rw [List.getElem?_map, hi]; exact congrArg some e.symm
          have hj2 := (List.getElem?_eq_some_iff.1 e1)
          have hi2 := (List.getElem?_eq_some_iff.1 e2)
          exact (List.getElem_inj b).1 (hj2.2.trans hi2.2.symm)
      · have hn' : ∀ kp ∈ tabAt h k, kp.name ≠ n := fun kp' hk' e => by
          have : n ∈ (tabAt h (k + 1)).map Kp.name := by rw [hmap]; exact List.mem_map.2 ⟨kp', hk', e⟩
          obtain ⟨q, hq, e'⟩ := List.mem_map.1 this
          exact hn q hq e'
        have hne : h[k].tx ≠ n := fun e => hn' kp (List.mem_of_getElem? h1) (h2.trans e)
        obtain ⟨d1, d2, d3⟩ := d n hn'
        refine ⟨?_, ?_, ?_⟩
        · simp only [flTo, hx, if_neg hne]; exact d1
        · simp only [opsTo, hx, if_neg hne, List.append_nil]; exact d2
        · rw [last_s hkl, lastStep, if_neg hne]; exact d3
    | none =>
      have happ := tab_app hx hp
      have hno := pos_none hp
      obtain ⟨d1, d2, d3⟩ := d h[k].tx hno
      rw [d3] at hm
      have hk0 : h[k].kind = 0 := by unfold may at hm; simpa using hm
      have hnm : (newKp k h[k]).name = h[k].tx := by rw [newKp, takeK_name]
      refine ⟨?_, ?_, fun kp' hk' => ?_, fun n hn => ?_⟩
      · rw [happ, List.map_append, names_s hkl, nameStep, hany, hp, a]; simp [hnm]
      · rw [happ, List.map_append, List.nodup_append]
        refine ⟨b, by simp, ?_⟩
        intro x hx1 y hy1 e
        simp only [List.map_cons, List.map_nil, List.mem_singleton, hnm] at hy1
        obtain ⟨q, hq, rfl⟩ := List.mem_map.1 hx1
        exact hno q hq (e.trans hy1)
      · rw [happ] at hk'
        rcases List.mem_append.1 hk' with h1 | h1
        · exact told_other hkl (fun e => hno kp' h1 e.symm) (c kp' h1)
        · simp only [List.mem_singleton] at h1
          subst h1
          have hl : lastK (h.take (k + 1)) h[k].tx = 0 := by rw [last_s hkl, lastStep, if_pos rfl, hk0]
          have e1 : newKp k h[k] = ⟨h[k].tx, k, k, 0, [], ⟨0, 0, 0, 0⟩⟩ := by simp [newKp, takeK, hk0]
          rw [e1]
          refine ⟨?_, ?_, ?_, ?_, by simp⟩
          · simp only [flTo, hx, if_true, d1]; simp
          · show (0 : Int) = stateOf (lastK (h.take (k + 1)) h[k].tx); rw [hl]; rfl
          · show [] = opsTo h h[k].tx (k + 1)
            simp only [opsTo, hx, if_true, d2, hk0]; simp
          · show lastK (h.take (k + 1)) h[k].tx = 2 ∨ lastK (h.take (k + 1)) h[k].tx = 4 → _
            rw [hl]; intro h; simp at h
      · rw [happ] at hn
        have hne : h[k].tx ≠ n := fun e => hn _ (List.mem_append_right _ (List.mem_singleton.2 rfl)) (hnm.trans e)
        obtain ⟨d1, d2, d3⟩ := d n fun kp hk => hn kp (List.mem_append_left _ hk)
        refine ⟨?_, ?_, ?_⟩
        · simp only [flTo, hx, if_neg hne]; exact d1
        · simp only [opsTo, hx, if_neg hne, List.append_nil]; exact d2
        · rw [last_s hkl, lastStep, if_neg hne]; exact d3
/-- The program's transactions. -/
def txns (h : List Ev) : List Txn := if checkE h = 0 then (tabOf h).map Kp.txn else []
theorem check_wfl {h : List Ev} (h0 : checkE h = 0) : WFl h := by
  have hr : rightH h = true := by
    cases hr : rightH h with
    | true => rfl
    | false => rw [check_arg.2 hr] at h0; cases h0
  exact (check_wf hr).1 h0
theorem table_eq {h : List Ev} (h0 : checkE h = 0) : refTab h = txns h := by
  have T := tabT (check_wfl h0) h.length (Nat.le_refl _)
  have hn := T.names
  rw [List.take_length] at hn
  unfold txns refTab
  rw [if_pos h0, ← hn, List.map_map]
  refine List.map_congr_left fun kp hk => ?_
  obtain ⟨a, b, c, _, _⟩ := T.told kp hk
  rw [List.take_length] at b
  simp only [Function.comp, refTxn, Kp.txn, a, b, c]
end Go.VC
end
section
set_option maxRecDepth 100000
set_option linter.unusedSimpArgs false
set_option linter.unusedVariables false
set_option linter.defProp false
namespace Go.VC
open Go.RowKit Go.Proofs
/-- The yield of the loop whose record is block L. -/
def yieldV (L : Nat) : Value := .func (.yield L) #[] #[]
def yR (L : Nat) : R := .sem [] fun _ v => v = yieldV L
/-- A loop's record, as an object. -/
def recOb (L : Nat) (r : Loop) : SemOb where
  os := []
  p := fun β st w bv => bv = .pointer (some ⟨L, 0, none⟩) ∧ w.heap[L]? = some (.loop r)
  lt := fun h b hb => by
    obtain ⟨rfl, h⟩ := h
    cases hb; exact (Array.getElem?_eq_some_iff.1 h).1
  mono := fun H h k => by
    obtain ⟨rfl, h⟩ := h
    exact ⟨rfl, (k L rfl).trans h⟩
  dep := fun _ h => h
/-- What a callee hands back of its caller's state. -/
noncomputable def S.ud (σ : S) : S := { regs := fun t => (σ.regs t).up.down, mem := fun o => if 999000000 ≤ o ∧ o < 1000000000 then none else (σ.mem o).map fun x => x.up.down }
section
variable {c : Cx} {σ : S} {β : Nat → Value} {a : Act} {w : World}
def updL (reg : Nat → R) : List Tmp → List A → Nat → R
  | p :: ps, x :: xs => updL (upd reg p (.a x)) ps xs
  | _, _ => reg
/-- The same memory, told of another activation. -/
def reC (c : Cx) (N : Nat) (df : List Deferred) (M : List Nat) (E : (Nat → Prop) → World → Prop) (hE : ∀ {st st' : Nat → Prop} {w w' : World}, (∀ b, st b → st' b ∧ w'.heap[b]? = w.heap[b]?) → E st w → E st' w') : Cx :=
  { c with N := N, df := df, M := M, E := E, hE := hE }
theorem Sim.move {N : Nat} {df : List Deferred} {M : List Nat} {E : (Nat → Prop) → World → Prop} {hE : ∀ {st st' : Nat → Prop} {w w' : World}, (∀ b, st b → st' b ∧ w'.heap[b]? = w.heap[b]?) → E st w → E st' w'}
    {σ' : S} {a' : Act} (h : Sim c σ β a w) (hm : ∀ o x, σ'.mem o = some x → σ.mem o = some x) (hN : a'.tmps.size = N) (Ds : List Nat) (hd : a'.defers = Ds.map markD ++ df) (hM : MarksOk c σ β w (Ds ++ M))
    (he : E (stF c σ β w) w) (hr : ∀ t, RelR β (stF c σ β w) w (a'.tmps.getD t undef) (σ'.regs t)) : Sim (reC c N df M E hE) σ' β a' w ∧ ∀ b, stF c σ β w b → stF (reC c N df M E hE) σ' β w b ∧ w.heap[b]? = w.heap[b]? := by
  have hst : ∀ b, stF c σ β w b → stF (reC c N df M E hE) σ' β w b ∧ w.heap[b]? = w.heap[b]? := fun b hb => ⟨⟨hb.1, hb.2.1, fun o x hx => hb.2.2.1 o x (hm o x hx), hb.2.2.2⟩, rfl⟩
  refine ⟨⟨h.keep, hN, ⟨Ds, hd, hM.nd, fun D hD => ?_⟩, hE hst he, fun o x hx => (h.obj o x (hm o x hx)).mono hst fun _ _ => rfl, fun o x b hx => h.blk o x b (hm o x hx), fun o o' x x' b hx hx' => h.dis o o' x x' b (hm o x hx) (hm o' x' hx'), fun t => (hr t).mono hst, h.env.mono hst⟩, hst⟩
  obtain ⟨h1, h2, h3⟩ := hM.ok D hD
  exact ⟨h1, h2, fun o x hx => h3 o x (hm o x hx)⟩
/-- A round's state at its start. -/
def S.rnd (σ : S) (vs : List Value) (ps : List Tmp) (xs : List A) : S := { regs := updL (killR 999996 σ.regs) ps xs, mem := (σ.newOb 999996 (.frame vs (killR 999996 σ.regs))).mem }
def frB : Option Ob → Nat → R
  | some (.frame _ rs), t => rs t
  | _, _ => .any
/-- The loop's own state behind a round. -/
def S.back (σ : S) : S := { regs := frB (σ.mem 999996), mem := fun o => if o = 999996 then none else σ.mem o }
end
/-- How a round of a loop may end. -/
def rndQ (L : Nat) (T : List Value) (r : Loop) (A' : S → Prop) (B' : Ex → S → Prop) : Ex → S → Prop
  | e, σ => fvOf (σ.mem 999996) = some T ∧ σ.mem 999997 = some (.sem (recOb L { r with state := .busy })) ∧ (match e with
    | .normal => A' (σ.setOb 999997 (.sem (recOb L { r with state := .ready, pending := none }))).back
    | .ret => B' .ret (σ.setOb 999997 (.sem (recOb L { r with state := .done, pending := some .ret }))).back
    | .exit id => B' (.exit id) (σ.setOb 999997 (.sem (recOb L { r with state := .done, pending := some (.exit id) }))).back)
/-- What the assignments to a loop's left sides come to: the body is run. -/
def rndB (P : Program) (gl : Nat → Option (List D)) (L : Nat) (T : List Value) (r : Loop) (body : Code) (A' : S → Prop) (B' : Ex → S → Prop) : Ex → S → Prop
  | .normal, σ => σ.mem 999997 = some (.sem (recOb L r)) ∧ awp P gl body (rndQ L T r A' B') (σ.setOb 999997 (.sem (recOb L { r with state := .busy })))
  | _, _ => False
def R.pur : R → R
  | .a x => .a x
  | .cs xs => .cs xs
  | .tp [] => .tp []
  | .sem [] p => .sem [] p
  | _ => .any
/-- An iterator's state behind a yield. -/
noncomputable def S.again (T : List Value) (τ σ : S) : S := { regs := fun t => (τ.regs t).pur, mem := (S.enter T [] σ).mem }
def S.del (σ : S) (o : Nat) : S := { σ with mem := fun o' => if o' = o then none else σ.mem o' }
theorem S.ext' {σ σ' : S} (h1 : ∀ t, σ.regs t = σ'.regs t) (h2 : ∀ o, σ.mem o = σ'.mem o) : σ = σ' := by
  obtain ⟨r, m⟩ := σ
  obtain ⟨r', m'⟩ := σ'
  congr 1
  · exact funext h1
  · exact funext h2
theorem lv_put {σ : S} {d : Option Nat} {r : R} : (S.put σ d r).leave = σ.leave := by cases d <;> rfl
theorem enter_leave {T : List Value} {rs : List R} {σ : S} : (S.enter T rs σ).leave = σ.ud := by
  refine S.ext' (fun t => ?_) fun o => ?_
  · rw [lv_r, me_f]; rfl
  · simp only [S.leave, S.ud]
    have hu := upId_eq o
    split
    · rfl
    · simp only [S.enter]
      rw [if_neg (by omega), if_neg (by omega), upId_sub, Option.map_map]; rfl
theorem again_leave {T : List Value} {τ σ : S} : (S.again T τ σ).leave = σ.ud := by
  rw [← enter_leave (T := T) (rs := []) (σ := σ)]; rfl
theorem ag_r {T : List Value} {τ σ : S} {t : Nat} : (S.again T τ σ).regs t = (τ.regs t).pur := rfl
theorem ag_f {T : List Value} {τ σ : S} : (S.again T τ σ).mem 999999 = some (.frame T (upF σ.regs)) := me_f (rs := [])
theorem pu_a {x : A} : R.pur (.a x) = .a x := rfl
theorem pu_cs {x : List (List D)} : R.pur (.cs x) = .cs x := rfl
theorem pu_y {L : Nat} : (yR L).pur = yR L := rfl
theorem up_y {L : Nat} : (yR L).up = yR L := rfl
theorem k_y {L o : Nat} : (yR L).kill o = yR L := rfl
theorem f_y {L o : Nat} {f : Nat → D} : (yR L).frz o f = yR L := rfl
theorem cf_y {P : Program} {gl : Nat → Option (List D)} {σ : S} {K : S → Prop} {dst : Option Tmp} {o : Oper} {L : Nat} {rs : List R} : callF P gl o (yR L) rs dst σ K = SemOp P gl o σ K := rfl
section
variable {σ : S} {o t : Nat} {vs : List Value} {rs : Nat → R} {reg : Nat → R} {L : Nat} {r : Loop}
theorem rn_r {ps : List Tmp} {xs : List A} : (σ.rnd vs ps xs).regs t = updL (killR 999996 σ.regs) ps xs t := rfl
theorem rn_m {ps : List Tmp} {xs : List A} : (σ.rnd vs ps xs).mem o = (σ.newOb 999996 (.frame vs (killR 999996 σ.regs))).mem o := rfl
theorem ul_n {xs : List A} : updL reg [] xs t = reg t := by cases xs <;> rfl
theorem ul_c {p : Tmp} {ps : List Tmp} {x : A} {xs : List A} : updL reg (p :: ps) (x :: xs) t = updL (upd reg p (.a x)) ps xs t := rfl
theorem up_e {x : R} : upd reg t x t = x := by simp [upd]
theorem up_n {x : R} {d : Nat} (h : (d == t) = false) : upd reg d x t = reg t := by
  have : t ≠ d := fun e => by simp [e] at h
  simp [upd, this]
theorem kf_f : Ob.kill o (.frame vs rs) = .frame vs (killR o rs) := rfl
theorem ff_f {f : Nat → D} : Ob.frz o f (.frame vs rs) = .frame vs (frzR o f rs) := rfl
theorem frb_go : frB (some (.frame vs rs)) t = rs t := rfl
theorem k_rec : Ob.kill o (.sem (recOb L r)) = .sem (recOb L r) := rfl
theorem f_rec {f : Nat → D} : Ob.frz o f (.sem (recOb L r)) = .sem (recOb L r) := rfl
theorem bk_r : σ.back.regs t = frB (σ.mem 999996) t := rfl
theorem bk_m (h : (o == 999996) = false) : σ.back.mem o = σ.mem o := by
  have : ¬ o = 999996 := by simpa using h
  simp [S.back, this]
theorem dl_r : (σ.del o).regs t = σ.regs t := rfl
theorem dl_m {o' : Nat} (h : (o' == o) = false) : (σ.del o).mem o' = σ.mem o' := by
  have : ¬ o' = o := by simpa using h
  simp [S.del, this]
theorem rb_n {P : Program} {gl : Nat → Option (List D)} {T : List Value} {body : Code} {A' : S → Prop} {B' : Ex → S → Prop} : rndB P gl L T r body A' B' .normal σ = (σ.mem 999997 = some (.sem (recOb L r)) ∧ awp P gl body (rndQ L T r A' B') (σ.setOb 999997 (.sem (recOb L { r with state := .busy })))) := rfl
theorem rq_n {T : List Value} {A' : S → Prop} {B' : Ex → S → Prop} : rndQ L T r A' B' .normal σ = (fvOf (σ.mem 999996) = some T ∧ σ.mem 999997 = some (.sem (recOb L { r with state := .busy })) ∧ A' (σ.setOb 999997 (.sem (recOb L { r with state := .ready, pending := none }))).back) := rfl
theorem rq_r {T : List Value} {A' : S → Prop} {B' : Ex → S → Prop} : rndQ L T r A' B' .ret σ = (fvOf (σ.mem 999996) = some T ∧ σ.mem 999997 = some (.sem (recOb L { r with state := .busy })) ∧ B' .ret (σ.setOb 999997 (.sem (recOb L { r with state := .done, pending := some .ret }))).back) := rfl
theorem rq_e {T : List Value} {A' : S → Prop} {B' : Ex → S → Prop} {id : Nat} : rndQ L T r A' B' (.exit id) σ = (fvOf (σ.mem 999996) = some T ∧ σ.mem 999997 = some (.sem (recOb L { r with state := .busy })) ∧ B' (.exit id) (σ.setOb 999997 (.sem (recOb L { r with state := .done, pending := some (.exit id) }))).back) := rfl
end
def PF :=
  And.intro @rn_r <| And.intro @rn_m <| And.intro @ul_n <| And.intro @ul_c <| And.intro @up_e <| And.intro @up_n <| And.intro @kf_f <| And.intro @ff_f <| And.intro @frb_go <| And.intro @k_rec <| And.intro @f_rec <| And.intro @bk_r <| And.intro @bk_m <| And.intro @dl_r <| And.intro @dl_m <| And.intro @rb_n <| And.intro @rq_n <| And.intro @rq_r <| And.intro @rq_e <| And.intro @fv_go <| And.intro @kr_go <| @fz_go
attribute [go_sem] PF
end Go.VC
end
section
set_option maxRecDepth 100000
set_option linter.unusedSimpArgs false
set_option linter.unusedVariables false
set_option linter.defProp false
namespace Go.VC
open Go.RowKit Go.Proofs Go.IntWalk
/-- Rules for iterators' bodies. -/
def PY :=
  And.intro @lv_put <| And.intro @again_leave <| And.intro @ag_r <| And.intro @ag_f <| And.intro @pu_a <| And.intro @pu_cs <| And.intro @pu_y <| And.intro @up_y <| And.intro @k_y <| And.intro @f_y <| And.intro @cf_y <| @enter_leave
attribute [go_sem] PY
structure PairI (L : Nat) (T : Array Value) (n : Nat) (Inv : Nat → S → Prop) (i : Nat) (τ : S) : Prop where
  le : i ≤ n
  r0 : τ.regs 0 = yR L
  r1 : τ.regs 1 = .a (.d (.pt [dI n]))
  r5 : τ.regs 5 = .a (I n)
  r6 : τ.regs 6 = .a (I i)
  fv : fvOf (τ.mem 999999) = some T.toList
  inv : Inv (i * n) τ.leave
structure PairJ (L : Nat) (T : Array Value) (n : Nat) (Inv : Nat → S → Prop) (i k : Nat) (τ : S) : Prop where
  le : k ≤ n
  r0 : τ.regs 0 = yR L
  r1 : τ.regs 1 = .a (.d (.pt [dI n]))
  r3 : τ.regs 3 = .a (I i)
  r5 : τ.regs 5 = .a (I n)
  r6 : τ.regs 6 = .a (I i)
  r9 : τ.regs 9 = .a (I n)
  r10 : τ.regs 10 = .a (I k)
  fv : fvOf (τ.mem 999999) = some T.toList
  inv : Inv (i * n + k) τ.leave
def uenc (n : Nat) : List D := [.v (.int .u32 n)]
theorem uenc_eq (n : Nat) : uenc n = [.v (.int .u32 n)] := rfl
abbrev unsA (l : List Nat) : A := .d (.sl (l.map uenc))
abbrev U (n : Nat) : A := .d (.v (.int .u32 n))
/-- Bits of the places of which p holds. -/
def bitsN (p : Nat → Bool) : Nat → Nat
  | 0 => 0
  | m + 1 => bitsN p m + if p m then 2 ^ m else 0
theorem bitsN_lt (p : Nat → Bool) : ∀ m, bitsN p m < 2 ^ m
  | 0 => by simp [bitsN]
  | m + 1 => by
    have := bitsN_lt p m
    simp only [bitsN, Nat.pow_succ]
    split <;> omega
theorem bitsN_or (p : Nat → Bool) (m : Nat) : bitsN p m ||| 2 ^ m = bitsN p m + 2 ^ m := by
  have := Nat.two_pow_add_eq_or_of_lt (bitsN_lt p m) 1
  rw [Nat.mul_one] at this
  rw [Nat.or_comm, ← this, Nat.add_comm]
theorem bitsN_test (p : Nat → Bool) (k : Nat) : ∀ m, (bitsN p m).testBit k = (decide (k < m) && p k)
  | 0 => by simp [bitsN]
  | m + 1 => by
    have h := bitsN_lt p m
    have ih := bitsN_test p k m
    simp only [bitsN]
    cases hp : p m with
    | false =>
      simp only [Bool.false_eq_true, if_false, Nat.add_zero, ih]
      by_cases hk : k = m
      · subst hk; simp [hp]
      · have : (k < m + 1) = (k < m) := by apply propext; omega
        simp [this]
    | true =>
      simp only [if_true]
      rw [← bitsN_or, Nat.testBit_or, ih, Nat.testBit_two_pow]
      by_cases hk : k = m
      · subst hk; simp [hp]
      · have h1 : (k < m + 1) = (k < m) := by apply propext; omega
        have h2 : ¬ m = k := fun e => hk e.symm
        simp [h1, h2]
theorem u32_or {a b : Nat} (ha : a < 2 ^ 32) (hb : b < 2 ^ 32) : orK .u32 a b = ((a ||| b : Nat) : Int) := by
  show IntKind.u32.wrap (BitVec.ofInt 32 (a : Int) ||| BitVec.ofInt 32 (b : Int)).toNat = _
  have hab : a ||| b < 2 ^ 32 := Nat.or_lt_two_pow ha hb
  have e : (BitVec.ofInt 32 (a : Int) ||| BitVec.ofInt 32 (b : Int)).toNat = a ||| b := by
    have h1 : ∀ c : Nat, c < 2 ^ 32 → (BitVec.ofInt 32 (c : Int)).toNat = c := fun c hc => by
      have : (BitVec.ofInt 32 (c : Int)).toNat = c := by
        rw [BitVec.toNat_ofInt]; omega
      exact this
    rw [BitVec.toNat_or, h1 a ha, h1 b hb]
  rw [e]
  exact u32_in _ (by omega)
theorem u32_shl {k : Nat} (hk : k < 32) : IntKind.u32.wrap ((1 : Int) * 2 ^ (min k 32)) = ((2 ^ k : Nat) : Int) := by
  have h1 : min k 32 = k := by omega
  have h2 : (2 : Nat) ^ k ≤ 2 ^ 31 := Nat.pow_le_pow_right (by omega) (by omega)
  have h3 : (1 : Int) * 2 ^ k = ((2 ^ k : Nat) : Int) := by rw [Int.one_mul, Int.natCast_pow]; rfl
  rw [h1, h3]
  generalize 2 ^ k = q at h2 ⊢
  exact u32_in _ (by omega)
def beforeB (l : List Txn) (i k : Nat) : Bool := match l[i]?, l[k]? with
  | some a, some b => decide (2 ≤ a.st) && decide (a.last < b.first)
  | _, _ => false
/-- Behind j of the pairs. -/
def rowsAt (l : List Txn) (j : Nat) : List Nat := (List.range l.length).map fun r => bitsN (beforeB l r) (min l.length (j - r * l.length))
structure AftI (l : List Txn) (j : Nat) (σ : S) : Prop where
  r1 : σ.regs 1 = .ref 1 0
  r3 : σ.regs 3 = .ref 3 0
  m1 : σ.mem 1 = some (.box [.a (txnsA l)])
  m3 : σ.mem 3 = some (.box [.own 8])
  m8 : σ.mem 8 = some (.log 23 1 ((rowsAt l j).map uenc))
theorem tabD_txns (h : List Ev) : (.d (.sl (tabD h)) : A) = txnsA (txns h) := by
  unfold tabD txns
  split
  · rw [txnsA, List.map_map]; rfl
  · rfl
theorem txns_len6 (h : List Ev) : (txns h).length ≤ 6 := by
  unfold txns
  split
  · rename_i h0
    have T := tabT (check_wfl h0) h.length (Nat.le_refl _)
    have hn := T.names
    rw [List.take_length] at hn
    have : ((tabAt h h.length).map Kp.name).length = (namesE h).length := by rw [hn]
    rw [List.length_map] at this
    have hr : rightH h = true := by
      cases hr : rightH h with
      | true => rfl
      | false => rw [check_arg.2 hr] at h0; cases h0
    simp only [rightH, Bool.and_eq_true, decide_eq_true_eq] at hr
    rw [List.length_map]
    show (tabAt h h.length).length ≤ 6
    omega
  · simp
end Go.VC
end
section
set_option maxRecDepth 100000
set_option linter.unusedSimpArgs false
set_option linter.unusedVariables false
namespace Go.VC
open Go.RowKit Go.Proofs Go.IntWalk
theorem u32_and {a b : Nat} (ha : a < 2 ^ 32) (hb : b < 2 ^ 32) : andK .u32 a b = ((a &&& b : Nat) : Int) := by
  show IntKind.u32.wrap (BitVec.ofInt 32 (a : Int) &&& BitVec.ofInt 32 (b : Int)).toNat = _
  have hab : a &&& b < 2 ^ 32 := Nat.lt_of_le_of_lt Nat.and_le_left ha
  have e : (BitVec.ofInt 32 (a : Int) &&& BitVec.ofInt 32 (b : Int)).toNat = a &&& b := by
    have h1 : ∀ c : Nat, c < 2 ^ 32 → (BitVec.ofInt 32 (c : Int)).toNat = c := fun c hc => by
      have : (BitVec.ofInt 32 (c : Int)).toNat = c := by
        rw [BitVec.toNat_ofInt]; omega
      exact this
    rw [BitVec.toNat_and, h1 a ha, h1 b hb]
  rw [e]
  exact u32_in _ (by omega)
theorem u32_shr {b k : Nat} (hk : k < 32) : ((b : Int)).fdiv (2 ^ (min k 32)) = ((b / 2 ^ k : Nat) : Int) := by
  have h1 : min k 32 = k := by omega
  rw [h1, Int.fdiv_eq_ediv_of_nonneg _ (Int.le_of_lt (Int.pow_pos (by decide)))]
  rw [Int.natCast_ediv, Int.natCast_pow]; rfl
theorem u32_bit {b k : Nat} (hb : b < 2 ^ 32) : andK .u32 ((b / 2 ^ k : Nat) : Int) 1 = if b.testBit k then 1 else 0 := by
  have h1 : b / 2 ^ k < 2 ^ 32 := Nat.lt_of_le_of_lt (Nat.div_le_self _ _) hb
  have := u32_and h1 (show 1 < 2 ^ 32 by decide)
  rw [show ((1 : Nat) : Int) = 1 from rfl] at this
  rw [this, Nat.and_one_is_mod, Nat.testBit_eq_decide_div_mod_eq]
  by_cases h : b / 2 ^ k % 2 = 1
  · simp [h]
  · have : b / 2 ^ k % 2 = 0 := by omega
    simp [this]
theorem bits32 (p : Nat → Bool) {n : Nat} (hn : n ≤ 30) : bitsN p n < 2 ^ 32 := Nat.lt_of_lt_of_le (bitsN_lt _ _) (Nat.pow_le_pow_right (by omega) (by omega))
end Go.VC
end
section
set_option maxRecDepth 100000
set_option linter.unusedSimpArgs false
set_option linter.unusedVariables false
namespace Go.VC
open Go.RowKit Go.Proofs Go.IntWalk
theorem t21 (a b : List Nat) (hal : a.length ≤ 1000000) : Holds Tryd.prog GL 11 [unsA a, unsA b] [.a (B (a == b))] := by
  refine fn_holds (vs := [.tmp 4]) (by kernel_rfl) Tryd.func11 rfl rfl (by kernel_rfl) (by kernel_rfl) rfl ?_
  by_cases hl : a.length = b.length
  · have hli : (a.length : Int) = (b.length : Int) := by omega
    (refine rO ?_; repeat' ((with_reducible first | refine rG ?_ | (refine rS ?_ ?_ <;> intro hp) | (refine rB ?_ ?_ <;> intro hb <;> try rw [hb]) | refine rD ?_ | refine rA ?_ | fail) <;> try simp only [go_sem, simprocAttr, List.length_map, hli]))
    refine awp_loopA (fun k : Nat => [(0, .a (unsA a)), (1, .a (unsA b)), (12, .a (I b.length)), (13, .a (I k))]) (fun _ => []) (fun k => k ≤ a.length ∧ a.take k = b.take k) (a.length - ·) 0 ?_ ?_ ⟨Nat.zero_le _, rfl⟩ ?_
    · simp only [go_sem, simprocAttr, List.length_map]
    · simp only [go_sem, simprocAttr]
    intro k j ⟨hk, hq⟩
    (refine rO ?_; repeat' ((with_reducible first | refine rG ?_ | (refine rS ?_ ?_ <;> intro hp) | (refine rB ?_ ?_ <;> intro hb <;> try rw [hb]) | refine rD ?_ | refine rA ?_ | fail) <;> try simp only [go_sem, simprocAttr]))
    · have hkl : k < a.length := by omega
      have hkb : k < b.length := by omega
      have hw := wrap_succ hkl (by simp only [maxLen]; omega)
      have hx : a[k]? = some a[k] := List.getElem?_eq_getElem hkl
      have hy : b[k]? = some b[k] := List.getElem?_eq_getElem hkb
      (refine rO ?_; repeat' ((with_reducible first | refine rG ?_ | (refine rS ?_ ?_ <;> intro hp) | (refine rB ?_ ?_ <;> intro hb <;> try rw [hb]) | refine rD ?_ | refine rA ?_ | fail) <;> try simp only [go_sem, simprocAttr, hx, hy, uenc_eq, hw, List.length_map]))
      · have he : a[k] = b[k] := by omega
        (refine ⟨k + 1, ?_, ?_, ⟨hkl, by rw [List.take_succ_eq_append_getElem hkl, List.take_succ_eq_append_getElem hkb, hq, he]⟩, by dsimp only; omega⟩ <;> simp only [go_sem, simprocAttr])
      · have : ¬ a = b := fun e => by subst e; simp at *
        simp [this]
    · rw [List.take_of_length_le (by omega), List.take_of_length_le (by omega)] at hq
      subst hq; simp
  · have hne : ¬ a = b := fun e => hl (by rw [e])
    (refine rO ?_; repeat' ((with_reducible first | refine rG ?_ | (refine rS ?_ ?_ <;> intro hp) | (refine rB ?_ ?_ <;> intro hb <;> try rw [hb]) | refine rD ?_ | refine rA ?_ | fail) <;> try simp only [go_sem, simprocAttr, List.length_map]))
    · omega
    · simp [hne]
end Go.VC
end
section
set_option maxRecDepth 100000
set_option linter.unusedSimpArgs false
set_option linter.unusedVariables false
set_option linter.unnecessarySimpa false
namespace Go.VC
open Go.RowKit Go.Proofs Go.IntWalk
theorem mat_tab {s s' : ByteArray} (h : s = s') {n : Nat} {b : UInt8} {K : UInt8 → Prop} (hb : s'[n]? = some b) (hK : K b) : mat (s[n]?) K := by rw [h, hb]; exact hK
theorem t_0 {σ : S} {K : S → Prop} {d : Tmp} (h : decide (1000 + 16 * d + 0 ≤ 1000000000) = true) : S.ret σ (some d) [] K = K (σ.put (some d) (.tp [])) := by
  have h' : 1000 + 16 * d ≤ 1000000000 := by simpa using h
  simp [S.ret, baseId, freshOf, regsOf, one, h']
theorem al_nil : aloneRs [] = True := by simp [aloneRs]
attribute [go_sem ↓] t_0
attribute [go_sem] al_nil
def len8 (n : Nat) : Nat := if n = 0 then 0 else Nat.log2 n + 1
def tab8 : ByteArray := ⟨((List.range 256).map fun n => UInt8.ofNat (len8 n)).toArray⟩
theorem tab8_size : tab8.size = 256 := by simp [tab8, ByteArray.size]
theorem tab8_at : ∀ n : Fin 65, (tab8[n.val]'(by rw [tab8_size]; omega)).toNat = len8 n.val := by decide +kernel
abbrev U64 (n : Nat) : A := .d (.v (.int .u64 n))
theorem t133 (n : Nat) (hn : n ≤ 64) : Holds Tryd.prog GL 70 [U64 n] [.a (I (len8 n))] := by
  refine fn_holds (vs := [.tmp 2]) (by kernel_rfl) Tryd.func70 rfl rfl (by kernel_rfl) (by kernel_rfl) rfl ?_
  have hs := tab8_at ⟨n, by omega⟩
  have hw : IntKind.u8.wrap (n : Int) = n := by rw [IntKind.wrap_u8]; omega
  have hl : len8 n ≤ 7 := by
    unfold len8; split
    · omega
    · have := Nat.log2_lt (n := n) (k := 7) (by omega); omega
  have h1 : ¬ ((n : Int) ≥ 4294967296) := by omega
  have h2 : ¬ ((n : Int) ≥ 65536) := by omega
  have h3 : ¬ ((n : Int) ≥ 256) := by omega
  have hw2 : IntKind.i64.wrap (0 + (len8 n : Int)) = (len8 n : Int) := by rw [i64_in _ (by omega)]; omega
  have hw3 : IntKind.i64.wrap (len8 n : Int) = (len8 n : Int) := by rw [i64_in _ (by omega)]
  (refine rO ?_; repeat' ((with_reducible first | refine rG ?_ | (refine rS ?_ ?_ <;> intro hp) | (refine rB ?_ ?_ <;> intro hb <;> try rw [hb]) | refine rD ?_ | refine rA ?_ | fail) <;> try simp only [go_sem, simprocAttr, h1, h2, h3, hw]))
  refine mat_tab (s' := tab8) (by kernel_rfl) (ByteArray.getElem?_lt' _ _ (by rw [tab8_size]; omega)) ?_
  rw [hs]
  (refine rO ?_; repeat' ((with_reducible first | refine rG ?_ | (refine rS ?_ ?_ <;> intro hp) | (refine rB ?_ ?_ <;> intro hb <;> try rw [hb]) | refine rD ?_ | refine rA ?_ | fail) <;> try simp only [go_sem, simprocAttr, hw2, hw3]))
theorem t108 (n : Nat) (hn : n ≤ 64) : Holds Tryd.prog GL 52 [U64 n] [.a (I (len8 n))] := by
  refine fn_holds (vs := [.tmp 2]) (by kernel_rfl) Tryd.func52 rfl rfl (by kernel_rfl) (by kernel_rfl) rfl ?_
  (refine rO ?_; repeat' ((with_reducible first | refine rG ?_ | (refine rS ?_ ?_ <;> intro hp) | (refine rB ?_ ?_ <;> intro hb <;> try rw [hb]) | refine rD ?_ | refine rA ?_ | fail) <;> try simp only [go_sem, simprocAttr]))
  refine call_dat (t133 n hn) ?_
  (refine rO ?_; repeat' ((with_reducible first | refine rG ?_ | (refine rS ?_ ?_ <;> intro hp) | (refine rB ?_ ?_ <;> intro hb <;> try rw [hb]) | refine rD ?_ | refine rA ?_ | fail) <;> try simp only [go_sem, simprocAttr]))
theorem t1263 (a : Nat) : Holds Tryd.prog GL 76 [U a] [.a (B false)] := by
  refine fn_holds (vs := [.tmp 2]) (by kernel_rfl) Tryd.func76 rfl rfl (by kernel_rfl) (by kernel_rfl) rfl ?_
  (refine rO ?_; repeat' ((with_reducible first | refine rG ?_ | (refine rS ?_ ?_ <;> intro hp) | (refine rB ?_ ?_ <;> intro hb <;> try rw [hb]) | refine rD ?_ | refine rA ?_ | fail) <;> try simp only [go_sem, simprocAttr, eq_self_iff_true, spK_true]))
theorem c1263 {a : Nat} {dst : Option Tmp} {σ : S} {K : S → Prop} (hK : S.ret σ dst [.a (B false)] K) : callV Tryd.prog GL 76 [.a (U a)] dst σ K :=
  call_dat (t1263 a) hK
theorem t1240 (a b : Nat) : Holds Tryd.prog GL 66 [U a, U b] [.a (B (decide (a < b)))] := by
  refine fn_holds (vs := [.tmp 4]) (by kernel_rfl) Tryd.func66 rfl rfl (by kernel_rfl) (by kernel_rfl) rfl ?_
  (refine rO ?_; repeat' ((with_reducible first | refine rG ?_ | (refine rS ?_ ?_ <;> intro hp) | (refine rB ?_ ?_ <;> intro hb <;> try rw [hb]) | refine rD ?_ | apply c1263 | refine rA ?_ | fail) <;> try simp only [go_sem, simprocAttr]))
  · simp; omega
  · simp; omega
theorem q1240 {a : Nat} {b : Nat} {σ : S} {KR : R → Prop} (hK : KR (retR [(B (decide (a < b)))])) : callVQ Tryd.prog GL 66 [.a (U a), .a (U b)] σ KR :=
  callQ_dat (res := [(B (decide (a < b)))]) (t1240 a b) hK
/-- A row rises. -/
def SrtN (l : List Nat) : Prop := ∀ (i x y : Nat), l[i]? = some x → l[i + 1]? = some y → x ≤ y
theorem wrap_pred {k n : Nat} (h : k < n) (hn : n ≤ maxLen) : IntKind.i64.wrap (((k + 1 : Nat) : Int) - 1) = (k : Int) := by
  rw [i64_in _ (by simp only [maxLen] at hn; omega)]; omega
theorem t1234 (l : List Nat) (hs : SrtN l) (hl : l.length ≤ 1000) : Holds Tryd.prog GL 60 [unsA l, I 0, I l.length] [] := by
  refine fn_holds (vs := []) (by kernel_rfl) Tryd.func60 rfl rfl (by kernel_rfl) (by kernel_rfl) rfl ?_
  (refine rO ?_; repeat' ((with_reducible first | refine rG ?_ | (refine rS ?_ ?_ <;> intro hp) | (refine rB ?_ ?_ <;> intro hb <;> try rw [hb]) | refine rD ?_ | refine rA ?_ | fail) <;> try simp only [go_sem, simprocAttr, show IntKind.i64.wrap (0 + 1) = 1 from rfl]))
  refine awp_loopA (fun i : Nat => [(0, .a (unsA l)), (1, .a (I 0)), (2, .a (I l.length)), (6, .a (I (i + 1 : Nat)))]) (fun _ => []) (fun i => i ≤ l.length) (l.length - ·) 0 ?_ ?_ (Nat.zero_le _) ?_
  · simp only [go_sem, simprocAttr]; try rfl
  · simp only [go_sem, simprocAttr]
  intro i j hi
  (refine rO ?_; repeat' ((with_reducible first | refine rG ?_ | (refine rS ?_ ?_ <;> intro hp) | (refine rB ?_ ?_ <;> intro hb <;> try rw [hb]) | refine rD ?_ | refine rA ?_ | fail) <;> try simp only [go_sem, simprocAttr]))
  · have hil : i + 1 < l.length := by omega
    have hw := wrap_succ (n := l.length) hil (by simp only [maxLen]; omega)
    have hp := wrap_pred (k := i) (n := l.length) (by omega) (by simp only [maxLen]; omega)
    have hx : l[i]? = some l[i] := List.getElem?_eq_getElem (by omega)
    have hy : l[i + 1]? = some l[i + 1] := List.getElem?_eq_getElem hil
    have hxy := hs i _ _ hx hy
    have h0 : ((i + 1 : Nat) : Int) > 0 := by omega
    generalize l[i] = x at hx hxy
    generalize l[i + 1] = y at hy hxy
    refine awp_loopA (fun _ : Unit => [(0, .a (unsA l)), (1, .a (I 0)), (2, .a (I l.length)), (6, .a (I (i + 1 : Nat))), (7, .a (I (i + 1 : Nat)))]) (fun _ => []) (fun _ => True) (fun _ => 0) () ?_ ?_ trivial ?_
    · simp only [go_sem, simprocAttr]
    · simp only [go_sem, simprocAttr]
    intro _ j2 _
    (refine rO ?_; repeat' ((with_reducible first | refine rG ?_ | (refine rS ?_ ?_ <;> intro hp) | (refine rB ?_ ?_ <;> intro hb <;> try rw [hb]) | refine rD ?_ | apply q1240 | refine rA ?_ | fail) <;> try simp only [go_sem, simprocAttr, h0, hp, hx, hy, uenc_eq, decide_eq_false (show ¬ y < x by omega), hw]))
    (refine ⟨i + 1, ?_, ?_, by omega, by dsimp only; omega⟩ <;> simp only [go_sem, simprocAttr, hw])
theorem q1240' {a b : Nat} {c : Bool} (h : decide (a < b) = c) {σ : S} {KR : R → Prop} (hK : KR (retR [B c])) : callVQ Tryd.prog GL 66 [.a (U a), .a (U b)] σ KR := q1240 (h ▸ hK)
/-- What counts swaps: none was done. -/
abbrev PtI (n : Int) : A := .d (.pt [.v (.int .i64 n)])
theorem SrtN.le {l : List Nat} (hs : SrtN l) : ∀ (d i x y : Nat), l[i]? = some x → l[i + d]? = some y → x ≤ y
  | 0, i, x, y, hx, hy => by rw [Nat.add_zero, hx] at hy; cases hy; exact Nat.le_refl _
  | d + 1, i, x, y, hx, hy => by
    have hl := (List.getElem?_eq_some_iff.1 hy).1
    have hz : l[i + d]? = some l[i + d] := List.getElem?_eq_getElem (by omega)
    exact Nat.le_trans (hs.le d i x _ hx hz) (hs _ _ _ hz (by rw [show i + d + 1 = i + (d + 1) by omega]; exact hy))
theorem t1271 (l : List Nat) (hs : SrtN l) (a b : Nat) (hab : a ≤ b) (hb : b < l.length) (n : Int) : Holds Tryd.prog GL 77 [unsA l, I a, I b, PtI n] [.a (I a), .a (I b)] := by
  refine fn_holds (vs := [.tmp 8, .tmp 9]) (by kernel_rfl) Tryd.func77 rfl rfl (by kernel_rfl) (by kernel_rfl) rfl ?_
  have hx : l[a]? = some l[a] := List.getElem?_eq_getElem (by omega)
  have hy : l[b]? = some l[b] := List.getElem?_eq_getElem hb
  have hxy := hs.le (b - a) a _ _ hx (by rw [show a + (b - a) = b by omega]; exact hy)
  generalize l[a] = x at hx hxy
  generalize l[b] = y at hy hxy
  (refine rO ?_; repeat' ((with_reducible first | refine rG ?_ | (refine rS ?_ ?_ <;> intro hp) | (refine rB ?_ ?_ <;> intro hb <;> try rw [hb]) | refine rD ?_ | refine q1240' (decide_eq_false (show ¬ y < x by omega)) ?_ | refine rA ?_ | fail) <;> try simp only [go_sem, simprocAttr, hx, hy, uenc_eq]))
theorem c1271 {l : List Nat} (hs : SrtN l) {a b : Nat} (hab : a ≤ b) (hb : b < l.length) {n : Int} {dst : Option Tmp} {σ : S} {K : S → Prop} (hK : σ.ret dst [.a (I a), .a (I b)] K) : callV Tryd.prog GL 77 [.a (unsA l), .a (I a), .a (I b), .a (PtI n)] dst σ K := call_dat (t1271 l hs a b hab hb n) hK
theorem t1262 (l : List Nat) (hs : SrtN l) (a b c : Nat) (hab : a ≤ b) (hbc : b ≤ c) (hc : c < l.length) (n : Int) : Holds Tryd.prog GL 75 [unsA l, I a, I b, I c, PtI n] [.a (I b)] := by
  refine fn_holds (vs := [.tmp 10]) (by kernel_rfl) Tryd.func75 rfl rfl (by kernel_rfl) (by kernel_rfl) rfl ?_
  (refine rO ?_; repeat' ((with_reducible first | refine rG ?_ | (refine rS ?_ ?_ <;> intro hp) | (refine rB ?_ ?_ <;> intro hb <;> try rw [hb]) | refine rD ?_ | refine c1271 hs hab (by omega) ?_ | refine c1271 hs hbc hc ?_ | refine rA ?_ | fail) <;> try simp only [go_sem, simprocAttr]))
theorem c1262 {l : List Nat} (hs : SrtN l) {a b c : Nat} (hab : a ≤ b) (hbc : b ≤ c) (hc : c < l.length) {n : Int} {dst : Option Tmp} {σ : S} {K : S → Prop} (hK : σ.ret dst [.a (I b)] K) : callV Tryd.prog GL 75 [.a (unsA l), .a (I a), .a (I b), .a (I c), .a (PtI n)] dst σ K := call_dat (t1262 l hs a b c hab hbc hc n) hK
theorem t1261 (l : List Nat) (hs : SrtN l) (a : Nat) (ha : a + 2 < l.length) (hl : l.length ≤ 1000) (n : Int) : Holds Tryd.prog GL 74 [unsA l, I (a + 1 : Nat), PtI n] [.a (I (a + 1 : Nat))] := by
  refine fn_holds (vs := [.tmp 6]) (by kernel_rfl) Tryd.func74 rfl rfl (by kernel_rfl) (by kernel_rfl) rfl ?_
  have hp := wrap_pred (k := a) (n := l.length) (by omega) (by simp only [maxLen]; omega)
  have hw := wrap_succ (k := a + 1) (n := l.length) (by omega) (by simp only [maxLen]; omega)
  (refine rO ?_; repeat' ((with_reducible first | refine rG ?_ | (refine rS ?_ ?_ <;> intro hp) | (refine rB ?_ ?_ <;> intro hb <;> try rw [hb]) | refine rD ?_ | refine c1262 hs (Nat.le_succ a) (Nat.le_succ (a + 1)) ha ?_ | refine rA ?_ | fail) <;> try simp only [go_sem, simprocAttr, hp, hw]))
theorem t1237 (l : List Nat) (hs : SrtN l) (h12 : 12 < l.length) (hl : l.length ≤ 64) : Holds Tryd.prog GL 63 [unsA l, I 0, I l.length] [.a (I (l.length / 4 * 2 : Nat)), .a (I 1)] := by
  refine fn_holds (vs := [.tmp 6, .tmp 7]) (by kernel_rfl) Tryd.func63 rfl rfl (by kernel_rfl) (by kernel_rfl) rfl ?_
  obtain ⟨m, hm⟩ : ∃ m, l.length / 4 = m + 1 := ⟨l.length / 4 - 1, by omega⟩
  have e1 : IntKind.i64.wrap ((l.length : Int) - 0) = l.length := by rw [i64_in _ (by omega)]; omega
  have e2 : (l.length : Int).tdiv 4 = ((m + 1 : Nat) : Int) := by rw [Int.tdiv_eq_ediv_of_nonneg (by omega)]; omega
  have e3 : IntKind.i64.wrap ((m + 1 : Nat) : Int) = ((m + 1 : Nat) : Int) := by rw [i64_in _ (by omega)]
  have e4 : IntKind.i64.wrap (((m + 1 : Nat) : Int) * 1) = ((m + 1 : Nat) : Int) := by rw [i64_in _ (by omega)]; omega
  have e5 : IntKind.i64.wrap (((m + 1 : Nat) : Int) * 2) = ((2 * m + 1 + 1 : Nat) : Int) := by rw [i64_in _ (by omega)]; omega
  have e6 : IntKind.i64.wrap (((m + 1 : Nat) : Int) * 3) = ((3 * m + 2 + 1 : Nat) : Int) := by rw [i64_in _ (by omega)]; omega
  have e7 : IntKind.i64.wrap (0 + ((m + 1 : Nat) : Int)) = ((m + 1 : Nat) : Int) := by rw [i64_in _ (by omega)]; omega
  have e8 : IntKind.i64.wrap (0 + ((2 * m + 1 + 1 : Nat) : Int)) = ((2 * m + 1 + 1 : Nat) : Int) := by rw [i64_in _ (by omega)]; omega
  have e9 : IntKind.i64.wrap (0 + ((3 * m + 2 + 1 : Nat) : Int)) = ((3 * m + 2 + 1 : Nat) : Int) := by rw [i64_in _ (by omega)]; omega
  have g8 : (l.length : Int) ≥ 8 := by omega
  rw [show l.length / 4 * 2 = 2 * m + 1 + 1 by omega]
  (refine rO ?_; repeat' ((with_reducible first | refine rG ?_ | (refine rS ?_ ?_ <;> intro hp) | (refine rB ?_ ?_ <;> intro hb <;> try rw [hb]) | refine rD ?_ | refine rA ?_ | fail) <;> try simp only [go_sem, simprocAttr, e1, e2, e3, e4, e5, e6, e7, e8, e9, g8]))
  · refine call_own _ (t1261 l hs m (by omega) (by omega) 0) (by simp only [go_sem, simprocAttr, argsA, argA] <;> rfl) rfl ?_
    (refine rO ?_; repeat' ((with_reducible first | refine rG ?_ | (refine rS ?_ ?_ <;> intro hp) | (refine rB ?_ ?_ <;> intro hb <;> try rw [hb]) | refine rD ?_ | refine rA ?_ | fail) <;> try simp only [go_sem, simprocAttr, e1, e2, e3, e4, e5, e6, e7, e8, e9, g8]))
    refine call_own _ (t1261 l hs (2 * m + 1) (by omega) (by omega) 0) (by simp only [go_sem, simprocAttr, argsA, argA] <;> rfl) rfl ?_
    (refine rO ?_; repeat' ((with_reducible first | refine rG ?_ | (refine rS ?_ ?_ <;> intro hp) | (refine rB ?_ ?_ <;> intro hb <;> try rw [hb]) | refine rD ?_ | refine rA ?_ | fail) <;> try simp only [go_sem, simprocAttr, e1, e2, e3, e4, e5, e6, e7, e8, e9, g8]))
    refine call_own _ (t1261 l hs (3 * m + 2) (by omega) (by omega) 0) (by simp only [go_sem, simprocAttr, argsA, argA] <;> rfl) rfl ?_
    (refine rO ?_; repeat' ((with_reducible first | refine rG ?_ | (refine rS ?_ ?_ <;> intro hp) | (refine rB ?_ ?_ <;> intro hb <;> try rw [hb]) | refine rD ?_ | refine rA ?_ | fail) <;> try simp only [go_sem, simprocAttr, e1, e2, e3, e4, e5, e6, e7, e8, e9, g8]))
    refine call_own _ (t1262 l hs (m + 1) (2 * m + 1 + 1) (3 * m + 2 + 1) (by omega) (by omega) (by omega) 0) (by simp only [go_sem, simprocAttr, argsA, argA] <;> rfl) rfl ?_
    (refine rO ?_; repeat' ((with_reducible first | refine rG ?_ | (refine rS ?_ ?_ <;> intro hp) | (refine rB ?_ ?_ <;> intro hb <;> try rw [hb]) | refine rD ?_ | refine rA ?_ | fail) <;> try simp only [go_sem, simprocAttr]))
  · refine call_own _ (t1262 l hs (m + 1) (2 * m + 1 + 1) (3 * m + 2 + 1) (by omega) (by omega) (by omega) 0) (by simp only [go_sem, simprocAttr, argsA, argA] <;> rfl) rfl ?_
    (refine rO ?_; repeat' ((with_reducible first | refine rG ?_ | (refine rS ?_ ?_ <;> intro hp) | (refine rB ?_ ?_ <;> intro hb <;> try rw [hb]) | refine rD ?_ | refine rA ?_ | fail) <;> try simp only [go_sem, simprocAttr]))
theorem t1239 (l : List Nat) (hs : SrtN l) (h12 : 12 < l.length) (hl : l.length ≤ 64) : Holds Tryd.prog GL 65 [unsA l, I 0, I l.length] [.a (B true)] := by
  refine fn_holds (vs := [.tmp 6]) (by kernel_rfl) Tryd.func65 rfl rfl (by kernel_rfl) (by kernel_rfl) rfl ?_
  (refine rO ?_; repeat' ((with_reducible first | refine rG ?_ | (refine rS ?_ ?_ <;> intro hp) | (refine rB ?_ ?_ <;> intro hb <;> try rw [hb]) | refine rD ?_ | refine rA ?_ | fail) <;> try simp only [go_sem, simprocAttr, show IntKind.i64.wrap (0 + 1) = 1 from rfl]))
  refine awp_loopA (fun _ : Unit => [(0, .a (unsA l)), (1, .a (I 0)), (2, .a (I l.length)), (7, .a (I (1 : Nat))), (8, .a (I 0))]) (fun _ => []) (fun _ => True) (fun _ => 0) () ?_ ?_ trivial ?_
  · simp only [go_sem, simprocAttr]; try rfl
  · simp only [go_sem, simprocAttr]; try rfl
  intro _ j _
  (refine rO ?_; repeat' ((with_reducible first | refine rG ?_ | (refine rS ?_ ?_ <;> intro hp) | (refine rB ?_ ?_ <;> intro hb <;> try rw [hb]) | refine rD ?_ | refine rA ?_ | fail) <;> try simp only [go_sem, simprocAttr]))
  refine awp_loopA (fun i : Nat => [(0, .a (unsA l)), (1, .a (I 0)), (2, .a (I l.length)), (7, .a (I (i + 1 : Nat))), (8, .a (I 0))]) (fun _ => []) (fun i => i + 1 ≤ l.length) (l.length - ·) 0 ?_ ?_ (by omega) ?_
  · simp only [go_sem, simprocAttr]
  · simp only [go_sem, simprocAttr]
  intro i j2 hi
  (refine rO ?_; repeat' ((with_reducible first | refine rG ?_ | (refine rS ?_ ?_ <;> intro hp) | (refine rB ?_ ?_ <;> intro hb <;> try rw [hb]) | refine rD ?_ | refine rA ?_ | fail) <;> try simp only [go_sem, simprocAttr]))
  · by_cases hil : i + 1 < l.length
    · have hw := wrap_succ (n := l.length) hil (by simp only [maxLen]; omega)
      have hp := wrap_pred (k := i) (n := l.length) (by omega) (by simp only [maxLen]; omega)
      have hx : l[i]? = some l[i] := List.getElem?_eq_getElem (by omega)
      have hy : l[i + 1]? = some l[i + 1] := List.getElem?_eq_getElem hil
      have hxy := hs i _ _ hx hy
      have hlt : ((i + 1 : Nat) : Int) < (l.length : Int) := by omega
      generalize l[i] = x at hx hxy
      generalize l[i + 1] = y at hy hxy
      (refine rO ?_; repeat' ((with_reducible first | refine rG ?_ | (refine rS ?_ ?_ <;> intro hp) | (refine rB ?_ ?_ <;> intro hb <;> try rw [hb]) | refine rD ?_ | refine q1240' (decide_eq_false (show ¬ y < x by omega)) ?_ | refine rA ?_ | fail) <;> try simp only [go_sem, simprocAttr, hlt, hp, hx, hy, uenc_eq, hw]))
      (refine ⟨i + 1, ?_, ?_, by omega, by dsimp only; omega⟩ <;> simp only [go_sem, simprocAttr, hw])
    · exfalso; omega
  all_goals (exfalso; omega)
theorem t1214 (l : List Nat) (hs : SrtN l) (hl : l.length ≤ 64) : Holds Tryd.prog GL 51 [unsA l, I 0, I l.length, I (len8 l.length)] [] := by
  refine fn_holds (vs := []) (by kernel_rfl) Tryd.func51 rfl rfl (by kernel_rfl) (by kernel_rfl) rfl ?_
  have e1 : IntKind.i64.wrap ((l.length : Int) - 0) = l.length := by rw [i64_in _ (by omega)]; omega
  (refine rO ?_; repeat' ((with_reducible first | refine rG ?_ | (refine rS ?_ ?_ <;> intro hp) | (refine rB ?_ ?_ <;> intro hb <;> try rw [hb]) | refine rD ?_ | refine rA ?_ | fail) <;> try simp only [go_sem, simprocAttr]))
  refine awp_loopA (fun _ : Unit => [(0, .a (unsA l)), (1, .a (I 0)), (2, .a (I l.length)), (3, .a (I (len8 l.length))), (8, .a (B true)), (9, .a (B true))]) (fun _ => []) (fun _ => True) (fun _ => 0) () ?_ ?_ trivial ?_
  · simp only [go_sem, simprocAttr]
  · simp only [go_sem, simprocAttr]
  intro _ j _
  by_cases h12 : 12 < l.length
  · have g1 : ¬ ((l.length : Int) ≤ 12) := by omega
    have g2 : ¬ ((len8 l.length : Int) = 0) := by unfold len8; rw [if_neg (by omega)]; omega
    (refine rO ?_; repeat' ((with_reducible first | refine rG ?_ | (refine rS ?_ ?_ <;> intro hp) | (refine rB ?_ ?_ <;> intro hb <;> try rw [hb]) | refine rD ?_ | refine rA ?_ | fail) <;> try simp only [go_sem, simprocAttr, e1, g1, g2]))
    refine call_dat (t1237 l hs h12 hl) ?_
    (refine rO ?_; repeat' ((with_reducible first | refine rG ?_ | (refine rS ?_ ?_ <;> intro hp) | (refine rB ?_ ?_ <;> intro hb <;> try rw [hb]) | refine rD ?_ | refine rA ?_ | fail) <;> try simp only [go_sem, simprocAttr]))
    refine call_dat (t1239 l hs h12 hl) ?_
    (refine rO ?_; repeat' ((with_reducible first | refine rG ?_ | (refine rS ?_ ?_ <;> intro hp) | (refine rB ?_ ?_ <;> intro hb <;> try rw [hb]) | refine rD ?_ | refine rA ?_ | fail) <;> try simp only [go_sem, simprocAttr]))
  · have g1 : ((l.length : Int) ≤ 12) := by omega
    (refine rO ?_; repeat' ((with_reducible first | refine rG ?_ | (refine rS ?_ ?_ <;> intro hp) | (refine rB ?_ ?_ <;> intro hb <;> try rw [hb]) | refine rD ?_ | refine rA ?_ | fail) <;> try simp only [go_sem, simprocAttr, e1, g1]))
    refine call_dat (t1234 l hs (by omega)) ?_
    (refine rO ?_; repeat' ((with_reducible first | refine rG ?_ | (refine rS ?_ ?_ <;> intro hp) | (refine rB ?_ ?_ <;> intro hb <;> try rw [hb]) | refine rD ?_ | refine rA ?_ | fail) <;> try simp only [go_sem, simprocAttr]))
theorem t1174 (l : List Nat) (hs : SrtN l) (hl : l.length ≤ 64) : Holds Tryd.prog GL 38 [unsA l] [] := by
  refine fn_holds (vs := []) (by kernel_rfl) Tryd.func38 rfl rfl (by kernel_rfl) (by kernel_rfl) rfl ?_
  have e1 : IntKind.u64.wrap (l.length : Int) = (l.length : Int) := by rw [IntKind.wrap_u64]; omega
  (refine rO ?_; repeat' ((with_reducible first | refine rG ?_ | (refine rS ?_ ?_ <;> intro hp) | (refine rB ?_ ?_ <;> intro hb <;> try rw [hb]) | refine rD ?_ | refine rA ?_ | fail) <;> try simp only [go_sem, simprocAttr, List.length_map, e1]))
  refine call_dat (t108 l.length hl) ?_
  (refine rO ?_; repeat' ((with_reducible first | refine rG ?_ | (refine rS ?_ ?_ <;> intro hp) | (refine rB ?_ ?_ <;> intro hb <;> try rw [hb]) | refine rD ?_ | refine rA ?_ | fail) <;> try simp only [go_sem, simprocAttr]))
  refine call_dat (t1214 l hs hl) ?_
  (refine rO ?_; repeat' ((with_reducible first | refine rG ?_ | (refine rS ?_ ?_ <;> intro hp) | (refine rB ?_ ?_ <;> intro hb <;> try rw [hb]) | refine rD ?_ | refine rA ?_ | fail) <;> try simp only [go_sem, simprocAttr]))
end Go.VC
end
section
set_option maxRecDepth 100000
set_option linter.unusedSimpArgs false
set_option linter.unusedVariables false
set_option linter.unnecessarySimpa false
namespace Go.VC
open Go.RowKit Go.Proofs Go.IntWalk
/-- Is a transaction in a state? -/
def isSt (l : List Txn) (s : Int) (i : Nat) : Bool := match l[i]? with
  | some t => decide (t.st = s)
  | none => false
theorem t1172 (l : List Txn) (hl : l.length ≤ 30) (s : Int) : Holds Tryd.prog GL 36 [txnsA l, I s] [.a (U (bitsN (isSt l s) l.length))] := by
  refine fn_holds (vs := [.tmp 4]) (by kernel_rfl) Tryd.func36 rfl rfl (by kernel_rfl) (by kernel_rfl) rfl ?_
  (refine rO ?_; repeat' ((with_reducible first | refine rG ?_ | (refine rS ?_ ?_ <;> intro hp) | (refine rB ?_ ?_ <;> intro hb <;> try rw [hb]) | refine rD ?_ | refine rA ?_ | fail) <;> try simp only [go_sem, simprocAttr, List.length_map]))
  refine awp_loopA (fun k : Nat => [(1, .a (I s)), (5, .a (U (bitsN (isSt l s) k))), (8, .a (txnsA l)), (9, .a (I l.length)), (10, .a (I k))]) (fun _ => []) (fun k => k ≤ l.length) (l.length - ·) 0 ?_ ?_ (Nat.zero_le _) ?_
  · simp only [go_sem, simprocAttr, bitsN]; try rfl
  · simp only [go_sem, simprocAttr]
  intro k j hk
  (refine rO ?_; repeat' ((with_reducible first | refine rG ?_ | (refine rS ?_ ?_ <;> intro hp) | (refine rB ?_ ?_ <;> intro hb <;> try rw [hb]) | refine rD ?_ | refine rA ?_ | fail) <;> try simp only [go_sem, simprocAttr]))
  · have hkl : k < l.length := by omega
    have hw := wrap_succ (n := l.length) hkl (by simp only [maxLen]; omega)
    have hx : l[k]? = some l[k] := List.getElem?_eq_getElem hkl
    have hs : isSt l s k = decide (l[k].st = s) := by simp only [isSt, hx]
    have hs2 : bitsN (isSt l s) (k + 1) = bitsN (isSt l s) k + if isSt l s k then 2 ^ k else 0 := rfl
    generalize l[k] = x at hx hs
    have hlt := bits32 (isSt l s) (n := k) (by omega)
    have hlt3 : 2 ^ k < 2 ^ 32 := Nat.pow_lt_pow_right (by omega) (by omega)
    have hor := bitsN_or (isSt l s) k
    (refine rO ?_; repeat' ((with_reducible first | refine rG ?_ | (refine rS ?_ ?_ <;> intro hp) | (refine rB ?_ ?_ <;> intro hb <;> try rw [hb]) | refine rD ?_ | refine rA ?_ | fail) <;> try simp only [go_sem, simprocAttr, hx, Txn.enc_eq, hw, u32_shl (k := k) (by omega), u32_or hlt hlt3]))
    · rw [hs, decide_eq_true ‹_›, if_pos rfl, ← hor] at hs2
      (refine ⟨k + 1, ?_, ?_, hkl, by dsimp only; omega⟩ <;> simp only [go_sem, simprocAttr, hs2, hw])
    · rw [hs, decide_eq_false ‹_›] at hs2
      simp only [Bool.false_eq_true, if_false, Nat.add_zero] at hs2
      (refine ⟨k + 1, ?_, ?_, hkl, by dsimp only; omega⟩ <;> simp only [go_sem, simprocAttr, hs2, hw])
  · rw [show k = l.length by omega]
theorem c1172 {l : List Txn} (hl : l.length ≤ 30) {s : Int} {dst : Option Tmp} {σ : S} {K : S → Prop} (hK : σ.ret dst [.a (U (bitsN (isSt l s) l.length))] K) : callV Tryd.prog GL 36 [.a (txnsA l), .a (I s)] dst σ K := call_dat (t1172 l hl s) hK
/-- The subset of what is open behind another one. -/
def subN (o s : Nat) : Nat := (s + 4294967296 - o) % 4294967296 &&& o
theorem u32_sub {a b : Nat} (ha : a < 2 ^ 32) (hb : b < 2 ^ 32) : IntKind.u32.wrap ((a : Int) - (b : Int)) = (((a + 4294967296 - b) % 4294967296 : Nat) : Int) := by
  rw [IntKind.wrap_u32]; omega
theorem t1173 (o s : Nat) (ho : o < 2 ^ 32) (hs : s < 2 ^ 32) : Holds Tryd.prog GL 37 [U s, .d (.pt [.v (.int .u32 o)])] [.a (U (subN o s))] := by
  refine fn_holds (vs := [.tmp 3]) (by kernel_rfl) Tryd.func37 rfl rfl (by kernel_rfl) (by kernel_rfl) rfl ?_
  (refine rO ?_; repeat' ((with_reducible first | refine rG ?_ | (refine rS ?_ ?_ <;> intro hp) | (refine rB ?_ ?_ <;> intro hb <;> try rw [hb]) | refine rD ?_ | refine rA ?_ | fail) <;> try simp only [go_sem, simprocAttr, u32_sub hs ho, u32_and (Nat.mod_lt (s + 4294967296 - o) (show 0 < 4294967296 by decide)) ho]))
  rfl
/-- Subsets that are not empty, rising. -/
def subsO (o : Nat) : List Nat := (List.range 64).filter fun s => decide (s &&& o = s) && decide (s ≠ 0)
theorem subs_next : ∀ o : Fin 64, (subN o.val 0 = (subsO o.val).getD 0 0) ∧ ∀ j : Fin 64, j.val < (subsO o.val).length → subN o.val ((subsO o.val).getD j.val 0) = (subsO o.val).getD (j.val + 1) 0 := by decide +kernel
theorem subs_pos : ∀ o : Fin 64, ∀ s ∈ subsO o.val, s ≠ 0 ∧ s < 64 := by
  intro o s hs
  simp only [subsO, List.mem_filter, List.mem_range, Bool.and_eq_true, decide_eq_true_eq] at hs
  exact ⟨hs.2.2, hs.1⟩
def choicesN (d o : Nat) : List Nat := d :: (subsO o).map (d ||| ·)
theorem choices_len (d o : Nat) : (choicesN d o).length ≤ 64 := by
  have : (subsO o).length ≤ 63 := by
    have h1 : subsO o = ((List.range 64).filter fun s => decide (s ≠ 0)).filter fun s => decide (s &&& o = s) := by rw [List.filter_filter]; rfl
    rw [h1]
    exact Nat.le_trans (List.length_filter_le _ _) (by decide)
  simp [choicesN]; omega
theorem choices_srt : ∀ d o : Fin 64, d.val &&& o.val = 0 → ∀ i : Fin 64, i.val + 1 < (choicesN d.val o.val).length → (choicesN d.val o.val).getD i.val 0 ≤ (choicesN d.val o.val).getD (i.val + 1) 0 := by decide +kernel
theorem choices_filter : ∀ d o : Fin 64, d.val &&& o.val = 0 → choicesN d.val o.val = (List.range 64).filter fun n => decide (n &&& d.val = d.val) && decide (n &&& (d.val ||| o.val) = n) := by decide +kernel
theorem st_disj (l : List Txn) (n : Nat) : bitsN (isSt l 2) n &&& bitsN (isSt l 1) n = 0 := by
  refine Nat.eq_of_testBit_eq fun k => ?_
  rw [Nat.testBit_and, bitsN_test, bitsN_test, Nat.zero_testBit]
  have : (isSt l 2 k && isSt l 1 k) = false := by
    unfold isSt
    cases l[k]? with
    | none => rfl
    | some t =>
      dsimp only
      by_cases h : t.st = 2
      · rw [h]; rfl
      · rw [decide_eq_false h]; rfl
  cases h1 : isSt l 2 k <;> cases h2 : isSt l 1 k <;> simp_all
theorem st64 (l : List Txn) (s : Int) (hl : l.length ≤ 6) : bitsN (isSt l s) l.length < 64 :=
  Nat.lt_of_lt_of_le (bitsN_lt _ _) (Nat.pow_le_pow_right (show 0 < 2 by omega) hl)
/-- The choices of a table. -/
def choicesL (l : List Txn) : List Nat := choicesN (bitsN (isSt l 2) l.length) (bitsN (isSt l 1) l.length)
theorem choices_sorted {l : List Txn} (hl : l.length ≤ 6) : SrtN (choicesL l) := by
  intro i x y hx hy
  have h1 := (List.getElem?_eq_some_iff.1 hy).1
  have h64 := choices_len (bitsN (isSt l 2) l.length) (bitsN (isSt l 1) l.length)
  unfold choicesL at hx hy h1
  have h := choices_srt ⟨_, st64 l 2 hl⟩ ⟨_, st64 l 1 hl⟩ (st_disj l _) ⟨i, by omega⟩ h1
  simp only [List.getD, hx, hy, Option.getD_some] at h
  exact h
theorem t1112 (l : List Txn) (hl : l.length ≤ 6) : Holds Tryd.prog GL 20 [txnsA l] [.a (unsA (choicesL l))] := by
  refine fn_holds (vs := [.tmp 2]) (by kernel_rfl) Tryd.func20 rfl rfl (by kernel_rfl) (by kernel_rfl) rfl ?_
  have hd := st64 l 2 hl
  have ho := st64 l 1 hl
  have hsrt := choices_sorted hl
  have hlen := choices_len (bitsN (isSt l 2) l.length) (bitsN (isSt l 1) l.length)
  unfold choicesL at hsrt ⊢
  (refine rO ?_; repeat' ((with_reducible first | refine rG ?_ | (refine rS ?_ ?_ <;> intro hp) | (refine rB ?_ ?_ <;> intro hb <;> try rw [hb]) | refine rD ?_ | refine c1172 (by omega) ?_ | refine rA ?_ | fail) <;> try simp only [go_sem, simprocAttr]))
  generalize bitsN (isSt l 2) l.length = d at *
  generalize bitsN (isSt l 1) l.length = o at *
  have hn := subs_next ⟨o, ho⟩
  have hp := subs_pos ⟨o, ho⟩
  dsimp only at hn hp
  have hsl : (subsO o).length ≤ 63 := by simp only [choicesN, List.length_cons, List.length_map] at hlen; omega
  refine call_dat (t1173 o 0 (by omega) (by omega)) ?_
  rw [hn.1]
  (refine rO ?_; repeat' ((with_reducible first | refine rG ?_ | (refine rS ?_ ?_ <;> intro hp) | (refine rB ?_ ?_ <;> intro hb <;> try rw [hb]) | refine rD ?_ | refine rA ?_ | fail) <;> try simp only [go_sem, simprocAttr]))
  refine awp_loopA (fun k : Nat => [(3, .a (U d)), (5, .a (.d (.fn 37 [.pt [.v (.int .u32 o)]]))), (6, .own 14), (7, .a (U ((subsO o).getD k 0)))]) (fun k => [(14, .log 23 1 ((d :: ((subsO o).take k).map (d ||| ·)).map uenc))]) (fun k => k ≤ (subsO o).length) ((subsO o).length - ·) 0 ?_ ?_ (Nat.zero_le _) ?_
  · simp only [go_sem, simprocAttr]
  · simp only [go_sem, simprocAttr]; try rfl
  intro k j hk
  by_cases hkl : k < (subsO o).length
  · have hx : (subsO o).getD k 0 = (subsO o)[k] := by simp [List.getD, hkl]
    have hx2 := hp _ (List.getElem_mem hkl)
    have hnx := hn.2 ⟨k, by simp [choicesN] at hlen; omega⟩ hkl
    dsimp only at hnx
    have ht : (subsO o).take (k + 1) = (subsO o).take k ++ [(subsO o)[k]] := List.take_succ_eq_append_getElem hkl
    rw [hx] at hnx ⊢
    generalize (subsO o)[k] = s at hx2 hnx ht
    have h0 : ¬ ((s : Int) = 0) := by omega
    (refine rO ?_; repeat' ((with_reducible first | refine rG ?_ | (refine rS ?_ ?_ <;> intro hp) | (refine rB ?_ ?_ <;> intro hb <;> try rw [hb]) | refine rD ?_ | refine rA ?_ | fail) <;> try simp only [go_sem, simprocAttr, h0, u32_or (a := d) (b := s) (by omega) (by omega)]))
    refine call_dat (t1173 o s (by omega) (by omega)) ?_
    rw [hnx]
    (refine rO ?_; repeat' ((with_reducible first | refine rG ?_ | (refine rS ?_ ?_ <;> intro hp) | (refine rB ?_ ?_ <;> intro hb <;> try rw [hb]) | refine rD ?_ | refine rA ?_ | fail) <;> try simp only [go_sem, simprocAttr, u32_or (a := d) (b := s) (by omega) (by omega)]))
    (refine ⟨k + 1, ?_, ?_, hkl, by dsimp only; omega⟩ <;> simp only [go_sem, simprocAttr, ht, List.map_append, uenc_eq, u32_or (a := d) (b := s) (by omega) (by omega)])
  · have hx : (subsO o).getD k 0 = 0 := by simp [List.getD, List.getElem?_eq_none (show (subsO o).length ≤ k by omega)]
    rw [hx]
    have ht : (subsO o).take k = subsO o := List.take_of_length_le (by omega)
    rw [ht]
    (refine rO ?_; repeat' ((with_reducible first | refine rG ?_ | (refine rS ?_ ?_ <;> intro hp) | (refine rB ?_ ?_ <;> intro hb <;> try rw [hb]) | refine rD ?_ | refine rA ?_ | fail) <;> try simp only [go_sem, simprocAttr]))
    refine call_own _ (t1174 (choicesN d o) hsrt hlen) (by simp only [go_sem, simprocAttr, argsA, argA] <;> rfl) rfl ?_
    (refine rO ?_; repeat' ((with_reducible first | refine rG ?_ | (refine rS ?_ ?_ <;> intro hp) | (refine rB ?_ ?_ <;> intro hb <;> try rw [hb]) | refine rD ?_ | refine rA ?_ | fail) <;> try simp only [go_sem, simprocAttr]))
    rfl
def choicesV (h : List Ev) : List Nat := if checkE h = 0 then choicesL (txns h) else []
theorem t1042 (h : List Ev) : Holds Tryd.prog GL 6 [evsA h] [.a (unsA (choicesV h)), .a (I (checkE h))] := by
  refine fn_holds (vs := [.tmp 2, .tmp 3]) (by kernel_rfl) Tryd.func6 rfl rfl (by kernel_rfl) (by kernel_rfl) rfl ?_
  have hl6 := txns_len6 h
  unfold choicesV
  by_cases h0 : checkE h = 0
  · rw [h0, if_pos rfl]
    have h56 := t56 h
    rw [tabD_txns, h0] at h56
    generalize txns h = T at *
    (refine rO ?_; repeat' ((with_reducible first | refine rG ?_ | (refine rS ?_ ?_ <;> intro hp) | (refine rB ?_ ?_ <;> intro hb <;> try rw [hb]) | refine rD ?_ | refine rA ?_ | fail) <;> try simp only [go_sem, simprocAttr]))
    refine call_dat h56 ?_
    (refine rO ?_; repeat' ((with_reducible first | refine rG ?_ | (refine rS ?_ ?_ <;> intro hp) | (refine rB ?_ ?_ <;> intro hb <;> try rw [hb]) | refine rD ?_ | refine rA ?_ | fail) <;> try simp only [go_sem, simprocAttr]))
    refine call_dat (t1112 T hl6) ?_
    (refine rO ?_; repeat' ((with_reducible first | refine rG ?_ | (refine rS ?_ ?_ <;> intro hp) | (refine rB ?_ ?_ <;> intro hb <;> try rw [hb]) | refine rD ?_ | refine rA ?_ | fail) <;> try simp only [go_sem, simprocAttr]))
  · rw [if_neg h0]
    have h56 := t56 h
    rw [tabD_txns] at h56
    generalize checkE h = c at *
    generalize txns h = T at *
    (refine rO ?_; repeat' ((with_reducible first | refine rG ?_ | (refine rS ?_ ?_ <;> intro hp) | (refine rB ?_ ?_ <;> intro hb <;> try rw [hb]) | refine rD ?_ | refine rA ?_ | fail) <;> try simp only [go_sem, simprocAttr]))
    refine call_dat h56 ?_
    (refine rO ?_; repeat' ((with_reducible first | refine rG ?_ | (refine rS ?_ ?_ <;> intro hp) | (refine rB ?_ ?_ <;> intro hb <;> try rw [hb]) | refine rD ?_ | refine rA ?_ | fail) <;> try simp only [go_sem, simprocAttr, h0]))
end Go.VC
end
section
set_option maxRecDepth 100000
set_option linter.unusedSimpArgs false
set_option linter.unusedVariables false
set_option linter.unnecessarySimpa false
namespace Go.VC
open Go.RowKit Go.Proofs Go.IntWalk
/-- The kinds of events that end a transaction. -/
def endK (t : Txn) (last : Int) (c : Bool) : List Int := if t.st ≥ 2 then [] else if t.st = 1 ∧ c = true then [7] else if last = 1 ∨ last = 3 ∨ last = 5 then [8, 9] else [9]
def endEv (t : Txn) (last : Int) (c : Bool) : List Ev := (endK t last c).map fun k => ⟨k, t.name, 0, 0⟩
theorem t1113 (t : Txn) (last : Int) (c : Bool) : Holds Tryd.prog GL 23 [t.a, I last, B c] [.a (evsA (endEv t last c))] := by
  refine fn_holds (vs := [.tmp 6]) (by kernel_rfl) Tryd.func23 rfl rfl (by kernel_rfl) (by kernel_rfl) rfl ?_
  obtain ⟨nm, fi, la, st, ops⟩ := t
  unfold endEv
  have ha : ([1, 3, 5] : List Int).any (fun y => last == y) = decide (last = 1 ∨ last = 3 ∨ last = 5) := by
    simp [Bool.beq_eq_decide_eq, Bool.decide_or]
  cases c with
  | true =>
    (refine rO ?_; repeat' ((with_reducible first | refine rG ?_ | (refine rS ?_ ?_ <;> intro hp) | (refine rB ?_ ?_ <;> intro hb <;> try rw [hb]) | refine rD ?_ | refine rA ?_ | fail) <;> try simp only [go_sem, simprocAttr]))
    · rw [endK, if_pos ‹_›]; rfl
    · rw [endK, if_neg ‹_›, if_pos ⟨‹_›, rfl⟩]
      refine awp_loopA (fun k : Nat => [(3, .ref 3 0), (8, .own 8), (29, .own 23), (30, .a (I ([7] : List Int).length)), (31, .a (I k))]) (fun k => [(3, .box [.a (I nm), .a (I fi), .a (I la), .a (I st), .a (.d (.sl (ops.map Op.enc)))]), (8, .log 52 4 (((([7] : List Int).take k).map (fun k => (⟨k, nm, 0, 0⟩ : Ev))).map Ev.enc)), (23, .log 3 1 (([7] : List Int).map ienc))]) (fun k => k ≤ ([7] : List Int).length) (([7] : List Int).length - ·) 0 ?_ ?_ (Nat.zero_le _) ?_
      · simp only [go_sem, simprocAttr]; try rfl
      · simp only [go_sem, simprocAttr]; try rfl
      intro k j hk
      generalize hks : ([7] : List Int) = ks at *
      have hkl3 : ks.length ≤ 3 := by rw [← hks]; decide
      (refine rO ?_; repeat' ((with_reducible first | refine rG ?_ | (refine rS ?_ ?_ <;> intro hp) | (refine rB ?_ ?_ <;> intro hb <;> try rw [hb]) | refine rD ?_ | refine rA ?_ | fail) <;> try simp only [go_sem, simprocAttr, List.length_map]))
      · have hkl : k < ks.length := by omega
        have hw := wrap_succ (n := ks.length) hkl (by simp only [maxLen]; omega)
        have hx : ks[k]? = some ks[k] := List.getElem?_eq_getElem hkl
        have ht : ks.take (k + 1) = ks.take k ++ [ks[k]] := List.take_succ_eq_append_getElem hkl
        generalize ks[k] = q at hx ht
        have htl : (ks.take k).length ≤ 3 := by simp; omega
        (refine rO ?_; repeat' ((with_reducible first | refine rG ?_ | (refine rS ?_ ?_ <;> intro hp) | (refine rB ?_ ?_ <;> intro hb <;> try rw [hb]) | refine rD ?_ | refine rA ?_ | fail) <;> try simp only [go_sem, simprocAttr, hx, ienc_eq, hw, List.length_map]))
        (refine ⟨k + 1, ?_, ?_, hkl, by dsimp only; omega⟩ <;> simp only [go_sem, simprocAttr, hw, ht, List.map_append, Ev.enc_eq])
      · rw [List.take_of_length_le (by omega)]
    · refine call_own _ (t55 [1, 3, 5] last) (by simp only [go_sem, simprocAttr, argsA, argA] <;> rfl) rfl ?_
      rw [endK, if_neg ‹_›, if_neg (fun h => ‹¬ st = 1› h.1), ha]
      by_cases hl : last = 1 ∨ last = 3 ∨ last = 5
      · rw [if_pos hl, decide_eq_true hl]
        (refine rO ?_; repeat' ((with_reducible first | refine rG ?_ | (refine rS ?_ ?_ <;> intro hp) | (refine rB ?_ ?_ <;> intro hb <;> try rw [hb]) | refine rD ?_ | refine rA ?_ | fail) <;> try simp only [go_sem, simprocAttr]))
        refine awp_loopA (fun k : Nat => [(3, .ref 3 0), (8, .own 8), (29, .own 28), (30, .a (I ([8, 9] : List Int).length)), (31, .a (I k))]) (fun k => [(3, .box [.a (I nm), .a (I fi), .a (I la), .a (I st), .a (.d (.sl (ops.map Op.enc)))]), (8, .log 52 4 (((([8, 9] : List Int).take k).map (fun k => (⟨k, nm, 0, 0⟩ : Ev))).map Ev.enc)), (28, .log 3 1 (([8, 9] : List Int).map ienc))]) (fun k => k ≤ ([8, 9] : List Int).length) (([8, 9] : List Int).length - ·) 0 ?_ ?_ (Nat.zero_le _) ?_
        · simp only [go_sem, simprocAttr]; try rfl
        · simp only [go_sem, simprocAttr]; try rfl
        intro k j hk
        generalize hks : ([8, 9] : List Int) = ks at *
        have hkl3 : ks.length ≤ 3 := by rw [← hks]; decide
        (refine rO ?_; repeat' ((with_reducible first | refine rG ?_ | (refine rS ?_ ?_ <;> intro hp) | (refine rB ?_ ?_ <;> intro hb <;> try rw [hb]) | refine rD ?_ | refine rA ?_ | fail) <;> try simp only [go_sem, simprocAttr, List.length_map]))
        · have hkl : k < ks.length := by omega
          have hw := wrap_succ (n := ks.length) hkl (by simp only [maxLen]; omega)
          have hx : ks[k]? = some ks[k] := List.getElem?_eq_getElem hkl
          have ht : ks.take (k + 1) = ks.take k ++ [ks[k]] := List.take_succ_eq_append_getElem hkl
          generalize ks[k] = q at hx ht
          have htl : (ks.take k).length ≤ 3 := by simp; omega
          (refine rO ?_; repeat' ((with_reducible first | refine rG ?_ | (refine rS ?_ ?_ <;> intro hp) | (refine rB ?_ ?_ <;> intro hb <;> try rw [hb]) | refine rD ?_ | refine rA ?_ | fail) <;> try simp only [go_sem, simprocAttr, hx, ienc_eq, hw, List.length_map]))
          (refine ⟨k + 1, ?_, ?_, hkl, by dsimp only; omega⟩ <;> simp only [go_sem, simprocAttr, hw, ht, List.map_append, Ev.enc_eq])
        · rw [List.take_of_length_le (by omega)]
      · rw [if_neg hl, decide_eq_false hl]
        (refine rO ?_; repeat' ((with_reducible first | refine rG ?_ | (refine rS ?_ ?_ <;> intro hp) | (refine rB ?_ ?_ <;> intro hb <;> try rw [hb]) | refine rD ?_ | refine rA ?_ | fail) <;> try simp only [go_sem, simprocAttr]))
        refine awp_loopA (fun k : Nat => [(3, .ref 3 0), (8, .own 8), (29, .own 11), (30, .a (I ([9] : List Int).length)), (31, .a (I k))]) (fun k => [(3, .box [.a (I nm), .a (I fi), .a (I la), .a (I st), .a (.d (.sl (ops.map Op.enc)))]), (8, .log 52 4 (((([9] : List Int).take k).map (fun k => (⟨k, nm, 0, 0⟩ : Ev))).map Ev.enc)), (11, .log 3 1 (([9] : List Int).map ienc))]) (fun k => k ≤ ([9] : List Int).length) (([9] : List Int).length - ·) 0 ?_ ?_ (Nat.zero_le _) ?_
        · simp only [go_sem, simprocAttr]; try rfl
        · simp only [go_sem, simprocAttr]; try rfl
        intro k j hk
        generalize hks : ([9] : List Int) = ks at *
        have hkl3 : ks.length ≤ 3 := by rw [← hks]; decide
        (refine rO ?_; repeat' ((with_reducible first | refine rG ?_ | (refine rS ?_ ?_ <;> intro hp) | (refine rB ?_ ?_ <;> intro hb <;> try rw [hb]) | refine rD ?_ | refine rA ?_ | fail) <;> try simp only [go_sem, simprocAttr, List.length_map]))
        · have hkl : k < ks.length := by omega
          have hw := wrap_succ (n := ks.length) hkl (by simp only [maxLen]; omega)
          have hx : ks[k]? = some ks[k] := List.getElem?_eq_getElem hkl
          have ht : ks.take (k + 1) = ks.take k ++ [ks[k]] := List.take_succ_eq_append_getElem hkl
          generalize ks[k] = q at hx ht
          have htl : (ks.take k).length ≤ 3 := by simp; omega
          (refine rO ?_; repeat' ((with_reducible first | refine rG ?_ | (refine rS ?_ ?_ <;> intro hp) | (refine rB ?_ ?_ <;> intro hb <;> try rw [hb]) | refine rD ?_ | refine rA ?_ | fail) <;> try simp only [go_sem, simprocAttr, hx, ienc_eq, hw, List.length_map]))
          (refine ⟨k + 1, ?_, ?_, hkl, by dsimp only; omega⟩ <;> simp only [go_sem, simprocAttr, hw, ht, List.map_append, Ev.enc_eq])
        · rw [List.take_of_length_le (by omega)]
  | false =>
    (refine rO ?_; repeat' ((with_reducible first | refine rG ?_ | (refine rS ?_ ?_ <;> intro hp) | (refine rB ?_ ?_ <;> intro hb <;> try rw [hb]) | refine rD ?_ | refine rA ?_ | fail) <;> try simp only [go_sem, simprocAttr]))
    · rw [endK, if_pos ‹_›]; rfl
    all_goals (
      refine call_own _ (t55 [1, 3, 5] last) (by simp only [go_sem, simprocAttr, argsA, argA] <;> rfl) rfl ?_
      rw [endK, if_neg ‹_›, if_neg (fun h => by cases h.2), ha]
      by_cases hl : last = 1 ∨ last = 3 ∨ last = 5
      · rw [if_pos hl, decide_eq_true hl]
        (refine rO ?_; repeat' ((with_reducible first | refine rG ?_ | (refine rS ?_ ?_ <;> intro hp) | (refine rB ?_ ?_ <;> intro hb <;> try rw [hb]) | refine rD ?_ | refine rA ?_ | fail) <;> try simp only [go_sem, simprocAttr]))
        refine awp_loopA (fun k : Nat => [(3, .ref 3 0), (8, .own 8), (29, .own 28), (30, .a (I ([8, 9] : List Int).length)), (31, .a (I k))]) (fun k => [(3, .box [.a (I nm), .a (I fi), .a (I la), .a (I st), .a (.d (.sl (ops.map Op.enc)))]), (8, .log 52 4 (((([8, 9] : List Int).take k).map (fun k => (⟨k, nm, 0, 0⟩ : Ev))).map Ev.enc)), (28, .log 3 1 (([8, 9] : List Int).map ienc))]) (fun k => k ≤ ([8, 9] : List Int).length) (([8, 9] : List Int).length - ·) 0 ?_ ?_ (Nat.zero_le _) ?_
        · simp only [go_sem, simprocAttr]; try rfl
        · simp only [go_sem, simprocAttr]; try rfl
        intro k j hk
        generalize hks : ([8, 9] : List Int) = ks at *
        have hkl3 : ks.length ≤ 3 := by rw [← hks]; decide
        (refine rO ?_; repeat' ((with_reducible first | refine rG ?_ | (refine rS ?_ ?_ <;> intro hp) | (refine rB ?_ ?_ <;> intro hb <;> try rw [hb]) | refine rD ?_ | refine rA ?_ | fail) <;> try simp only [go_sem, simprocAttr, List.length_map]))
        · have hkl : k < ks.length := by omega
          have hw := wrap_succ (n := ks.length) hkl (by simp only [maxLen]; omega)
          have hx : ks[k]? = some ks[k] := List.getElem?_eq_getElem hkl
          have ht : ks.take (k + 1) = ks.take k ++ [ks[k]] := List.take_succ_eq_append_getElem hkl
          generalize ks[k] = q at hx ht
          have htl : (ks.take k).length ≤ 3 := by simp; omega
          (refine rO ?_; repeat' ((with_reducible first | refine rG ?_ | (refine rS ?_ ?_ <;> intro hp) | (refine rB ?_ ?_ <;> intro hb <;> try rw [hb]) | refine rD ?_ | refine rA ?_ | fail) <;> try simp only [go_sem, simprocAttr, hx, ienc_eq, hw, List.length_map]))
          (refine ⟨k + 1, ?_, ?_, hkl, by dsimp only; omega⟩ <;> simp only [go_sem, simprocAttr, hw, ht, List.map_append, Ev.enc_eq])
        · rw [List.take_of_length_le (by omega)]
      · rw [if_neg hl, decide_eq_false hl]
        (refine rO ?_; repeat' ((with_reducible first | refine rG ?_ | (refine rS ?_ ?_ <;> intro hp) | (refine rB ?_ ?_ <;> intro hb <;> try rw [hb]) | refine rD ?_ | refine rA ?_ | fail) <;> try simp only [go_sem, simprocAttr]))
        refine awp_loopA (fun k : Nat => [(3, .ref 3 0), (8, .own 8), (29, .own 11), (30, .a (I ([9] : List Int).length)), (31, .a (I k))]) (fun k => [(3, .box [.a (I nm), .a (I fi), .a (I la), .a (I st), .a (.d (.sl (ops.map Op.enc)))]), (8, .log 52 4 (((([9] : List Int).take k).map (fun k => (⟨k, nm, 0, 0⟩ : Ev))).map Ev.enc)), (11, .log 3 1 (([9] : List Int).map ienc))]) (fun k => k ≤ ([9] : List Int).length) (([9] : List Int).length - ·) 0 ?_ ?_ (Nat.zero_le _) ?_
        · simp only [go_sem, simprocAttr]; try rfl
        · simp only [go_sem, simprocAttr]; try rfl
        intro k j hk
        generalize hks : ([9] : List Int) = ks at *
        have hkl3 : ks.length ≤ 3 := by rw [← hks]; decide
        (refine rO ?_; repeat' ((with_reducible first | refine rG ?_ | (refine rS ?_ ?_ <;> intro hp) | (refine rB ?_ ?_ <;> intro hb <;> try rw [hb]) | refine rD ?_ | refine rA ?_ | fail) <;> try simp only [go_sem, simprocAttr, List.length_map]))
        · have hkl : k < ks.length := by omega
          have hw := wrap_succ (n := ks.length) hkl (by simp only [maxLen]; omega)
          have hx : ks[k]? = some ks[k] := List.getElem?_eq_getElem hkl
          have ht : ks.take (k + 1) = ks.take k ++ [ks[k]] := List.take_succ_eq_append_getElem hkl
          generalize ks[k] = q at hx ht
          have htl : (ks.take k).length ≤ 3 := by simp; omega
          (refine rO ?_; repeat' ((with_reducible first | refine rG ?_ | (refine rS ?_ ?_ <;> intro hp) | (refine rB ?_ ?_ <;> intro hb <;> try rw [hb]) | refine rD ?_ | refine rA ?_ | fail) <;> try simp only [go_sem, simprocAttr, hx, ienc_eq, hw, List.length_map]))
          (refine ⟨k + 1, ?_, ?_, hkl, by dsimp only; omega⟩ <;> simp only [go_sem, simprocAttr, hw, ht, List.map_append, Ev.enc_eq])
        · rw [List.take_of_length_le (by omega)])
end Go.VC
end
section
set_option maxRecDepth 100000
set_option linter.unusedSimpArgs false
set_option linter.unusedVariables false
set_option linter.unnecessarySimpa false
namespace Go.VC
open Go.RowKit Go.Proofs Go.IntWalk
theorem t1139 (l : List Nat) (x : Nat) : Holds Tryd.prog GL 39 [unsA l, U x] [.a (I (idxOf (fun y => x == y) l))] := by
  refine fn_holds_is (vs := [.tmp 4]) (by kernel_rfl) Tryd.func39 rfl rfl (by kernel_rfl) (by kernel_rfl) rfl fun his => ?_
  have hlen := his.1.len
  rw [List.length_map] at hlen
  simp only [go_sem, simprocAttr, List.length_map]
  refine awp_loopA (fun k : Nat => [(0, .a (unsA l)), (1, .a (U x)), (7, .a (I l.length)), (8, .a (I k))]) (fun _ => []) (fun k => k ≤ l.length ∧ noneTo (fun y => x == y) l k) (l.length - ·) 0 ?_ ?_ ⟨Nat.zero_le _, noneTo_0⟩ ?_
  · simp only [go_sem, simprocAttr]
  · simp only [go_sem, simprocAttr]
  intro k j ⟨hk, hl⟩
  (refine rO ?_; repeat' ((with_reducible first | refine rG ?_ | (refine rS ?_ ?_ <;> intro hp) | (refine rB ?_ ?_ <;> intro hb <;> try rw [hb]) | refine rD ?_ | refine rA ?_ | fail) <;> try simp only [go_sem, simprocAttr]))
  · have hkl : k < l.length := by omega
    have hx : l[k]? = some l[k] := List.getElem?_eq_getElem hkl
    have hw := wrap_succ hkl hlen
    (refine rO ?_; repeat' ((with_reducible first | refine rG ?_ | (refine rS ?_ ?_ <;> intro hp) | (refine rB ?_ ?_ <;> intro hb <;> try rw [hb]) | refine rD ?_ | refine rA ?_ | fail) <;> try simp only [go_sem, simprocAttr, hx, uenc_eq, hw]))
    · exact (idx_hit hkl hl (by simp; omega)).symm
    · exact ⟨k + 1, by simp only [go_sem, simprocAttr], by simp only [go_sem, simprocAttr], ⟨hkl, noneTo_s hkl hl (by simp; omega)⟩, by dsimp only; omega⟩
  · exact (idx_none (by omega) hl).symm
theorem c1139 {l : List Nat} {x : Nat} {dst : Option Tmp} {σ : S} {K : S → Prop} (hK : S.ret σ dst [.a (I (idxOf (fun y => x == y) l))] K) : callV Tryd.prog GL 39 [.a (unsA l), .a (U x)] dst σ K :=
  call_dat (t1139 l x) hK
theorem t1076 (l : List Nat) (x : Nat) : Holds Tryd.prog GL 21 [unsA l, U x] [.a (B (l.any (fun y => x == y)))] := by
  refine fn_holds (vs := [.tmp 4]) (by kernel_rfl) Tryd.func21 rfl rfl (by kernel_rfl) (by kernel_rfl) rfl ?_
  rw [← idx_ge]
  (refine rO ?_; repeat' ((with_reducible first | refine rG ?_ | (refine rS ?_ ?_ <;> intro hp) | (refine rB ?_ ?_ <;> intro hb <;> try rw [hb]) | refine rD ?_ | apply c1139 | refine rA ?_ | fail) <;> try simp only [go_sem, simprocAttr]))
  all_goals simp_all
theorem c1076 {l : List Nat} {x : Nat} {dst : Option Tmp} {σ : S} {K : S → Prop} (hK : S.ret σ dst [.a (B (l.any (fun y => x == y)))] K) : callV Tryd.prog GL 21 [.a (unsA l), .a (U x)] dst σ K :=
  call_dat (t1076 l x) hK
theorem takeK_last (kp : Kp) (i : Int) (e : Ev) : (takeK kp i e).last = i := by unfold takeK; split <;> (try split) <;> (try split) <;> rfl
theorem tab_last {h : List Ev} : ∀ k, ∀ kp ∈ tabAt h k, 0 ≤ kp.last ∧ kp.last < k
  | 0, kp, hk => by simp [tabAt] at hk
  | k + 1, kp, hk => by
    unfold tabAt at hk
    split at hk
    · rename_i e he
      unfold tabStep at hk
      split at hk
      · split at hk
        · rcases List.mem_or_eq_of_mem_set hk with h1 | h1
          · have := tab_last k kp h1; omega
          · rw [h1, takeK_last]; omega
        · have := tab_last k kp hk; omega
      · rcases List.mem_append.1 hk with h1 | h1
        · have := tab_last k kp h1; omega
        · simp only [List.mem_singleton] at h1
          rw [h1, newKp, takeK_last]; omega
    · have := tab_last k kp hk; omega
theorem txns_last {h : List Ev} {t : Txn} (ht : t ∈ txns h) : 0 ≤ t.last ∧ t.last < h.length := by
  unfold txns at ht
  split at ht
  · obtain ⟨kp, hk, rfl⟩ := List.mem_map.1 ht
    exact tab_last _ kp hk
  · cases ht
def kindAt (h : List Ev) (n : Int) : Int := match h[n.toNat]? with
  | some e => e.kind
  | none => 0
def endAt (h : List Ev) (l : List Txn) (C i : Nat) : List Ev := match l[i]? with
  | some t => endEv t (kindAt h t.last) (C.testBit i)
  | none => []
def endsTo (h : List Ev) (l : List Txn) (C k : Nat) : List Ev := ((List.range k).map (endAt h l C)).flatten
theorem endsTo_s (h : List Ev) (l : List Txn) (C k : Nat) : endsTo h l C (k + 1) = endsTo h l C k ++ endAt h l C k := by
  simp [endsTo, List.range_succ]
theorem endAt_len (h : List Ev) (l : List Txn) (C i : Nat) : (endAt h l C i).length ≤ 2 := by
  unfold endAt
  split
  · unfold endEv endK
    split
    · simp
    · split
      · simp
      · split <;> simp
  · simp
theorem endsTo_len (h : List Ev) (l : List Txn) (C : Nat) : ∀ k, (endsTo h l C k).length ≤ 2 * k
  | 0 => by simp [endsTo]
  | k + 1 => by
    have := endsTo_len h l C k
    have := endAt_len h l C k
    rw [endsTo_s, List.length_append]; omega
theorem q1113 {t : Txn} {last : Int} {c : Bool} {σ : S} {KR : R → Prop} (hK : KR (retR [evsA (endEv t last c)])) : callVQ Tryd.prog GL 23 [.a t.a, .a (I last), .a (B c)] σ KR :=
  callQ_dat (res := [evsA (endEv t last c)]) (t1113 t last c) hK
def compF (h : List Ev) (C : Nat) : List Ev := h ++ endsTo h (txns h) C (txns h).length
def compE (h : List Ev) (C : Nat) : Int := if checkE h = 0 then (if (choicesL (txns h)).any (fun y => C == y) = true then (if (compF h C).length > 60 then 5 else 0) else 1) else checkE h
def compV (h : List Ev) (C : Nat) : List Ev := if compE h C = 0 then compF h C else []
theorem t1043 (h : List Ev) (C : Nat) (hC : C < 2 ^ 32) : Holds Tryd.prog GL 7 [evsA h, U C] [.a (evsA (compV h C)), .a (I (compE h C))] := by
  refine fn_holds (vs := [.tmp 4, .tmp 5]) (by kernel_rfl) Tryd.func7 rfl rfl (by kernel_rfl) (by kernel_rfl) rfl ?_
  have hl6 := txns_len6 h
  have h56 := t56 h
  rw [tabD_txns] at h56
  unfold compV compE
  by_cases h0 : checkE h = 0
  · have h60 := check60 h0
    have hlast : ∀ t ∈ txns h, 0 ≤ t.last ∧ t.last < h.length := fun t ht => txns_last ht
    rw [h0] at h56 ⊢
    rw [if_pos rfl]
    unfold compF
    generalize txns h = T at *
    (refine rO ?_; repeat' ((with_reducible first | refine rG ?_ | (refine rS ?_ ?_ <;> intro hp) | (refine rB ?_ ?_ <;> intro hb <;> try rw [hb]) | refine rD ?_ | refine rA ?_ | fail) <;> try simp only [go_sem, simprocAttr]))
    refine call_dat h56 ?_
    (refine rO ?_; repeat' ((with_reducible first | refine rG ?_ | (refine rS ?_ ?_ <;> intro hp) | (refine rB ?_ ?_ <;> intro hb <;> try rw [hb]) | refine rD ?_ | refine rA ?_ | fail) <;> try simp only [go_sem, simprocAttr]))
    refine call_dat (t1112 T hl6) ?_
    (refine rO ?_; repeat' ((with_reducible first | refine rG ?_ | (refine rS ?_ ?_ <;> intro hp) | (refine rB ?_ ?_ <;> intro hb <;> try rw [hb]) | refine rD ?_ | refine rA ?_ | fail) <;> try simp only [go_sem, simprocAttr]))
    refine c1076 ?_
    cases hA : (choicesL T).any (fun y => C == y) with
    | false => (refine rO ?_; repeat' ((with_reducible first | refine rG ?_ | (refine rS ?_ ?_ <;> intro hp) | (refine rB ?_ ?_ <;> intro hb <;> try rw [hb]) | refine rD ?_ | refine rA ?_ | fail) <;> try simp only [go_sem, simprocAttr]))
    | true =>
      simp only [if_true]
      (refine rO ?_; repeat' ((with_reducible first | refine rG ?_ | (refine rS ?_ ?_ <;> intro hp) | (refine rB ?_ ?_ <;> intro hb <;> try rw [hb]) | refine rD ?_ | refine rA ?_ | fail) <;> try simp only [go_sem, simprocAttr]))
      refine call_dat (t52 h (by omega)) ?_
      (refine rO ?_; repeat' ((with_reducible first | refine rG ?_ | (refine rS ?_ ?_ <;> intro hp) | (refine rB ?_ ?_ <;> intro hb <;> try rw [hb]) | refine rD ?_ | refine rA ?_ | fail) <;> try simp only [go_sem, simprocAttr]))
      refine awp_loopA (fun k : Nat => [(0, .a (evsA h)), (1, .a (U C)), (8, .own 27), (28, .a (txnsA T)), (29, .a (I T.length)), (30, .a (I k))]) (fun k => [(27, .log 52 4 ((h ++ endsTo h T C k).map Ev.enc))]) (fun k => k ≤ T.length) (T.length - ·) 0 ?_ ?_ (Nat.zero_le _) ?_
      · simp only [go_sem, simprocAttr, List.length_map]
      · simp only [go_sem, simprocAttr]; simp [endsTo]
      intro k j hk
      have hel := endsTo_len h T C k
      (refine rO ?_; repeat' ((with_reducible first | refine rG ?_ | (refine rS ?_ ?_ <;> intro hp) | (refine rB ?_ ?_ <;> intro hb <;> try rw [hb]) | refine rD ?_ | refine rA ?_ | fail) <;> try simp only [go_sem, simprocAttr, List.length_map]))
      · have hkl : k < T.length := by omega
        have hw := wrap_succ (n := T.length) hkl (by simp only [maxLen]; omega)
        have hx : T[k]? = some T[k] := List.getElem?_eq_getElem hkl
        obtain ⟨g1, g2⟩ := hlast _ (List.getElem_mem hkl)
        have hS := endsTo_s h T C k
        have hE : endAt h T C k = endEv T[k] (kindAt h T[k].last) (C.testBit k) := by simp only [endAt, hx]
        have h2 := endAt_len h T C k
        rw [hE] at hS h2
        generalize T[k] = x at *
        have hm : h[x.last.toNat]? = some h[x.last.toNat] := List.getElem?_eq_getElem (by omega)
        have hK : kindAt h x.last = h[x.last.toNat].kind := by simp only [kindAt, hm]
        rw [hK] at hS h2
        generalize h[x.last.toNat] = y at hm hS h2
        have hbit := u32_bit (k := k) hC
        generalize C.testBit k = cb at hbit hS h2
        cases cb with
        | true =>
          simp only [if_true] at hbit
          (refine rO ?_; repeat' ((with_reducible first | refine rG ?_ | (refine rS ?_ ?_ <;> intro hp) | (refine rB ?_ ?_ <;> intro hb <;> try rw [hb]) | refine rD ?_ | refine rA ?_ | fail) <;> try simp only [go_sem, simprocAttr, hx, hm, g1, Txn.enc_eq, Ev.enc_eq, hw, u32_shr (k := k) (by omega), hbit]))
          refine q1113 (t := x) ?_
          have hcl : (h ++ endsTo h T C k).length ≤ 1000 := by rw [List.length_append]; omega
          (refine rO ?_; repeat' ((with_reducible first | refine rG ?_ | (refine rS ?_ ?_ <;> intro hp) | (refine rB ?_ ?_ <;> intro hb <;> try rw [hb]) | refine rD ?_ | refine rA ?_ | fail) <;> try simp only [go_sem, simprocAttr, hw, List.length_map]))
          (refine ⟨k + 1, ?_, ?_, hkl, by dsimp only; omega⟩ <;> simp only [go_sem, simprocAttr, hw, hS, List.map_append, List.append_assoc])
        | false =>
          simp only [Bool.false_eq_true, if_false] at hbit
          (refine rO ?_; repeat' ((with_reducible first | refine rG ?_ | (refine rS ?_ ?_ <;> intro hp) | (refine rB ?_ ?_ <;> intro hb <;> try rw [hb]) | refine rD ?_ | refine rA ?_ | fail) <;> try simp only [go_sem, simprocAttr, hx, hm, g1, Txn.enc_eq, Ev.enc_eq, hw, u32_shr (k := k) (by omega), hbit]))
          refine q1113 (t := x) ?_
          have hcl : (h ++ endsTo h T C k).length ≤ 1000 := by rw [List.length_append]; omega
          (refine rO ?_; repeat' ((with_reducible first | refine rG ?_ | (refine rS ?_ ?_ <;> intro hp) | (refine rB ?_ ?_ <;> intro hb <;> try rw [hb]) | refine rD ?_ | refine rA ?_ | fail) <;> try simp only [go_sem, simprocAttr, hw, List.length_map]))
          (refine ⟨k + 1, ?_, ?_, hkl, by dsimp only; omega⟩ <;> simp only [go_sem, simprocAttr, hw, hS, List.map_append, List.append_assoc])
      · obtain rfl : k = T.length := by omega
        have h60' : (h ++ endsTo h T C T.length).length > 60 := by omega
        rw [if_pos h60']; exact ⟨rfl, rfl⟩
      · obtain rfl : k = T.length := by omega
        have h60' : ¬ (h ++ endsTo h T C T.length).length > 60 := by omega
        rw [if_neg h60']; exact ⟨rfl, rfl⟩
  · simp only [if_neg h0]
    generalize checkE h = c at *
    generalize txns h = T at *
    (refine rO ?_; repeat' ((with_reducible first | refine rG ?_ | (refine rS ?_ ?_ <;> intro hp) | (refine rB ?_ ?_ <;> intro hb <;> try rw [hb]) | refine rD ?_ | refine rA ?_ | fail) <;> try simp only [go_sem, simprocAttr]))
    refine call_dat h56 ?_
    (refine rO ?_; repeat' ((with_reducible first | refine rG ?_ | (refine rS ?_ ?_ <;> intro hp) | (refine rB ?_ ?_ <;> intro hb <;> try rw [hb]) | refine rD ?_ | refine rA ?_ | fail) <;> try simp only [go_sem, simprocAttr, h0]))
end Go.VC
end
section
set_option maxRecDepth 100000
set_option linter.unusedSimpArgs false
set_option linter.unusedVariables false
namespace Go.VC
open Go.RowKit Go.Proofs Go.IntWalk
/-- What a closure's call keeps of its caller, but for the variable n. -/
structure KeepsC (vs : List Value) (n : Nat) (σ0 σ : S) : Prop where
  fr : σ.mem 999999 = some (.frame vs (upF σ0.regs))
  ob : ∀ o x, (o == n) = false → decide (o < 900000000) = true → σ0.mem o = some x → σ.mem (upId o) = some x.up
structure LeftC (n : Nat) (σ σ' : S) : Prop where
  r : ∀ {t : Nat} {r : R}, σ.regs t = r → r.up.down = r → σ'.regs t = r
  m : ∀ {o : Nat} {x : Ob}, (o == n) = false → decide (o < 900000000) = true → σ.mem o = some x → x.up.down = x → σ'.mem o = some x
end Go.VC
end
section
set_option maxRecDepth 100000
set_option linter.unusedSimpArgs false
set_option linter.unusedVariables false
namespace Go.VC
open Go.RowKit Go.Proofs
/-- A type of pairs of numbers. -/
structure PairT (P : Program) (k : TypeId) : Prop where
  ex : ∃ (f0 f1 : Field) (t : TypeId) (i : TypeInfo), P.underlying k = some (.struct #[f0, f1]) ∧ f0.name ≠ "_" ∧ f1.name ≠ "_" ∧ f0.offset = 0 ∧ f1.offset = 1 ∧ f0.type = t ∧ f1.type = t ∧ P.underlying t = some (.int .i64) ∧ P.stoodInHeld k = false
def pairV (p : Int × Int) : Value := .agg #[.int .i64 p.1, .int .i64 p.2]
section
variable {P : Program} {k : TypeId} {w : World}
/-- A map by pairs: what it holds. -/
def pGet : List ((Int × Int) × Int) → Int × Int → Option Int
  | [], _ => none
  | (k, x) :: kv, n => if k = n then some x else pGet kv n
def pSet : List ((Int × Int) × Int) → Int × Int → Int → List ((Int × Int) × Int)
  | [], n, x => [(n, x)]
  | (k, y) :: kv, n, x => if k = n then (n, x) :: kv else (k, y) :: pSet kv n x
end
/-- An object that is a map by pairs. -/
def PmIs (kv : List ((Int × Int) × Int)) (w : World) (bv : Value) : Prop :=
  ∃ (r clock : Nat) (es : Array MapEntry), bv = .map (some r) ∧ w.heap[r]? = some (.map es clock) ∧ es.size = kv.length ∧ MapKept.Stamped es clock ∧
    ∀ (i : Nat) (e : MapEntry) (p : (Int × Int) × Int), es[i]? = some e → kv[i]? = some p → e.key = pairV p.1 ∧ e.val = .int .i64 p.2
def pmap (kv : List ((Int × Int) × Int)) : SemOb where
  os := []
  p := fun _ _ w bv => PmIs kv w bv
  lt := fun h b hb => by
    obtain ⟨r, clock, es, rfl, hh, _⟩ := h
    cases hb
    exact (Array.getElem?_eq_some_iff.1 hh).1
  mono := fun H h k => by
    obtain ⟨r, clock, es, rfl, hh, hr⟩ := h
    exact ⟨r, clock, es, rfl, (k r rfl).trans hh, hr⟩
  dep := fun _ h => h
end Go.VC
end
section
set_option maxRecDepth 100000
set_option linter.unusedSimpArgs false
set_option linter.unusedVariables false
namespace Go.VC
open Go.RowKit Go.Proofs Go.IntWalk
def rowsA (rs : List Kp) : A := .d (.sl (rs.map Kp.row))
abbrev PKv := List ((Int × Int) × Int)
/-- One operation of transaction i. -/
def wrOp (i : Int) (kv : PKv) (o : Op) : Option PKv :=
  if o.w = false then some kv else
  if (∃ v, pGet kv (o.var, o.val) = some v ∧ v ≠ i) ∨ o.val = 0 then none else some (pSet kv (o.var, o.val) i)
def wrOps (i : Int) : List Op → PKv → Option PKv
  | [], kv => some kv
  | o :: os, kv => (wrOp i kv o).bind (wrOps i os)
def wrAll : List Kp → Int → PKv → Option PKv
  | [], _, kv => some kv
  | r :: rs, i, kv => (wrOps i r.ops kv).bind (wrAll rs (i + 1))
/-- What the callee leaves of its caller. -/
structure Keeps (vs : List Value) (σ0 σ : S) : Prop where
  fr : σ.mem 999999 = some (.frame vs (upF σ0.regs))
  ob : ∀ o x, decide (o < 999000000) = true → σ0.mem o = some x → σ.mem (upId o) = some x.up
structure WrI (vs : List Value) (σ0 : S) (rs : List Kp) (k : Nat) (kv : PKv) (σ : S) : Prop where
  le : k ≤ rs.length
  eq : wrAll rs 0 [] = wrAll (rs.drop k) k kv
  r13 : σ.regs 13 = .a (rowsA rs)
  r14 : σ.regs 14 = .a (I rs.length)
  r15 : σ.regs 15 = .a (I k)
  r4 : σ.regs 4 = .omp 12
  m12 : σ.mem 12 = some (.sem (pmap kv))
  kp : Keeps vs σ0 σ
structure WrJ (vs : List Value) (σ0 : S) (rs : List Kp) (r : Kp) (k j : Nat) (kv : PKv) (σ : S) : Prop where
  le : j ≤ r.ops.length
  eq : wrAll rs 0 [] = (wrOps k (r.ops.drop j) kv).bind (wrAll (rs.drop (k + 1)) (k + 1))
  r13 : σ.regs 13 = .a (rowsA rs)
  r14 : σ.regs 14 = .a (I rs.length)
  r15 : σ.regs 15 = .a (I k)
  r5 : σ.regs 5 = .a (I k)
  r4 : σ.regs 4 = .omp 12
  r21 : σ.regs 21 = .a (.d (.sl (r.ops.map Op.enc)))
  r22 : σ.regs 22 = .a (I r.ops.length)
  r23 : σ.regs 23 = .a (I j)
  m12 : σ.mem 12 = some (.sem (pmap kv))
  kp : Keeps vs σ0 σ
end Go.VC
end
section
set_option maxRecDepth 100000
set_option linter.unusedSimpArgs false
set_option linter.unusedVariables false
namespace Go.VC
open Go.RowKit Go.Proofs Go.IntWalk
structure KeepsL (vs : List Value) (σ0 σ : S) : Prop where
  fr : σ.mem 999999 = some (.frame vs (upF σ0.regs))
  ob : ∀ o x, decide (o < 900000000) = true → σ0.mem o = some x → σ.mem (upId o) = some x.up
end Go.VC
end
section
set_option maxRecDepth 100000
set_option linter.unusedSimpArgs false
set_option linter.unusedVariables false
namespace Go.VC
open Go.RowKit Go.Proofs Go.IntWalk
def srcOf (kv : PKv) (i : Int) (o : Op) : Int := if o.val = 0 then -1 else match pGet kv (o.var, o.val) with
  | some v => if v = i then -2 else v
  | none => -2
end Go.VC
end
section
set_option maxRecDepth 100000
set_option linter.unusedSimpArgs false
set_option linter.unusedVariables false
namespace Go.VC
open Go.RowKit Go.Proofs Go.IntWalk
def encB (l : List (Int × Bool)) : List (Int × D) := l.map fun p => (p.1, dB p.2)
/-- Whose writes a transaction's operations read or are: behind a variable's first own write, its own. -/
def srcRow (kv : PKv) (i : Int) : List Op → List (Int × Bool) → List Int
  | [], _ => []
  | o :: os, own => (if (assoc own o.var).getD false || o.w then i else srcOf kv i o) :: srcRow kv i os (assocSet own o.var ((assoc own o.var).getD false || o.w))
def srcRows (kv : PKv) : List Kp → Int → List (List Int)
  | [], _ => []
  | r :: rs, i => srcRow kv i r.ops [] :: srcRows kv rs (i + 1)
def intRow (l : List Int) : List D := [.sl (l.map fun n => [dI n])]
structure SoI (rs : List Kp) (kv : PKv) (k : Nat) (σ : S) : Prop where
  le : k ≤ rs.length
  r5 : σ.regs 5 = .omp 800000
  r7 : σ.regs 7 = .own 7
  r23 : σ.regs 23 = .a (rowsA rs)
  r24 : σ.regs 24 = .a (I rs.length)
  r25 : σ.regs 25 = .a (I k)
  m8 : σ.mem 800000 = some (.sem (pmap kv))
  m7 : ∃ done : List (List Int), σ.mem 7 = some (.log 55 1 (done.map intRow)) ∧ done.length = k ∧ srcRows kv rs 0 = done ++ srcRows kv (rs.drop k) k
/-- The inner loop: what own holds of the operations ahead, what is told of them. -/
structure SoJ (rs : List Kp) (kv : PKv) (r : Kp) (k j : Nat) (done : List (List Int)) (σ : S) : Prop where
  le : j ≤ r.ops.length
  r5 : σ.regs 5 = .omp 800000
  r7 : σ.regs 7 = .own 7
  r23 : σ.regs 23 = .a (rowsA rs)
  r24 : σ.regs 24 = .a (I rs.length)
  r25 : σ.regs 25 = .a (I k)
  r8 : σ.regs 8 = .a (I k)
  r10 : σ.regs 10 = .own 10
  r11 : σ.regs 11 = .omp 30
  r32 : σ.regs 32 = .a (.d (.sl (r.ops.map Op.enc)))
  r33 : σ.regs 33 = .a (I r.ops.length)
  r34 : σ.regs 34 = .a (I j)
  m8 : σ.mem 800000 = some (.sem (pmap kv))
  m7 : σ.mem 7 = some (.log 55 1 (done.map intRow))
  m : ∃ (own : List (Int × Bool)) (out : List Int), σ.mem 30 = some (.mpo (encB own)) ∧ σ.mem 10 = some (.log 3 1 (out.map fun n => [dI n])) ∧ out.length = j ∧ srcRow kv k r.ops [] = out ++ srcRow kv k (r.ops.drop j) own
end Go.VC
end
section
set_option linter.unusedSimpArgs false
set_option linter.unusedVariables false
namespace Go.VC
open Go.RowKit Go.Proofs Go.IntWalk
def BadW (W : Nat → Int × Int → Prop) : Prop := (∃ j p, W j p ∧ p.2 = 0) ∨ ∃ j j' p, W j p ∧ W j' p ∧ j ≠ j'
theorem BadW.mono {W W' : Nat → Int × Int → Prop} (h : BadW W) (k : ∀ j p, W j p → W' j p) : BadW W' := by
  rcases h with ⟨j, p, h1, h2⟩ | ⟨j, j', p, h1, h2, h3⟩
  · exact .inl ⟨j, p, k _ _ h1, h2⟩
  · exact .inr ⟨j, j', p, k _ _ h1, k _ _ h2, h3⟩
end Go.VC
end
section
set_option maxRecDepth 100000
set_option linter.unusedSimpArgs false
set_option linter.unusedVariables false
set_option linter.unnecessarySimpa false
namespace Go.VC
open Go.RowKit Go.Proofs Go.IntWalk
/-- Sources of a table. -/
structure SrcT (l : List Txn) (sr : List (List Int)) : Prop where
  len : sr.length = l.length
  row : ∀ (t : Nat) (x : Txn) (r : List Int), l[t]? = some x → sr[t]? = some r → r.length = x.ops.length
  src : ∀ (t : Nat) (r : List Int) (s : Int), sr[t]? = some r → s ∈ r → s = -1 ∨ s = -2 ∨ ∃ k : Nat, s = k ∧ k < l.length
end Go.VC
namespace Go.VC
open Go.RowKit Go.Proofs Go.IntWalk
/-- What a call keeps of its caller's registers and objects below B, but for the object n. -/
structure KeepsB (B : Nat) (vs : List Value) (n : Nat) (σ0 σ : S) : Prop where
  fr : σ.mem 999999 = some (.frame vs (upF σ0.regs))
  ob : ∀ o x, (o == n) = false → decide (o < B) = true → σ0.mem o = some x → σ.mem (upId o) = some x.up
structure LeftB (B : Nat) (n : Nat) (σ σ' : S) : Prop where
  r : ∀ {t : Nat} {r : R}, σ.regs t = r → r.up.down = r → σ'.regs t = r
  m : ∀ {o : Nat} {x : Ob}, (o == n) = false → decide (o < B) = true → σ.mem o = some x → x.up.down = x → σ'.mem o = some x
end Go.VC
namespace Go.VC
open Go.RowKit Go.Proofs Go.IntWalk
def addE (rows : List Nat) (i k : Nat) : List Nat := match rows[i]? with
  | some b => rows.set i (b ||| 2 ^ k)
  | none => rows
structure RowsOk (n : Nat) (rows : List Nat) : Prop where
  len : rows.length = n
  lt : ∀ b ∈ rows, b < 2 ^ 32
end Go.VC
end
section
set_option maxRecDepth 100000
set_option linter.unusedSimpArgs false
set_option linter.unusedVariables false
set_option linter.unnecessarySimpa false
namespace Go.VC
open Go.RowKit Go.Proofs Go.IntWalk
/-- All bits of rows are in other rows. -/
structure LeR (a b : List Nat) : Prop where
  len : a.length = b.length
  bit : ∀ (i x y : Nat), a[i]? = some x → b[i]? = some y → ∀ q, x.testBit q = true → y.testBit q = true
theorem LeR.refl (a : List Nat) : LeR a a := ⟨rfl, fun i x y h1 h2 q h => by rw [h1] at h2; cases h2; exact h⟩
theorem or_bit {x k q : Nat} : (x ||| 2 ^ k).testBit q = (x.testBit q || decide (k = q)) := by
  rw [Nat.testBit_or, Nat.testBit_two_pow]
theorem addE_get {a : List Nat} {i k j x : Nat} (h : (addE a i k)[j]? = some x) : ∃ x0, a[j]? = some x0 ∧ ∀ q, x.testBit q = (x0.testBit q || (decide (i = j) && decide (k = q))) := by
  unfold addE at h
  split at h
  · rename_i b hb
    rw [List.getElem?_set] at h
    split at h
    · rename_i e
      subst e
      rw [if_pos (List.getElem?_eq_some_iff.1 hb).1] at h
      cases h
      exact ⟨b, hb, fun q => by rw [or_bit]; simp⟩
    · rename_i e
      exact ⟨x, h, fun q => by simp [e]⟩
  · rename_i hn
    exact ⟨x, h, fun q => by
      have : ¬ i = j := fun e => by subst e; rw [hn] at h; cases h
      simp [this]⟩
theorem addE_len {a : List Nat} {i k : Nat} : (addE a i k).length = a.length := by
  unfold addE; split <;> simp
theorem LeR.add {a b : List Nat} (h : LeR a b) (i k : Nat) : LeR (addE a i k) (addE b i k) := by
  refine ⟨by rw [addE_len, addE_len]; exact h.len, fun j x y hx hy q hq => ?_⟩
  obtain ⟨x0, hx0, ex⟩ := addE_get hx
  obtain ⟨y0, hy0, ey⟩ := addE_get hy
  rw [ex] at hq
  rw [ey]
  cases hx : x0.testBit q with
  | true => rw [h.bit j x0 y0 hx0 hy0 q hx]; rfl
  | false => rw [hx, Bool.false_or] at hq; rw [hq, Bool.or_true]
end Go.VC
end
section
set_option maxRecDepth 100000
set_option linter.unusedSimpArgs false
set_option linter.unusedVariables false
namespace Go.VC
open Go.RowKit Go.Proofs Go.IntWalk
theorem range_drop {n k : Nat} (h : k < n) : (List.range n).drop k = k :: (List.range n).drop (k + 1) := by
  rw [List.drop_eq_getElem_cons (by simpa using h)]; simp
end Go.VC
end
section
set_option maxRecDepth 100000
set_option linter.unusedSimpArgs false
set_option linter.unusedVariables false
set_option linter.unnecessarySimpa false
namespace Go.VC
open Go.RowKit Go.Proofs Go.IntWalk
theorem u32_half {c : Nat} (hc : c < 2 ^ 32) : IntKind.u32.wrap ((c : Int).tdiv 2) = ((c / 2 : Nat) : Int) := by
  have : (c : Int).tdiv 2 = ((c / 2 : Nat) : Int) := by rw [Int.tdiv_eq_ediv_of_nonneg (by omega)]; omega
  rw [this, u32_in _ (by omega)]
theorem t100 (C k : Nat) (hC : C < 2 ^ 32) (hk : k ≤ 1000) : Holds Tryd.prog GL 30 [U C, I k] [.a (B (C.testBit k))] := by
  refine fn_holds (vs := [.tmp 4]) (by kernel_rfl) Tryd.func30 rfl rfl (by kernel_rfl) (by kernel_rfl) rfl ?_
  (refine rO ?_; repeat' ((with_reducible first | refine rG ?_ | (refine rS ?_ ?_ <;> intro hp) | (refine rB ?_ ?_ <;> intro hb <;> try rw [hb]) | refine rD ?_ | refine rA ?_ | fail) <;> try simp only [go_sem, simprocAttr]))
  refine awp_loopA (fun j : Nat => [(0, .a (U (C / 2 ^ j))), (1, .a (I k)), (5, .a (I j))]) (fun _ => []) (fun j => j ≤ k) (k - ·) 0 ?_ ?_ (Nat.zero_le _) ?_
  · simp only [go_sem, simprocAttr, Nat.pow_zero, Nat.div_one]
  · simp only [go_sem, simprocAttr]
  intro j j2 hj
  have hm : ((C / 2 ^ j : Nat) : Int).tmod 2 = ((C / 2 ^ j % 2 : Nat) : Int) := by
    generalize C / 2 ^ j = q
    rw [Int.tmod_eq_emod_of_nonneg (by omega)]; omega
  (refine rO ?_; repeat' ((with_reducible first | refine rG ?_ | (refine rS ?_ ?_ <;> intro hp) | (refine rB ?_ ?_ <;> intro hb <;> try rw [hb]) | refine rD ?_ | refine rA ?_ | fail) <;> try simp only [go_sem, simprocAttr, hm]))
  · have hjl : j < k := by omega
    have hw := wrap_succ (n := k) hjl (by simp only [maxLen]; omega)
    have hh := u32_half (c := C / 2 ^ j) (Nat.lt_of_le_of_lt (Nat.div_le_self _ _) hC)
    have hs : C / 2 ^ (j + 1) = C / 2 ^ j / 2 := by rw [Nat.div_div_eq_div_mul, Nat.pow_succ]
    (refine rO ?_; repeat' ((with_reducible first | refine rG ?_ | (refine rS ?_ ?_ <;> intro hp) | (refine rB ?_ ?_ <;> intro hb <;> try rw [hb]) | refine rD ?_ | refine rA ?_ | fail) <;> try simp only [go_sem, simprocAttr, hw, hh]))
    (refine ⟨j + 1, ?_, ?_, hjl, by dsimp only; omega⟩ <;> simp only [go_sem, simprocAttr, hw, hh, hs])
  · obtain rfl : j = k := by omega
    rw [Nat.testBit_eq_decide_div_mod_eq, decide_eq_true (by omega)]
  · obtain rfl : j = k := by omega
    rw [Nat.testBit_eq_decide_div_mod_eq, decide_eq_false (by omega)]
theorem q100 {C k : Nat} (hC : C < 2 ^ 32) (hk : k ≤ 1000) {σ : S} {KR : R → Prop} (hK : KR (retR [B (C.testBit k)])) : callVQ Tryd.prog GL 30 [.a (U C), .a (I k)] σ KR :=
  callQ_dat (res := [B (C.testBit k)]) (t100 C k hC hk) hK
end Go.VC
end
section
set_option maxRecDepth 100000
set_option linter.unusedSimpArgs false
set_option linter.unusedVariables false
set_option linter.unnecessarySimpa false
namespace Go.VC
open Go.RowKit Go.Proofs Go.IntWalk
/-- Two rows of events are the same. -/
def sameE : List Ev → List Ev → Bool
  | [], [] => true
  | a :: l, b :: m => ([a.kind, a.tx, a.var, a.val] == [b.kind, b.tx, b.var, b.val]) && sameE l m
  | _, _ => false
theorem sameE_refl : ∀ l, sameE l l = true
  | [] => rfl
  | a :: l => by simp [sameE, sameE_refl l]
theorem sameE_len : ∀ {a b : List Ev}, sameE a b = true → a.length = b.length
  | [], [], _ => rfl
  | [], _ :: _, h => by simp [sameE] at h
  | _ :: _, [], h => by simp [sameE] at h
  | a :: l, b :: m, h => by
    simp only [sameE, Bool.and_eq_true] at h
    simp [sameE_len h.2]
theorem t1049 (a b : List Ev) (hal : a.length ≤ 1000000) : Holds Tryd.prog GL 15 [evsA a, evsA b] [.a (B (sameE a b))] := by
  refine fn_holds (vs := [.tmp 4]) (by kernel_rfl) Tryd.func15 rfl rfl (by kernel_rfl) (by kernel_rfl) rfl ?_
  by_cases hl : a.length = b.length
  · have hlI : (a.length : Int) = (b.length : Int) := by omega
    (refine rO ?_; repeat' ((with_reducible first | refine rG ?_ | (refine rS ?_ ?_ <;> intro hp) | (refine rB ?_ ?_ <;> intro hb <;> try rw [hb]) | refine rD ?_ | refine rA ?_ | fail) <;> try simp only [go_sem, simprocAttr, List.length_map, hlI]))
    refine awp_loopA (fun k : Nat => [(0, .a (evsA a)), (1, .a (evsA b)), (12, .a (I b.length)), (13, .a (I k))]) (fun _ => []) (fun k => k ≤ a.length ∧ sameE a b = sameE (a.drop k) (b.drop k)) (a.length - ·) 0 ?_ ?_ ⟨Nat.zero_le _, rfl⟩ ?_
    · simp only [go_sem, simprocAttr, hlI]
    · simp only [go_sem, simprocAttr]
    intro k j ⟨hk, hq⟩
    (refine rO ?_; repeat' ((with_reducible first | refine rG ?_ | (refine rS ?_ ?_ <;> intro hp) | (refine rB ?_ ?_ <;> intro hb <;> try rw [hb]) | refine rD ?_ | refine rA ?_ | fail) <;> try simp only [go_sem, simprocAttr]))
    · have hkl : k < a.length := by omega
      have hw := wrap_succ (n := a.length) hkl (by simp only [maxLen]; omega)
      have hx : a[k]? = some a[k] := List.getElem?_eq_getElem hkl
      have hy : b[k]? = some b[k] := List.getElem?_eq_getElem (by omega)
      rw [List.drop_eq_getElem_cons hkl, List.drop_eq_getElem_cons (show k < b.length by omega), sameE] at hq
      generalize a[k] = x at hx hq
      generalize b[k] = y at hy hq
      (refine rO ?_; repeat' ((with_reducible first | refine rG ?_ | (refine rS ?_ ?_ <;> intro hp) | (refine rB ?_ ?_ <;> intro hb <;> try rw [hb]) | refine rD ?_ | refine rA ?_ | fail) <;> try simp only [go_sem, simprocAttr, hx, hy, Ev.enc_eq, hw]))
      · rw [hq, show ([x.kind, x.tx, x.var, x.val] == [y.kind, y.tx, y.var, y.val]) = false from by rw [← Bool.not_eq_true']; exact hb]; rfl
      · rw [show ([x.kind, x.tx, x.var, x.val] == [y.kind, y.tx, y.var, y.val]) = true from by rw [← Bool.not_eq_false']; exact hb, Bool.true_and] at hq
        (refine ⟨k + 1, ?_, ?_, ⟨hkl, hq⟩, by dsimp only; omega⟩ <;> simp only [go_sem, simprocAttr, hw])
    · rw [hq, List.drop_eq_nil_of_le (by omega), List.drop_eq_nil_of_le (by omega)]; rfl
  · have hlI : ¬ (a.length : Int) = (b.length : Int) := by omega
    have hf : sameE a b = false := by
      cases h : sameE a b with
      | false => rfl
      | true => exact absurd (sameE_len h) hl
    rw [hf]
    (refine rO ?_; repeat' ((with_reducible first | refine rG ?_ | (refine rS ?_ ?_ <;> intro hp) | (refine rB ?_ ?_ <;> intro hb <;> try rw [hb]) | refine rD ?_ | refine rA ?_ | fail) <;> try simp only [go_sem, simprocAttr, List.length_map, hlI]))
def chOk (l : List Txn) (n i : Nat) : Bool := match l[i]? with
  | some t => !((n.testBit i && (!decide (t.st = 2) && !decide (t.st = 1))) || (!n.testBit i && decide (t.st = 2)))
  | none => true
def chFrom (l : List Txn) (n k : Nat) : Bool := ((List.range l.length).drop k).all (chOk l n)
def choiceB (l : List Txn) (n : Nat) : Bool := chFrom l n 0 && decide (n / 2 ^ l.length = 0)
theorem t1047 (l : List Txn) (hl : l.length ≤ 30) (n : Nat) (hn : n < 2 ^ 32) : Holds Tryd.prog GL 13 [txnsA l, U n] [.a (B (choiceB l n))] := by
  refine fn_holds (vs := [.tmp 4]) (by kernel_rfl) Tryd.func13 rfl rfl (by kernel_rfl) (by kernel_rfl) rfl ?_
  (refine rO ?_; repeat' ((with_reducible first | refine rG ?_ | (refine rS ?_ ?_ <;> intro hp) | (refine rB ?_ ?_ <;> intro hb <;> try rw [hb]) | refine rD ?_ | refine rA ?_ | fail) <;> try simp only [go_sem, simprocAttr, List.length_map]))
  refine awp_loopA (fun k : Nat => [(0, .a (txnsA l)), (1, .a (U n)), (7, .a (txnsA l)), (8, .a (I l.length)), (9, .a (I k))]) (fun _ => []) (fun k => k ≤ l.length ∧ chFrom l n 0 = chFrom l n k) (l.length - ·) 0 ?_ ?_ ⟨Nat.zero_le _, rfl⟩ ?_
  · simp only [go_sem, simprocAttr]
  · simp only [go_sem, simprocAttr]
  intro k j ⟨hk, hq⟩
  (refine rO ?_; repeat' ((with_reducible first | refine rG ?_ | (refine rS ?_ ?_ <;> intro hp) | (refine rB ?_ ?_ <;> intro hb <;> try rw [hb]) | refine rD ?_ | refine rA ?_ | fail) <;> try simp only [go_sem, simprocAttr]))
  · have hkl : k < l.length := by omega
    have hw := wrap_succ (n := l.length) hkl (by simp only [maxLen]; omega)
    have hx : l[k]? = some l[k] := List.getElem?_eq_getElem hkl
    have hs : chFrom l n k = (chOk l n k && chFrom l n (k + 1)) := by simp only [chFrom, range_drop hkl, List.all_cons]
    have hc : chOk l n k = !((n.testBit k && (!decide (l[k].st = 2) && !decide (l[k].st = 1))) || (!n.testBit k && decide (l[k].st = 2))) := by simp only [chOk, hx]
    rw [hs, hc] at hq
    generalize l[k] = x at hx hq
    (refine rO ?_; repeat' ((with_reducible first | refine rG ?_ | (refine rS ?_ ?_ <;> intro hp) | (refine rB ?_ ?_ <;> intro hb <;> try rw [hb]) | refine rD ?_ | refine rA ?_ | fail) <;> try simp only [go_sem, simprocAttr, hx, Txn.enc_eq]))
    refine call_dat (t100 n k hn (by omega)) ?_
    cases hB : n.testBit k <;> rw [hB] at hq
    · (refine rO ?_; repeat' ((with_reducible first | refine rG ?_ | (refine rS ?_ ?_ <;> intro hp) | (refine rB ?_ ?_ <;> intro hb <;> try rw [hb]) | refine rD ?_ | refine rA ?_ | fail) <;> try simp only [go_sem, simprocAttr, hx, Txn.enc_eq, hw]))
      refine call_dat (t100 n k hn (by omega)) ?_
      rw [hB]
      (refine rO ?_; repeat' ((with_reducible first | refine rG ?_ | (refine rS ?_ ?_ <;> intro hp) | (refine rB ?_ ?_ <;> intro hb <;> try rw [hb]) | refine rD ?_ | refine rA ?_ | fail) <;> try simp only [go_sem, simprocAttr, hx, Txn.enc_eq, hw]))
      all_goals first
        | (simp only [*, decide_true, decide_false, Bool.not_true, Bool.not_false, Bool.true_and, Bool.false_and, Bool.and_false, Bool.false_or, Bool.or_false] at hq; (refine ⟨k + 1, ?_, ?_, ⟨hkl, hq⟩, by dsimp only; omega⟩ <;> simp only [go_sem, simprocAttr, hw]); done)
        | (rw [choiceB, hq]; simp [*]; done)
    · (refine rO ?_; repeat' ((with_reducible first | refine rG ?_ | (refine rS ?_ ?_ <;> intro hp) | (refine rB ?_ ?_ <;> intro hb <;> try rw [hb]) | refine rD ?_ | refine rA ?_ | fail) <;> try simp only [go_sem, simprocAttr, hx, Txn.enc_eq, hw]))
      all_goals first
        | (refine call_dat (t100 n k hn (by omega)) ?_
           rw [hB]
           (refine rO ?_; repeat' ((with_reducible first | refine rG ?_ | (refine rS ?_ ?_ <;> intro hp) | (refine rB ?_ ?_ <;> intro hb <;> try rw [hb]) | refine rD ?_ | refine rA ?_ | fail) <;> try simp only [go_sem, simprocAttr, hx, Txn.enc_eq, hw]))
           simp only [*, decide_true, decide_false, Bool.not_true, Bool.not_false, Bool.true_and, Bool.false_and, Bool.and_false, Bool.false_or, Bool.or_false] at hq; (refine ⟨k + 1, ?_, ?_, ⟨hkl, hq⟩, by dsimp only; omega⟩ <;> simp only [go_sem, simprocAttr, hw]); done)
        | (rw [choiceB, hq]; simp [*]; done)
  · have hC : choiceB l n = decide (n / 2 ^ l.length = 0) := by
      rw [choiceB, hq, chFrom, List.drop_eq_nil_of_le (by simp; omega)]; rfl
    rw [hC]
    (refine rO ?_; repeat' ((with_reducible first | refine rG ?_ | (refine rS ?_ ?_ <;> intro hp) | (refine rB ?_ ?_ <;> intro hb <;> try rw [hb]) | refine rD ?_ | refine rA ?_ | fail) <;> try simp only [go_sem, simprocAttr, List.length_map]))
    refine awp_loopA (fun k : Nat => [(1, .a (U (n / 2 ^ k))), (40, .a (I l.length)), (41, .a (I k))]) (fun _ => []) (fun k => k ≤ l.length) (l.length - ·) 0 ?_ ?_ (Nat.zero_le _) ?_
    · simp only [go_sem, simprocAttr, Nat.pow_zero, Nat.div_one, List.length_map]
    · simp only [go_sem, simprocAttr]
    intro k j2 hk2
    (refine rO ?_; repeat' ((with_reducible first | refine rG ?_ | (refine rS ?_ ?_ <;> intro hp) | (refine rB ?_ ?_ <;> intro hb <;> try rw [hb]) | refine rD ?_ | refine rA ?_ | fail) <;> try simp only [go_sem, simprocAttr]))
    · have hkl : k < l.length := by omega
      have hw := wrap_succ (n := l.length) hkl (by simp only [maxLen]; omega)
      have hh := u32_half (c := n / 2 ^ k) (Nat.lt_of_le_of_lt (Nat.div_le_self _ _) hn)
      have hs : n / 2 ^ (k + 1) = n / 2 ^ k / 2 := by rw [Nat.div_div_eq_div_mul, Nat.pow_succ]
      (refine rO ?_; repeat' ((with_reducible first | refine rG ?_ | (refine rS ?_ ?_ <;> intro hp) | (refine rB ?_ ?_ <;> intro hb <;> try rw [hb]) | refine rD ?_ | refine rA ?_ | fail) <;> try simp only [go_sem, simprocAttr, hw, hh]))
      (refine ⟨k + 1, ?_, ?_, hkl, by dsimp only; omega⟩ <;> simp only [go_sem, simprocAttr, hw, hh, hs])
    all_goals (obtain rfl : k = l.length := by omega)
    · rw [decide_eq_true (by omega)]
    · rw [decide_eq_false (by omega)]
theorem c1047 {l : List Txn} (hl : l.length ≤ 30) {n : Nat} (hn : n < 2 ^ 32) {dst : Option Tmp} {σ : S} {K : S → Prop} (hK : σ.ret dst [.a (B (choiceB l n))] K) : callV Tryd.prog GL 13 [.a (txnsA l), .a (U n)] dst σ K := call_dat (t1047 l hl n hn) hK
def choicesTo (l : List Txn) (k : Nat) : List Nat := (List.range k).filter (choiceB l)
theorem choicesTo_s (l : List Txn) (k : Nat) : choicesTo l (k + 1) = if choiceB l k then choicesTo l k ++ [k] else choicesTo l k := by
  simp only [choicesTo, List.range_succ, List.filter_append]
  cases h : choiceB l k <;> simp [h]
theorem choicesTo_len (l : List Txn) (k : Nat) : (choicesTo l k).length ≤ k := Nat.le_trans (List.length_filter_le _ _) (by simp)
theorem t1046 (l : List Txn) (hl : l.length ≤ 30) : Holds Tryd.prog GL 12 [txnsA l] [.a (unsA (choicesTo l 64))] := by
  refine fn_holds (vs := [.tmp 2]) (by kernel_rfl) Tryd.func12 rfl rfl (by kernel_rfl) (by kernel_rfl) rfl ?_
  (refine rO ?_; repeat' ((with_reducible first | refine rG ?_ | (refine rS ?_ ?_ <;> intro hp) | (refine rB ?_ ?_ <;> intro hb <;> try rw [hb]) | refine rD ?_ | refine rA ?_ | fail) <;> try simp only [go_sem, simprocAttr]))
  refine awp_loopA (fun k : Nat => [(0, .a (txnsA l)), (3, .own 5), (4, .a (U k))]) (fun k => [(5, .log 23 1 ((choicesTo l k).map uenc))]) (fun k => k ≤ 64) (64 - ·) 0 ?_ ?_ (Nat.zero_le _) ?_
  · simp only [go_sem, simprocAttr]; try rfl
  · simp only [go_sem, simprocAttr]; try rfl
  intro k j hk
  have hlen := choicesTo_len l k
  by_cases hkl : k < 64
  · have hlt : (k : Int) < 64 := by omega
    have hw : IntKind.u32.wrap ((k : Int) + 1) = ((k + 1 : Nat) : Int) := by rw [u32_in _ (by omega)]; omega
    have hs := choicesTo_s l k
    (refine rO ?_; repeat' ((with_reducible first | refine rG ?_ | (refine rS ?_ ?_ <;> intro hp) | (refine rB ?_ ?_ <;> intro hb <;> try rw [hb]) | refine rD ?_ | refine rA ?_ | fail) <;> try simp only [go_sem, simprocAttr, hlt, hw]))
    refine c1047 hl (by omega) ?_
    cases hC : choiceB l k with
    | true =>
      rw [hC, if_pos rfl] at hs
      (refine rO ?_; repeat' ((with_reducible first | refine rG ?_ | (refine rS ?_ ?_ <;> intro hp) | (refine rB ?_ ?_ <;> intro hb <;> try rw [hb]) | refine rD ?_ | refine rA ?_ | fail) <;> try simp only [go_sem, simprocAttr, hw, List.length_map]))
      (refine ⟨k + 1, ?_, ?_, hkl, by dsimp only; omega⟩ <;> simp only [go_sem, simprocAttr, hw, hs, List.map_append, uenc_eq])
    | false =>
      rw [hC] at hs
      simp only [Bool.false_eq_true, if_false] at hs
      (refine rO ?_; repeat' ((with_reducible first | refine rG ?_ | (refine rS ?_ ?_ <;> intro hp) | (refine rB ?_ ?_ <;> intro hb <;> try rw [hb]) | refine rD ?_ | refine rA ?_ | fail) <;> try simp only [go_sem, simprocAttr, hw]))
      (refine ⟨k + 1, ?_, ?_, hkl, by dsimp only; omega⟩ <;> simp only [go_sem, simprocAttr, hw, hs])
  · have hlt : ¬ (k : Int) < 64 := by omega
    obtain rfl : k = 64 := by omega
    (refine rO ?_; repeat' ((with_reducible first | refine rG ?_ | (refine rS ?_ ?_ <;> intro hp) | (refine rB ?_ ?_ <;> intro hb <;> try rw [hb]) | refine rD ?_ | refine rA ?_ | fail) <;> try simp only [go_sem, simprocAttr, hlt]))
def endRk (t : Txn) (last : Int) (c : Bool) : List Int := if t.st = 1 ∧ c = true then [7] else if last = 1 ∨ last = 3 ∨ last = 5 then [8, 9] else [9]
def endRv (t : Txn) (last : Int) (c : Bool) : List Ev := (endRk t last c).map fun k => ⟨k, t.name, 0, 0⟩
theorem t1117 (t : Txn) (last : Int) (c : Bool) : Holds Tryd.prog GL 31 [t.a, I last, B c] [.a (evsA (endRv t last c))] := by
  refine fn_holds (vs := [.tmp 6]) (by kernel_rfl) Tryd.func31 rfl rfl (by kernel_rfl) (by kernel_rfl) rfl ?_
  obtain ⟨nm, fi, la, st, ops⟩ := t
  unfold endRv endRk
  cases c <;> (refine rO ?_; repeat' ((with_reducible first | refine rG ?_ | (refine rS ?_ ?_ <;> intro hp) | (refine rB ?_ ?_ <;> intro hb <;> try rw [hb]) | refine rD ?_ | refine rA ?_ | fail) <;> try simp only [go_sem, simprocAttr]))
  all_goals (simp [*, Ev.enc_eq]; done)
theorem q1117 {t : Txn} {last : Int} {c : Bool} {σ : S} {KR : R → Prop} (hK : KR (retR [evsA (endRv t last c)])) : callVQ Tryd.prog GL 31 [.a t.a, .a (I last), .a (B c)] σ KR :=
  callQ_dat (res := [evsA (endRv t last c)]) (t1117 t last c) hK
def refAt (h : List Ev) (l : List Txn) (C i : Nat) : List Ev := match l[i]? with
  | some t => if t.st < 2 then endRv t (kindAt h t.last) (C.testBit i) else []
  | none => []
def refTo (h : List Ev) (l : List Txn) (C k : Nat) : List Ev := ((List.range k).map (refAt h l C)).flatten
theorem refTo_s (h : List Ev) (l : List Txn) (C k : Nat) : refTo h l C (k + 1) = refTo h l C k ++ refAt h l C k := by
  simp [refTo, List.range_succ]
theorem refAt_end (h : List Ev) (l : List Txn) (C i : Nat) : refAt h l C i = endAt h l C i := by
  unfold refAt endAt
  cases l[i]? with
  | none => rfl
  | some t =>
    dsimp only
    unfold endEv endK endRv endRk
    by_cases h2 : t.st ≥ 2
    · rw [if_neg (by omega), if_pos h2]; rfl
    · rw [if_pos (by omega), if_neg h2]
theorem refTo_end (h : List Ev) (l : List Txn) (C k : Nat) : refTo h l C k = endsTo h l C k := by
  unfold refTo endsTo; congr 1; exact List.map_congr_left fun i _ => refAt_end h l C i
theorem t1048 (h : List Ev) (h0 : checkE h = 0) (C : Nat) (hC : C < 2 ^ 32) : Holds Tryd.prog GL 14 [evsA h, U C] [.a (evsA (compF h C))] := by
  refine fn_holds (vs := [.tmp 4]) (by kernel_rfl) Tryd.func14 rfl rfl (by kernel_rfl) (by kernel_rfl) rfl ?_
  have h60 := check60 h0
  have hl6 := txns_len6 h
  have hlast : ∀ t ∈ txns h, 0 ≤ t.last ∧ t.last < h.length := fun t ht => txns_last ht
  have hT := table_eq h0
  unfold compF
  generalize txns h = T at *
  (refine rO ?_; repeat' ((with_reducible first | refine rG ?_ | (refine rS ?_ ?_ <;> intro hp) | (refine rB ?_ ?_ <;> intro hb <;> try rw [hb]) | refine rD ?_ | refine rA ?_ | fail) <;> try simp only [go_sem, simprocAttr, List.length_map]))
  refine call_dat (t32 h h60) ?_
  rw [hT]
  (refine rO ?_; repeat' ((with_reducible first | refine rG ?_ | (refine rS ?_ ?_ <;> intro hp) | (refine rB ?_ ?_ <;> intro hb <;> try rw [hb]) | refine rD ?_ | refine rA ?_ | fail) <;> try simp only [go_sem, simprocAttr, List.length_map]))
  refine awp_loopA (fun k : Nat => [(0, .a (evsA h)), (1, .a (U C)), (5, .own 8), (13, .a (txnsA T)), (14, .a (I T.length)), (15, .a (I k))]) (fun k => [(8, .log 52 4 ((h ++ refTo h T C k).map Ev.enc))]) (fun k => k ≤ T.length) (T.length - ·) 0 ?_ ?_ (Nat.zero_le _) ?_
  · simp only [go_sem, simprocAttr, List.length_map]
  · simp only [go_sem, simprocAttr]; simp [refTo]
  intro k j hk
  have hel := endsTo_len h T C k
  rw [← refTo_end] at hel
  by_cases hkl : k < T.length
  · have hlt : (k : Int) < (T.length : Int) := by omega
    have hw := wrap_succ (n := T.length) hkl (by simp only [maxLen]; omega)
    have hx : T[k]? = some T[k] := List.getElem?_eq_getElem hkl
    obtain ⟨g1, g2⟩ := hlast _ (List.getElem_mem hkl)
    have hS := refTo_s h T C k
    have hE : refAt h T C k = if T[k].st < 2 then endRv T[k] (kindAt h T[k].last) (C.testBit k) else [] := by simp only [refAt, hx]
    have h2 := endAt_len h T C k
    rw [← refAt_end] at h2
    rw [hE] at hS h2
    generalize T[k] = x at *
    have hm : h[x.last.toNat]? = some h[x.last.toNat] := List.getElem?_eq_getElem (by omega)
    have hK : kindAt h x.last = h[x.last.toNat].kind := by simp only [kindAt, hm]
    rw [hK] at hS h2
    generalize h[x.last.toNat] = y at hm hS h2
    have hcl : (h ++ refTo h T C k).length ≤ 1000 := by rw [List.length_append]; omega
    by_cases hst : x.st < 2
    · rw [if_pos hst] at hS h2
      (refine rO ?_; repeat' ((with_reducible first | refine rG ?_ | (refine rS ?_ ?_ <;> intro hp) | (refine rB ?_ ?_ <;> intro hb <;> try rw [hb]) | refine rD ?_ | refine rA ?_ | fail) <;> try simp only [go_sem, simprocAttr, hlt, hst, hx, hm, g1, Txn.enc_eq, Ev.enc_eq, hw]))
      refine q100 hC (by omega) ?_
      (refine rO ?_; repeat' ((with_reducible first | refine rG ?_ | (refine rS ?_ ?_ <;> intro hp) | (refine rB ?_ ?_ <;> intro hb <;> try rw [hb]) | refine rD ?_ | refine rA ?_ | fail) <;> try simp only [go_sem, simprocAttr, hw]))
      refine q1117 (t := x) ?_
      (refine rO ?_; repeat' ((with_reducible first | refine rG ?_ | (refine rS ?_ ?_ <;> intro hp) | (refine rB ?_ ?_ <;> intro hb <;> try rw [hb]) | refine rD ?_ | refine rA ?_ | fail) <;> try simp only [go_sem, simprocAttr, hw, List.length_map]))
      (refine ⟨k + 1, ?_, ?_, hkl, by dsimp only; omega⟩ <;> simp only [go_sem, simprocAttr, hw, hS, List.map_append, List.append_assoc])
    · rw [if_neg hst] at hS
      (refine rO ?_; repeat' ((with_reducible first | refine rG ?_ | (refine rS ?_ ?_ <;> intro hp) | (refine rB ?_ ?_ <;> intro hb <;> try rw [hb]) | refine rD ?_ | refine rA ?_ | fail) <;> try simp only [go_sem, simprocAttr, hlt, hst, hx, hm, g1, Txn.enc_eq, Ev.enc_eq, hw]))
      (refine ⟨k + 1, ?_, ?_, hkl, by dsimp only; omega⟩ <;> simp only [go_sem, simprocAttr, hw, hS, List.append_nil])
  · have hlt : ¬ (k : Int) < (T.length : Int) := by omega
    obtain rfl : k = T.length := by omega
    (refine rO ?_; repeat' ((with_reducible first | refine rG ?_ | (refine rS ?_ ?_ <;> intro hp) | (refine rB ?_ ?_ <;> intro hb <;> try rw [hb]) | refine rD ?_ | refine rA ?_ | fail) <;> try simp only [go_sem, simprocAttr, hlt, refTo_end]))
end Go.VC
end
section
set_option maxRecDepth 100000
set_option linter.unusedSimpArgs false
set_option linter.unusedVariables false
set_option linter.unnecessarySimpa false
namespace Go.VC
open Go.RowKit Go.Proofs Go.IntWalk
def aliveC : List Ev := [⟨0, 1, 0, 0⟩, ⟨1, 1, 0, 0⟩, ⟨6, 1, 0, 0⟩]
theorem aliveC_c : checkE aliveC = 0 := by kernel_rfl
theorem aliveC_v : choicesV aliveC = [0, 1] := by kernel_rfl
theorem aliveC_e : compE aliveC 1 = 0 := by kernel_rfl
theorem aliveC_w : compV aliveC 1 = [⟨0, 1, 0, 0⟩, ⟨1, 1, 0, 0⟩, ⟨6, 1, 0, 0⟩, ⟨7, 1, 0, 0⟩] := by kernel_rfl
theorem t1045 : Holds Tryd.prog GL 9 [] [.a (B true)] := by
  refine fn_holds (vs := [.tmp 0]) (by kernel_rfl) Tryd.func9 rfl rfl (by kernel_rfl) (by kernel_rfl) rfl ?_
  (refine rO ?_; repeat' ((with_reducible first | refine rG ?_ | (refine rS ?_ ?_ <;> intro hp) | (refine rB ?_ ?_ <;> intro hb <;> try rw [hb]) | refine rD ?_ | refine rA ?_ | fail) <;> try simp only [go_sem, simprocAttr]))
  refine call_rest _ (t1042 aliveC) ?_
  rw [aliveC_c, aliveC_v]
  simp only [go_sem, simprocAttr, aliveC, Ev.enc_eq]
  refine ⟨rfl, ?_⟩
  (refine rO ?_; repeat' ((with_reducible first | refine rG ?_ | (refine rS ?_ ?_ <;> intro hp) | (refine rB ?_ ?_ <;> intro hb <;> try rw [hb]) | refine rD ?_ | refine rA ?_ | fail) <;> try simp only [go_sem, simprocAttr]))
  refine call_dat (t1043 aliveC 1 (by decide)) ?_
  rw [aliveC_e, aliveC_w]
  (refine rO ?_; repeat' ((with_reducible first | refine rG ?_ | (refine rS ?_ ?_ <;> intro hp) | (refine rB ?_ ?_ <;> intro hb <;> try rw [hb]) | refine rD ?_ | refine rA ?_ | fail) <;> try simp only [go_sem, simprocAttr, uenc_eq, Ev.enc_eq]))
theorem c1045 {dst : Option Tmp} {σ : S} {K : S → Prop} (hK : σ.ret dst [.a (B true)] K) : callV Tryd.prog GL 9 [] dst σ K := call_dat t1045 hK
end Go.VC
end
section
set_option maxRecDepth 100000
set_option linter.unusedSimpArgs false
set_option linter.unusedVariables false
set_option linter.unnecessarySimpa false
namespace Go.VC
open Go.RowKit Go.Proofs Go.IntWalk
/-- A choice, by bits. -/
theorem choice_bits {l : List Txn} (hl : l.length ≤ 6) (n : Nat) : choiceB l n = (decide (n &&& bitsN (isSt l 2) l.length = bitsN (isSt l 2) l.length) && decide (n &&& (bitsN (isSt l 2) l.length ||| bitsN (isSt l 1) l.length) = n)) := by
  have hb : ∀ (s : Int) (i : Nat), (bitsN (isSt l s) l.length).testBit i = isSt l s i := by
    intro s i
    rw [bitsN_test]
    by_cases hi : i < l.length
    · rw [decide_eq_true hi, Bool.true_and]
    · rw [decide_eq_false hi, isSt, List.getElem?_eq_none (by omega)]; rfl
  have hc : ∀ i, i < l.length → (chOk l n i = true ↔ ((isSt l 2 i = true → n.testBit i = true) ∧ (n.testBit i = true → isSt l 2 i = true ∨ isSt l 1 i = true))) := by
    intro i hi
    have hx : l[i]? = some l[i] := List.getElem?_eq_getElem hi
    simp only [chOk, isSt, hx]
    cases n.testBit i <;> by_cases h2 : l[i].st = 2 <;> by_cases h1 : l[i].st = 1 <;> simp [h1, h2]
  rw [Bool.eq_iff_iff]
  simp only [choiceB, chFrom, List.drop_zero, Bool.and_eq_true, List.all_eq_true, List.mem_range, decide_eq_true_eq]
  constructor
  · rintro ⟨h1, h2⟩
    have hhi : ∀ i, l.length ≤ i → n.testBit i = false := by
      intro i hi
      refine Nat.testBit_lt_two_pow (Nat.lt_of_lt_of_le ?_ (Nat.pow_le_pow_right (by omega) hi))
      exact (Nat.div_eq_zero_iff_lt (Nat.two_pow_pos _)).1 h2
    constructor
    · refine Nat.eq_of_testBit_eq fun i => ?_
      rw [Nat.testBit_and, hb]
      by_cases hi : i < l.length
      · have := ((hc i hi).1 (h1 i hi)).1
        cases h : isSt l 2 i with
        | false => simp
        | true => simp [this h]
      · rw [isSt, List.getElem?_eq_none (by omega)]; simp
    · refine Nat.eq_of_testBit_eq fun i => ?_
      rw [Nat.testBit_and, Nat.testBit_or, hb, hb]
      by_cases hi : i < l.length
      · have := ((hc i hi).1 (h1 i hi)).2
        cases h : n.testBit i with
        | false => simp
        | true => rcases this h with k | k <;> simp [k]
      · rw [hhi i (by omega)]; simp
  · rintro ⟨h1, h2⟩
    have e1 : ∀ i, isSt l 2 i = true → n.testBit i = true := by
      intro i hi
      have := congrArg (fun m => m.testBit i) h1
      simp only [Nat.testBit_and, hb, hi, Bool.and_true] at this
      exact this
    have e2 : ∀ i, n.testBit i = true → isSt l 2 i = true ∨ isSt l 1 i = true := by
      intro i hi
      have := congrArg (fun m => m.testBit i) h2
      simp only [Nat.testBit_and, Nat.testBit_or, hb, hi, Bool.true_and, Bool.or_eq_true] at this
      exact this
    refine ⟨fun i hi => (hc i hi).2 ⟨e1 i, e2 i⟩, ?_⟩
    refine (Nat.div_eq_zero_iff_lt (Nat.two_pow_pos _)).2 ?_
    refine Nat.lt_pow_two_of_testBit _ fun i hi => ?_
    cases h : n.testBit i with
    | false => rfl
    | true =>
      rcases e2 i h with k | k <;> (rw [isSt, List.getElem?_eq_none (by omega)] at k; cases k)
theorem choices_ref {l : List Txn} (hl : l.length ≤ 6) : choicesTo l 64 = choicesL l := by
  rw [choicesL, choices_filter ⟨_, st64 l 2 hl⟩ ⟨_, st64 l 1 hl⟩ (st_disj l _), choicesTo]
  congr 1
  funext n
  exact choice_bits hl n
theorem choice_any {l : List Txn} (hl : l.length ≤ 6) (n : Nat) : (choicesL l).any (fun y => n == y) = choiceB l n := by
  rw [← choices_ref hl, Bool.eq_iff_iff]
  simp only [choicesTo, List.any_eq_true, List.mem_filter, List.mem_range, beq_iff_eq]
  constructor
  · rintro ⟨y, ⟨_, hy⟩, rfl⟩; exact hy
  · intro h
    refine ⟨n, ⟨?_, h⟩, rfl⟩
    rw [choice_bits hl, Bool.and_eq_true, decide_eq_true_eq, decide_eq_true_eq] at h
    have hd := st64 l 2 hl
    have ho := st64 l 1 hl
    have : bitsN (isSt l 2) l.length ||| bitsN (isSt l 1) l.length < 64 := Nat.or_lt_two_pow (n := 6) hd ho
    rw [← h.2]
    exact Nat.lt_of_le_of_lt Nat.and_le_right this
end Go.VC
end
section
set_option maxRecDepth 100000
set_option linter.unusedSimpArgs false
set_option linter.unusedVariables false
set_option linter.unnecessarySimpa false
namespace Go.VC
open Go.RowKit Go.Proofs Go.IntWalk
theorem t1007 (h0 : List Ev) (C : Nat) (hC : C < 2 ^ 32) : Holds Tryd.prog GL 3 [evsA h0, U C] [.a (B true)] := by
  refine fn_holds (vs := [.tmp 4]) (by kernel_rfl) Tryd.func3 rfl rfl (by kernel_rfl) (by kernel_rfl) rfl ?_
  have m0 : (0 : Int) ≤ min (h0.length : Int) 65 := by omega
  have m1 : min (h0.length : Int) 65 ≤ (h0.length : Int) := by omega
  have hc : List.take (min (h0.length : Int) 65).toNat (h0.map Ev.enc) = (h0.take 65).map Ev.enc := cutN 65 h0
  have hl65 : (h0.take 65).length ≤ 65 := by simp; omega
  generalize h0.take 65 = h at hc hl65
  have hl6 := txns_len6 h
  have hch := t1042 h
  have hco := t1043 h C hC
  have hwy := t19 h
  rw [show whyI h = checkE h from (why_next h).symm] at hwy
  by_cases hE : checkE h = 0
  · have h60 := check60 hE
    have hV : choicesV h = choicesL (txns h) := by rw [choicesV, if_pos hE]
    have hT := table_eq hE
    have hrc := t1048 h hE C hC
    have hcl := choices_len (bitsN (isSt (txns h) 2) (txns h).length) (bitsN (isSt (txns h) 1) (txns h).length)
    have hcl2 : (choicesL (txns h)).length ≤ 64 := hcl
    have hr46 := t1046 (txns h) (by omega)
    rw [choices_ref hl6] at hr46
    have hr47 := t1047 (txns h) (by omega) C hC
    have hlen : (compF h C).length ≤ 1000 := by have := endsTo_len h (txns h) C (txns h).length; simp only [compF, List.length_append]; omega
    have hcE : compE h C = if choiceB (txns h) C = true then (if (compF h C).length > 60 then 5 else 0) else 1 := by rw [compE, if_pos hE, choice_any hl6]
    rw [hV, hE] at hch
    rw [hE] at hwy
    have hcV : compV h C = if compE h C = 0 then compF h C else [] := rfl
    have hT32 := t32 h h60
    rw [hT] at hT32
    generalize txns h = T at *
    generalize choicesL T = L at *
    generalize compF h C = F at *
    cases hB : choiceB T C with
    | false =>
      rw [hB] at hcE hr47
      simp only [Bool.false_eq_true, if_false] at hcE
      rw [hcE] at hcV hco
      simp only [show ¬ (1 : Int) = 0 by decide, if_false] at hcV
      rw [hcV] at hco
      (refine rO ?_; repeat' ((with_reducible first | refine rG ?_ | (refine rS ?_ ?_ <;> intro hp) | (refine rB ?_ ?_ <;> intro hb <;> try rw [hb]) | refine rD ?_ | refine rA ?_ | fail) <;> try simp only [go_sem, simprocAttr, List.length_map, m0, m1, hc, Int.toNat_zero]))
      refine call_dat hch ?_
      (refine rO ?_; repeat' ((with_reducible first | refine rG ?_ | (refine rS ?_ ?_ <;> intro hp) | (refine rB ?_ ?_ <;> intro hb <;> try rw [hb]) | refine rD ?_ | refine rA ?_ | fail) <;> try simp only [go_sem, simprocAttr, hc]))
      refine call_dat hco ?_
      (refine rO ?_; repeat' ((with_reducible first | refine rG ?_ | (refine rS ?_ ?_ <;> intro hp) | (refine rB ?_ ?_ <;> intro hb <;> try rw [hb]) | refine rD ?_ | refine rA ?_ | fail) <;> try simp only [go_sem, simprocAttr, hc]))
      refine call_dat hwy ?_
      (refine rO ?_; repeat' ((with_reducible first | refine rG ?_ | (refine rS ?_ ?_ <;> intro hp) | (refine rB ?_ ?_ <;> intro hb <;> try rw [hb]) | refine rD ?_ | refine rA ?_ | fail) <;> try simp only [go_sem, simprocAttr, hc]))
      refine call_dat hT32 ?_
      (refine rO ?_; repeat' ((with_reducible first | refine rG ?_ | (refine rS ?_ ?_ <;> intro hp) | (refine rB ?_ ?_ <;> intro hb <;> try rw [hb]) | refine rD ?_ | refine rA ?_ | fail) <;> try simp only [go_sem, simprocAttr]))
      refine call_dat hr46 ?_
      (refine rO ?_; repeat' ((with_reducible first | refine rG ?_ | (refine rS ?_ ?_ <;> intro hp) | (refine rB ?_ ?_ <;> intro hb <;> try rw [hb]) | refine rD ?_ | refine rA ?_ | fail) <;> try simp only [go_sem, simprocAttr]))
      refine call_dat (t21 L L (by omega)) ?_
      rw [beq_self_eq_true]
      (refine rO ?_; repeat' ((with_reducible first | refine rG ?_ | (refine rS ?_ ?_ <;> intro hp) | (refine rB ?_ ?_ <;> intro hb <;> try rw [hb]) | refine rD ?_ | apply c1045 | refine rA ?_ | fail) <;> try simp only [go_sem, simprocAttr]))
      refine call_dat hr47 ?_
      (refine rO ?_; repeat' ((with_reducible first | refine rG ?_ | (refine rS ?_ ?_ <;> intro hp) | (refine rB ?_ ?_ <;> intro hb <;> try rw [hb]) | refine rD ?_ | refine rA ?_ | fail) <;> try simp only [go_sem, simprocAttr]))
    | true =>
      rw [hB] at hcE hr47
      simp only [if_true] at hcE
      have hwal : (F.length : Int) > 60 ↔ F.length > 60 := by omega
      by_cases h60F : F.length > 60
      · rw [if_pos h60F] at hcE
        rw [hcE] at hcV hco
        simp only [show ¬ (5 : Int) = 0 by decide, if_false] at hcV
        rw [hcV] at hco
        have hgt : (F.length : Int) > 60 := by omega
        (refine rO ?_; repeat' ((with_reducible first | refine rG ?_ | (refine rS ?_ ?_ <;> intro hp) | (refine rB ?_ ?_ <;> intro hb <;> try rw [hb]) | refine rD ?_ | refine rA ?_ | fail) <;> try simp only [go_sem, simprocAttr, List.length_map, m0, m1, hc, Int.toNat_zero]))
        refine call_dat hch ?_
        (refine rO ?_; repeat' ((with_reducible first | refine rG ?_ | (refine rS ?_ ?_ <;> intro hp) | (refine rB ?_ ?_ <;> intro hb <;> try rw [hb]) | refine rD ?_ | refine rA ?_ | fail) <;> try simp only [go_sem, simprocAttr, hc]))
        refine call_dat hco ?_
        (refine rO ?_; repeat' ((with_reducible first | refine rG ?_ | (refine rS ?_ ?_ <;> intro hp) | (refine rB ?_ ?_ <;> intro hb <;> try rw [hb]) | refine rD ?_ | refine rA ?_ | fail) <;> try simp only [go_sem, simprocAttr, hc]))
        refine call_dat hwy ?_
        (refine rO ?_; repeat' ((with_reducible first | refine rG ?_ | (refine rS ?_ ?_ <;> intro hp) | (refine rB ?_ ?_ <;> intro hb <;> try rw [hb]) | refine rD ?_ | refine rA ?_ | fail) <;> try simp only [go_sem, simprocAttr, hc]))
        refine call_dat hT32 ?_
        (refine rO ?_; repeat' ((with_reducible first | refine rG ?_ | (refine rS ?_ ?_ <;> intro hp) | (refine rB ?_ ?_ <;> intro hb <;> try rw [hb]) | refine rD ?_ | refine rA ?_ | fail) <;> try simp only [go_sem, simprocAttr]))
        refine call_dat hr46 ?_
        (refine rO ?_; repeat' ((with_reducible first | refine rG ?_ | (refine rS ?_ ?_ <;> intro hp) | (refine rB ?_ ?_ <;> intro hb <;> try rw [hb]) | refine rD ?_ | refine rA ?_ | fail) <;> try simp only [go_sem, simprocAttr]))
        refine call_dat (t21 L L (by omega)) ?_
        rw [beq_self_eq_true]
        (refine rO ?_; repeat' ((with_reducible first | refine rG ?_ | (refine rS ?_ ?_ <;> intro hp) | (refine rB ?_ ?_ <;> intro hb <;> try rw [hb]) | refine rD ?_ | apply c1045 | refine rA ?_ | fail) <;> try simp only [go_sem, simprocAttr]))
        refine call_dat hr47 ?_
        (refine rO ?_; repeat' ((with_reducible first | refine rG ?_ | (refine rS ?_ ?_ <;> intro hp) | (refine rB ?_ ?_ <;> intro hb <;> try rw [hb]) | refine rD ?_ | refine rA ?_ | fail) <;> try simp only [go_sem, simprocAttr, hc]))
        refine call_dat hrc ?_
        (refine rO ?_; repeat' ((with_reducible first | refine rG ?_ | (refine rS ?_ ?_ <;> intro hp) | (refine rB ?_ ?_ <;> intro hb <;> try rw [hb]) | refine rD ?_ | refine rA ?_ | fail) <;> try simp only [go_sem, simprocAttr, List.length_map, hgt]))
      · rw [if_neg h60F] at hcE
        rw [hcE] at hcV hco
        simp only [if_true] at hcV
        rw [hcV] at hco
        have hgt : ¬ (F.length : Int) > 60 := by omega
        (refine rO ?_; repeat' ((with_reducible first | refine rG ?_ | (refine rS ?_ ?_ <;> intro hp) | (refine rB ?_ ?_ <;> intro hb <;> try rw [hb]) | refine rD ?_ | refine rA ?_ | fail) <;> try simp only [go_sem, simprocAttr, List.length_map, m0, m1, hc, Int.toNat_zero]))
        refine call_dat hch ?_
        (refine rO ?_; repeat' ((with_reducible first | refine rG ?_ | (refine rS ?_ ?_ <;> intro hp) | (refine rB ?_ ?_ <;> intro hb <;> try rw [hb]) | refine rD ?_ | refine rA ?_ | fail) <;> try simp only [go_sem, simprocAttr, hc]))
        refine call_dat hco ?_
        (refine rO ?_; repeat' ((with_reducible first | refine rG ?_ | (refine rS ?_ ?_ <;> intro hp) | (refine rB ?_ ?_ <;> intro hb <;> try rw [hb]) | refine rD ?_ | refine rA ?_ | fail) <;> try simp only [go_sem, simprocAttr, hc]))
        refine call_dat hwy ?_
        (refine rO ?_; repeat' ((with_reducible first | refine rG ?_ | (refine rS ?_ ?_ <;> intro hp) | (refine rB ?_ ?_ <;> intro hb <;> try rw [hb]) | refine rD ?_ | refine rA ?_ | fail) <;> try simp only [go_sem, simprocAttr, hc]))
        refine call_dat hT32 ?_
        (refine rO ?_; repeat' ((with_reducible first | refine rG ?_ | (refine rS ?_ ?_ <;> intro hp) | (refine rB ?_ ?_ <;> intro hb <;> try rw [hb]) | refine rD ?_ | refine rA ?_ | fail) <;> try simp only [go_sem, simprocAttr]))
        refine call_dat hr46 ?_
        (refine rO ?_; repeat' ((with_reducible first | refine rG ?_ | (refine rS ?_ ?_ <;> intro hp) | (refine rB ?_ ?_ <;> intro hb <;> try rw [hb]) | refine rD ?_ | refine rA ?_ | fail) <;> try simp only [go_sem, simprocAttr]))
        refine call_dat (t21 L L (by omega)) ?_
        rw [beq_self_eq_true]
        (refine rO ?_; repeat' ((with_reducible first | refine rG ?_ | (refine rS ?_ ?_ <;> intro hp) | (refine rB ?_ ?_ <;> intro hb <;> try rw [hb]) | refine rD ?_ | apply c1045 | refine rA ?_ | fail) <;> try simp only [go_sem, simprocAttr]))
        refine call_dat hr47 ?_
        (refine rO ?_; repeat' ((with_reducible first | refine rG ?_ | (refine rS ?_ ?_ <;> intro hp) | (refine rB ?_ ?_ <;> intro hb <;> try rw [hb]) | refine rD ?_ | refine rA ?_ | fail) <;> try simp only [go_sem, simprocAttr, hc]))
        refine call_dat hrc ?_
        (refine rO ?_; repeat' ((with_reducible first | refine rG ?_ | (refine rS ?_ ?_ <;> intro hp) | (refine rB ?_ ?_ <;> intro hb <;> try rw [hb]) | refine rD ?_ | refine rA ?_ | fail) <;> try simp only [go_sem, simprocAttr, List.length_map, hgt]))
        refine call_dat (t1049 F F (by omega)) ?_
        rw [sameE_refl]
        (refine rO ?_; repeat' ((with_reducible first | refine rG ?_ | (refine rS ?_ ?_ <;> intro hp) | (refine rB ?_ ?_ <;> intro hb <;> try rw [hb]) | refine rD ?_ | refine rA ?_ | fail) <;> try simp only [go_sem, simprocAttr]))
  · have hV : choicesV h = [] := by rw [choicesV, if_neg hE]
    have hcE : compE h C = checkE h := by rw [compE, if_neg hE]
    have hcV : compV h C = [] := by rw [compV, hcE, if_neg hE]
    rw [hV] at hch
    rw [hcV, hcE] at hco
    generalize checkE h = c at *
    (refine rO ?_; repeat' ((with_reducible first | refine rG ?_ | (refine rS ?_ ?_ <;> intro hp) | (refine rB ?_ ?_ <;> intro hb <;> try rw [hb]) | refine rD ?_ | refine rA ?_ | fail) <;> try simp only [go_sem, simprocAttr, List.length_map, m0, m1, hc, Int.toNat_zero]))
    refine call_dat hch ?_
    (refine rO ?_; repeat' ((with_reducible first | refine rG ?_ | (refine rS ?_ ?_ <;> intro hp) | (refine rB ?_ ?_ <;> intro hb <;> try rw [hb]) | refine rD ?_ | refine rA ?_ | fail) <;> try simp only [go_sem, simprocAttr, hc]))
    refine call_dat hco ?_
    (refine rO ?_; repeat' ((with_reducible first | refine rG ?_ | (refine rS ?_ ?_ <;> intro hp) | (refine rB ?_ ?_ <;> intro hb <;> try rw [hb]) | refine rD ?_ | refine rA ?_ | fail) <;> try simp only [go_sem, simprocAttr, hc]))
    refine call_dat hwy ?_
    (refine rO ?_; repeat' ((with_reducible first | refine rG ?_ | (refine rS ?_ ?_ <;> intro hp) | (refine rB ?_ ?_ <;> intro hb <;> try rw [hb]) | refine rD ?_ | apply c1045 | refine rA ?_ | fail) <;> try simp only [go_sem, simprocAttr, hE, show IntKind.i64.wrap 0 = 0 from rfl]))
theorem t1007r (h0 : List Ev) (C : Int) (wC : (Lit.int .u32 C).wf = true) : Holds Tryd.prog GL 3 [evsA h0, .d (.v (.int .u32 C))] [.a (B true)] := by
  have : ∃ k : Nat, C = k ∧ k < 2 ^ 32 := by
    simp only [Lit.wf, Bool.and_eq_true, decide_eq_true_eq] at wC
    obtain ⟨h1, h2⟩ := wC
    have e1 : IntKind.u32.min = 0 := rfl
    have e2 : IntKind.u32.max = 4294967295 := rfl
    rw [e1] at h1; rw [e2] at h2
    exact ⟨C.toNat, by omega, by omega⟩
  obtain ⟨C, rfl, hC⟩ := this
  exact t1007 h0 C hC
end Go.VC
end
