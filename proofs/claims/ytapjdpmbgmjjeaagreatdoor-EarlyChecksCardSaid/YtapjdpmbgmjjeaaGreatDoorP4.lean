import Derived.Test.YtapjdpmbgmjjeaaGreatDoorP3
set_option linter.unusedVariables false
set_option linter.unusedSimpArgs false
set_option linter.unnecessarySimpa false
set_option linter.defProp false
set_option maxRecDepth 100000
section
set_option maxRecDepth 100000
namespace Go.VC
open Go.RowKit Go.Proofs Go.IntWalk
structure Op where
 w : Bool
 var : Int
 val : Int
def Op.enc (o : Op) : List D := [dB o.w, dI o.var, dI o.val]
theorem Op.enc_eq (o : Op) : o.enc = [dB o.w, dI o.var, dI o.val] := rfl
theorem ops_len {l : List Op} : ∀ c ∈ l.map Op.enc, c.length = 3 := fun c hc => by
 obtain ⟨e, _, rfl⟩ := List.mem_map.1 hc; rfl
theorem ops_lenT {l : List Op} : (∀ c ∈ l.map Op.enc, c.length = 3) = True := eq_true ops_len
structure Kp where
 name : Int
 first : Int
 last : Int
 st : Int
 ops : List Op
 ask : Ev
def opsR (q : Nat) : List Op → R
 | [] => .cs []
 | _ :: _ => .own q
def Kp.cells (kp : Kp) (q : Nat) : List R := [.a (I kp.name), .a (I kp.first), .a (I kp.last), .a (I kp.st), opsR q kp.ops, .a (I kp.ask.kind), .a (I kp.ask.tx), .a (I kp.ask.var), .a (I kp.ask.val)]
def takeK (kp : Kp) (i : Int) (e : Ev) : Kp :=
 if e.kind = 2 ∨ e.kind = 4 then { kp with last := i, st := 0, ask := e }
 else if e.kind = 3 then { kp with last := i, st := 0, ops := kp.ops ++ [⟨false, kp.ask.var, e.val⟩] }
 else if e.kind = 5 then { kp with last := i, st := 0, ops := kp.ops ++ [⟨true, kp.ask.var, kp.ask.val⟩] }
 else { kp with last := i, st := if e.kind = 6 then 1 else if e.kind = 7 then 2 else if e.kind = 9 then 3 else 0 }
def FineR (q : Nat) (r : R) : Prop := r.up.down = r ∧ (r.kill q).up.down = r
def FineO (q : Nat) (x : Ob) : Prop := x.up.down = x ∧ (x.up.kill (upId q)).down = x ∧ ∀ a, a < 1000000 → (x.up.mv a (upId q)).down = x
theorem okill_lo {x : Ob} {d : Nat} (h : d < 1000000) : x.up.kill d = x.up := by
 cases x with
 | box cs =>
  simp only [Ob.up, Ob.kill, List.map_map]
  congr 1
  exact List.map_congr_left fun r _ => kill_up_lo h
 | log e z xs => rfl
 | mpo kv => rfl
 | iter kv seen => rfl
 | frame vs rs => simp only [Ob.up, Ob.kill]; congr 1; funext t; exact kill_up_lo h
 | sem x =>
  simp only [Ob.up, Ob.kill, SemOb.up]
  rw [any_up1 h]; rfl
 | lost => rfl
theorem okill_loT {x : Ob} {d : Nat} (h : decide (d < 1000000) = true) : x.up.kill d = x.up := okill_lo (of_decide_eq_true h)
def Ftk : List (List Nat) := [[0, 1, 2, 3, 4, 5], [0, 1, 2, 3, 4, 5], [0], []]
structure TkEnd (vs : List Value) (σ τ : S) (o q : Nat) (kp : Kp) : Prop where
 fr : ∃ reg, τ.mem 999999 = some (.frame vs (upF reg)) ∧ ∀ t, FineR q (σ.regs t) → (reg t).up.down = σ.regs t
 bx : (τ.mem (upId o)).map Ob.down = some (.box (kp.cells q))
 rw_ : kp.ops ≠ [] → (τ.mem (upId q)).map Ob.down = some (.log 158 3 (kp.ops.map Op.enc))
 oth : ∀ o' x, (o' == o) = false → (o' == q) = false → decide (o' < 999000000) = true → σ.mem o' = some x → FineO q x → (τ.mem (upId o')).map Ob.down = some x
def TkK (σ : S) (o q : Nat) (kp : Kp) (K : S → List R → Prop) : Prop :=
 ∀ σ' : S, (∀ t, FineR q (σ.regs t) → σ'.regs t = σ.regs t) → σ'.mem o = some (.box (kp.cells q)) → (kp.ops ≠ [] → σ'.mem q = some (.log 158 3 (kp.ops.map Op.enc))) →
   (∀ o' x, (o' == o) = false → (o' == q) = false → decide (o' < 999000000) = true → σ.mem o' = some x → FineO q x → σ'.mem o' = some x) → K σ' []
theorem take_fin {vs : List Value} {σ τ τ' : S} {o q : Nat} {kp : Kp} {K : S → List R → Prop} (ho : decide (o < 999000000) = true) (hq : decide (q < 999000000) = true) (hg : Ghost τ τ') (h : TkEnd vs σ τ' o q kp) (hk : TkK σ o q kp K) : postG vs [] K .normal τ := by
 obtain ⟨reg, hf, hr⟩ := h.fr
 refine ⟨τ', hg, by rw [hf]; rfl, hk τ'.leave (fun t ht => ?_) ?_ (fun hn => ?_) fun o' x h1 h2 h3 hx hfx => ?_⟩
 ·rw [lv_r, hf]; exact hr t ht
 ·rw [lv_m ho]; exact h.bx
 ·rw [lv_m hq]; exact h.rw_ hn
 ·rw [lv_m h3]; exact h.oth o' x h1 h2 h3 hx hfx
theorem take_inl {σ : S} {o q : Nat} {i : Int} {e : Ev} {kp : Kp} {K : S → List R → Prop} (ho : decide (o < 999000000) = true) (hq : decide (q < 999000000) = true) (hoq : (o == q) = false) (hqo : (q == o) = false)
    (hm : σ.mem o = some (.box (kp.cells q))) (hm2 : kp.ops ≠ [] → σ.mem q = some (.log 158 3 (kp.ops.map Op.enc))) (hlen : kp.ops.length ≤ 1000)
    (hk : TkK σ o q (takeK kp i e) K) : Inl Tryz.prog GL 77 [.ref o 0, .a (I i), .a e.a] σ K := by
  refine inl_bodyG (by kernel_rfl) Tryz.func77 rfl rfl (by kernel_rfl) (by kernel_rfl) rfl fun vs => ?_
  have hO : decide (upId o < 1000000000) = true := up_lt ho
  have hQ : decide (upId q < 1000000000) = true := up_lt hq
  rcases hops : kp.ops with _ | ⟨op0, ops⟩
  · simp only [Kp.cells, hops, opsR] at hm
    (refine rO ?_; repeat' ((with_reducible first | refine rG ?_ | (refine rS ?_ ?_ <;> intro hp) | (refine rB ?_ ?_ <;> intro hb <;> try rw [hb]) | refine rD ?_ | refine draw_F Ftk (by decide +kernel) ?_) <;> try simp only [go_sem, simprocAttr, PI, PG, Ftk, ho, hq, hO, hQ, hoq, hqo, hm]))
    all_goals first
      | (refine take_fin ho hq (Ghost.refl _) ⟨⟨σ.regs, ?_, fun t h => h.1⟩, ?_, ?_, ?_⟩ hk
         · simp only [go_sem, simprocAttr, PI, ho, hq, hO, hQ, hoq, hqo, hm]
         · have hT : (takeK kp i e).ops = [] := by unfold takeK; simp [*]
           simp only [go_sem, simprocAttr, PI, ho, hq, hO, hQ, hoq, hqo, hm, Ob.down, R.down, Kp.cells, hT, opsR]
           unfold takeK; simp [*, upId_le, upId_sub]; try rfl
         · intro hn
           exact absurd (show (takeK kp i e).ops = [] by unfold takeK; simp [*]) hn
         · intro o' x h1 h2 h3 hx hf
           have hu : (upId o == upId o') = false := by rw [up_up, BEq.comm]; exact h1
           have hv : (upId q == upId o') = false := by rw [up_up, BEq.comm]; exact h2
           simp only [go_sem, simprocAttr, PI, ho, hq, hO, hQ, hoq, hqo, hm, hu, hv, h3, hx, okill_loT]
           exact hf.1)
      | skip
    · have hT : (takeK kp i e).ops = [⟨false, kp.ask.var, e.val⟩] := by unfold takeK; simp [*]
      refine take_fin ho hq (g_mv (a := 41) (b := upId q) (by omega) (by have := upId_le q; omega)) ⟨⟨killR q σ.regs, ?_, fun t h => h.2⟩, ?_, ?_, ?_⟩ hk
      · simp only [go_sem, simprocAttr, PI, PM, ho, hq, hO, hQ, hoq, hqo, hm]
      · simp only [go_sem, simprocAttr, PI, PM, ho, hq, hO, hQ, hoq, hqo, hm, Ob.down, R.down, Kp.cells, hT, opsR]
        unfold takeK; simp [*, upId_le, upId_sub]; try rfl
      · intro hn
        rw [hT]
        simp only [go_sem, simprocAttr, PI, PM, ho, hq, hO, hQ, hoq, hqo, hm, Ob.down, R.down, Kp.cells, hT, opsR]
        try rfl
      · intro o' x h1 h2 h3 hx hf
        have hu : (upId o == upId o') = false := by rw [up_up, BEq.comm]; exact h1
        have hv : (upId q == upId o') = false := by rw [up_up, BEq.comm]; exact h2
        have hv' : (upId o' == upId q) = false := by rw [up_up]; exact h2
        simp only [go_sem, simprocAttr, PI, PM, ho, hq, hO, hQ, hoq, hqo, hm, hu, hv, hv', h3, hx, okill_loT]
        exact (hf.2.2 41 (by omega))
    · have hT : (takeK kp i e).ops = [⟨true, kp.ask.var, kp.ask.val⟩] := by unfold takeK; simp [*]
      refine take_fin ho hq (g_mv (a := 65) (b := upId q) (by omega) (by have := upId_le q; omega)) ⟨⟨killR q σ.regs, ?_, fun t h => h.2⟩, ?_, ?_, ?_⟩ hk
      · simp only [go_sem, simprocAttr, PI, PM, ho, hq, hO, hQ, hoq, hqo, hm]
      · simp only [go_sem, simprocAttr, PI, PM, ho, hq, hO, hQ, hoq, hqo, hm, Ob.down, R.down, Kp.cells, hT, opsR]
        unfold takeK; simp [*, upId_le, upId_sub]; try rfl
      · intro hn
        rw [hT]
        simp only [go_sem, simprocAttr, PI, PM, ho, hq, hO, hQ, hoq, hqo, hm, Ob.down, R.down, Kp.cells, hT, opsR]
        try rfl
      · intro o' x h1 h2 h3 hx hf
        have hu : (upId o == upId o') = false := by rw [up_up, BEq.comm]; exact h1
        have hv : (upId q == upId o') = false := by rw [up_up, BEq.comm]; exact h2
        have hv' : (upId o' == upId q) = false := by rw [up_up]; exact h2
        simp only [go_sem, simprocAttr, PI, PM, ho, hq, hO, hQ, hoq, hqo, hm, hu, hv, hv', h3, hx, okill_loT]
        exact (hf.2.2 65 (by omega))
  · have hm2 := hm2 (by rw [hops]; simp)
    simp only [Kp.cells, hops, opsR] at hm hm2 hlen
    have hl3 : ∀ c ∈ op0.enc :: ops.map Op.enc, c.length = 3 := ops_len (l := op0 :: ops)
    have hlb : (ops.length + 1 + 1) * 24 ≤ 140737488355328 := by simp at hlen; omega
    (refine rO ?_; repeat' ((with_reducible first | refine rG ?_ | (refine rS ?_ ?_ <;> intro hp) | (refine rB ?_ ?_ <;> intro hb <;> try rw [hb]) | refine rD ?_ | refine draw_F Ftk (by decide +kernel) ?_) <;> try simp only [go_sem, simprocAttr, PI, PG, Ftk, ho, hq, hO, hQ, hoq, hqo, hm, hm2, ops_lenT]))
    all_goals first
      | (refine take_fin ho hq (Ghost.refl _) ⟨⟨σ.regs, ?_, fun t h => h.1⟩, ?_, ?_, ?_⟩ hk
         · simp only [go_sem, simprocAttr, PI, ho, hq, hO, hQ, hoq, hqo, hm]
         · have hT : (takeK kp i e).ops = op0 :: ops := by unfold takeK; simp [*]
           simp only [go_sem, simprocAttr, PI, ho, hq, hO, hQ, hoq, hqo, hm, Ob.down, R.down, Kp.cells, hT, opsR]
           unfold takeK; simp [*, upId_le, upId_sub]; try rfl
         · intro hn
           rw [show (takeK kp i e).ops = op0 :: ops by unfold takeK; simp [*]]
           simp only [go_sem, simprocAttr, PI, ho, hq, hO, hQ, hoq, hqo, hm, hm2, Ob.down]
         · intro o' x h1 h2 h3 hx hf
           have hu : (upId o == upId o') = false := by rw [up_up, BEq.comm]; exact h1
           have hv : (upId q == upId o') = false := by rw [up_up, BEq.comm]; exact h2
           simp only [go_sem, simprocAttr, PI, ho, hq, hO, hQ, hoq, hqo, hm, hu, hv, h3, hx, okill_loT]
           exact hf.1)
      | skip
    · have hT : (takeK kp i e).ops = op0 :: ops ++ [⟨false, kp.ask.var, e.val⟩] := by unfold takeK; simp [*]
      refine ⟨by rw [List.length_map]; exact hlb, ?_⟩
      refine take_fin ho hq (Ghost.refl _) ⟨⟨killR q σ.regs, ?_, fun t h => h.2⟩, ?_, ?_, ?_⟩ hk
      · simp only [go_sem, simprocAttr, PI, ho, hq, hO, hQ, hoq, hqo, hm, hm2]
      · simp only [go_sem, simprocAttr, PI, ho, hq, hO, hQ, hoq, hqo, hm, hm2, Ob.down, R.down, Kp.cells, hT, opsR]
        unfold takeK; simp [*, upId_le, upId_sub]; try rfl
      · intro hn
        rw [hT]
        simp only [go_sem, simprocAttr, PI, ho, hq, hO, hQ, hoq, hqo, hm, hm2, Ob.down]
        rw [List.map_append]
        rfl
      · intro o' x h1 h2 h3 hx hf
        have hu : (upId o == upId o') = false := by rw [up_up, BEq.comm]; exact h1
        have hv : (upId q == upId o') = false := by rw [up_up, BEq.comm]; exact h2
        have hv' : (upId o' == upId q) = false := by rw [up_up]; exact h2
        simp only [go_sem, simprocAttr, PI, ho, hq, hO, hQ, hoq, hqo, hm, hm2, hu, hv, hv', h3, hx, okill_loT]
        exact hf.2.1
    · have hT : (takeK kp i e).ops = op0 :: ops ++ [⟨true, kp.ask.var, kp.ask.val⟩] := by unfold takeK; simp [*]
      refine ⟨by rw [List.length_map]; exact hlb, ?_⟩
      refine take_fin ho hq (Ghost.refl _) ⟨⟨killR q σ.regs, ?_, fun t h => h.2⟩, ?_, ?_, ?_⟩ hk
      · simp only [go_sem, simprocAttr, PI, ho, hq, hO, hQ, hoq, hqo, hm, hm2]
      · simp only [go_sem, simprocAttr, PI, ho, hq, hO, hQ, hoq, hqo, hm, hm2, Ob.down, R.down, Kp.cells, hT, opsR]
        unfold takeK; simp [*, upId_le, upId_sub]; try rfl
      · intro hn
        rw [hT]
        simp only [go_sem, simprocAttr, PI, ho, hq, hO, hQ, hoq, hqo, hm, hm2, Ob.down]
        rw [List.map_append]
        rfl
      · intro o' x h1 h2 h3 hx hf
        have hu : (upId o == upId o') = false := by rw [up_up, BEq.comm]; exact h1
        have hv : (upId q == upId o') = false := by rw [up_up, BEq.comm]; exact h2
        have hv' : (upId o' == upId q) = false := by rw [up_up]; exact h2
        simp only [go_sem, simprocAttr, PI, ho, hq, hO, hQ, hoq, hqo, hm, hm2, hu, hv, hv', h3, hx, okill_loT]
        exact hf.2.1
end Go.VC
end
section
set_option maxRecDepth 100000
namespace Go.VC
open Go.RowKit Go.Proofs Go.IntWalk
theorem kidEx : ∃ f : Nat → Nat, ∀ j, f j = j + 2000000 := ⟨_, fun _ => rfl⟩
noncomputable def kid (j : Nat) : Nat := Classical.choose kidEx j
theorem kid_eq (j : Nat) : kid j = j + 2000000 := Classical.choose_spec kidEx j
theorem ridEx : ∃ f : Nat → Nat, ∀ j, f j = j + 3000000 := ⟨_, fun _ => rfl⟩
noncomputable def rid (j : Nat) : Nat := Classical.choose ridEx j
theorem rid_eq (j : Nat) : rid j = j + 3000000 := Classical.choose_spec ridEx j
theorem kid_lt {j : Nat} (h : j < 100) : decide (kid j < 999000000) = true := by have := kid_eq j; exact decide_eq_true (by omega)
theorem rid_lt {j : Nat} (h : j < 100) : decide (rid j < 999000000) = true := by have := rid_eq j; exact decide_eq_true (by omega)
theorem kid_rid {i j : Nat} (h : i < 100) : (kid i == rid j) = false := by have := kid_eq i; have := rid_eq j; simp; omega
theorem rid_kid {i j : Nat} (h : j < 100) : (rid i == kid j) = false := by have := rid_eq i; have := kid_eq j; simp; omega
theorem kid_ne {i j : Nat} (h : i ≠ j) : (kid i == kid j) = false := by have := kid_eq i; have := kid_eq j; simp; omega
theorem rid_ne {i j : Nat} (h : i ≠ j) : (rid i == rid j) = false := by have := rid_eq i; have := rid_eq j; simp; omega
theorem kid_lo {j d : Nat} (h : decide (d < 1000000) = true) : (kid j == d) = false := by have := kid_eq j; have := of_decide_eq_true h; simp; omega
theorem rid_lo {j d : Nat} (h : decide (d < 1000000) = true) : (rid j == d) = false := by have := rid_eq j; have := of_decide_eq_true h; simp; omega
theorem lo_kid {j d : Nat} (h : decide (d < 1000000) = true) : (d == kid j) = false := by have := kid_eq j; have := of_decide_eq_true h; simp; omega
theorem lo_rid {j d : Nat} (h : decide (d < 1000000) = true) : (d == rid j) = false := by have := rid_eq j; have := of_decide_eq_true h; simp; omega
theorem fineR_a {q : Nat} {x : A} : FineR q (.a x) := ⟨rfl, rfl⟩
theorem down_own {o : Nat} : (R.own (upId o)).down = .own o := by simp [R.down, upId_le, upId_sub]
theorem down_omp {o : Nat} : (R.omp (upId o)).down = .omp o := by simp [R.down, upId_le, upId_sub]
theorem fineR_own {q o : Nat} (h : (o == q) = false) : FineR q (.own o) := ⟨down_own, by
 have : (R.own o).kill q = .own o := by unfold R.kill; rw [show (R.own o).says q = false from h]; rfl
 rw [this]; exact down_own⟩
theorem fineR_omp {q o : Nat} (h : (o == q) = false) : FineR q (.omp o) := ⟨down_omp, by
 have : (R.omp o).kill q = .omp o := by unfold R.kill; rw [show (R.omp o).says q = false from h]; rfl
 rw [this]; exact down_omp⟩
theorem fineO_log {q : Nat} {e : TypeId} {z : Nat} {xs : List (List D)} : FineO q (.log e z xs) := ⟨rfl, rfl, fun _ _ => rfl⟩
theorem sem_ext {x y : SemOb} (h1 : x.os = y.os) (h2 : x.p = y.p) : x = y := by
 cases x; cases y; cases h1; cases h2; rfl
theorem sem_up_down {x : SemOb} : (Ob.sem x).up.down = .sem x := by
 have h : ∀ o ∈ x.up.os, 1000000 ≤ o := fun o ho => by
  obtain ⟨o', _, rfl⟩ := List.mem_map.1 ho
  exact upId_le o'
 show Ob.down (.sem x.up) = _
 simp only [Ob.down]
 rw [dif_pos h]
 congr 1
 refine sem_ext ?_ ?_
 ·simp [SemOb.up, SemOb.down, List.map_map, Function.comp_def, upId_sub]
 ·funext β st w bv
  simp [SemOb.up, SemOb.down, upId_sub]
theorem fineO_sem {q : Nat} {x : SemOb} (h : q ∉ x.os) : FineO q (.sem x) := by
 have hq : x.up.os.any (fun o' => o' == upId q) = false := by
  simp only [List.any_eq_false, beq_iff_eq, SemOb.up, List.mem_map]
  rintro o ⟨o', ho, rfl⟩ e
  exact h (upId_inj e ▸ ho)
 refine ⟨sem_up_down, ?_, fun a ha => ?_⟩
 ·have : (Ob.sem x).up.kill (upId q) = (Ob.sem x).up := by
   show (if _ then _ else _) = _
   rw [hq]; rfl
  rw [this]; exact sem_up_down
 ·have : (Ob.sem x).up.mv a (upId q) = (Ob.sem x).up := by
   show (if _ then _ else _) = Ob.sem x.up
   rw [hq]
   show Ob.sem (x.up.mv a (upId q)) = _
   congr 1
   have hn : ∀ o, nm a (upId q) (upId o) = upId o := fun o => by
    unfold nm; rw [if_neg (by have := upId_le o; omega)]
   refine sem_ext ?_ ?_
   ·simp [SemOb.up, SemOb.mv, List.map_map, Function.comp_def, hn]
   ·funext β st w bv
    simp [SemOb.up, SemOb.mv, hn]
  rw [this]; exact sem_up_down
theorem fineO_kp {kp : Kp} {i q : Nat} (h : (i == q) = false) : FineO q (.box (kp.cells i)) := by
 have hn : ∀ a, a < 1000000 → nm a (upId q) (upId i) = upId i := fun a ha => by
  unfold nm; rw [if_neg (by have := upId_le i; omega)]
 have hu : (upId i == upId q) = false := by rw [up_up]; exact h
 cases hops : kp.ops with
 | nil =>
  refine ⟨?_, ?_, fun a ha => ?_⟩ <;> simp [Kp.cells, hops, opsR, Ob.up, Ob.down, Ob.kill, Ob.mv, R.up, R.down, R.kill, R.says, R.says0, R.mv, R.mv0]
 | cons x xs =>
  refine ⟨?_, ?_, fun a ha => ?_⟩ <;> simp [Kp.cells, hops, opsR, Ob.up, Ob.down, Ob.kill, Ob.mv, R.up, R.down, R.kill, R.says, R.says0, R.mv, R.mv0, hu, upId_le, upId_sub, hn, *]
def Kp.data (kp : Kp) : List D := [dI kp.name, dI kp.first, dI kp.last, dI kp.st, .sl (kp.ops.map Op.enc), dI kp.ask.kind, dI kp.ask.tx, dI kp.ask.var, dI kp.ask.val]
inductive CellD (σ : S) : R → D → Prop
 | a {x : D} : CellD σ (.a (.d x)) x
 | cs {xs : List (List D)} : CellD σ (.cs xs) (.sl xs)
 | own {q : Nat} {e : TypeId} {z : Nat} {xs : List (List D)} (hq : q < 1000000000) (h : σ.mem q = some (.log e z xs)) : CellD σ (.own q) (.sl xs)
def ordS (σ : S) (o : Nat) (e : TypeId) (dss : List (List D)) : S where
 regs := fun t => match σ.regs t with
  | .a x => .a x
  | .own o' => if o' = o then .own o else .any
  | _ => .any
 mem := fun o' => if o' = o then some (.log e 1 (dss.map fun ds => [.pt ds])) else none
theorem g_order {σ : S} {o : Nat} {e : TypeId} {ids : List Nat} {dss : List (List D)} (hm : σ.mem o = some (.sem (rrow e ids))) (hl : ids.length = dss.length)
  (hd : ∀ (j i : Nat) (ds : List D), ids[j]? = some i → dss[j]? = some ds → i ≠ o ∧ i < 1000000000 ∧ ∃ cs, σ.mem i = some (.box cs) ∧ F2 (fun r x => (∀ q, r = .own q → q ≠ o) ∧ CellD σ r x) cs ds) : Ghost σ (ordS σ o e dss) := fun c β a w hs => by
 have memo : ∀ o' x, (ordS σ o e dss).mem o' = some x → o' = o ∧ x = .log e 1 (dss.map fun ds => [.pt ds]) := fun o' x hx => by
  simp only [ordS] at hx
  split at hx
  ·rename_i h; cases hx; exact ⟨h, rfl⟩
  ·cases hx
 have hst : ∀ b, stF c σ β w b → stF c (ordS σ o e dss) β w b := fun b hb => ⟨hb.1, hb.2.1, fun o' x hx => by
  obtain ⟨rfl, _⟩ := memo o' x hx
  exact hb.2.2.1 _ _ hm, hb.2.2.2⟩
 have hst' : ∀ b, stF c σ β w b → stF c (ordS σ o e dss) β w b ∧ w.heap[b]? = w.heap[b]? := fun b hb => ⟨hst b hb, rfl⟩
 -- a block of another object's
 have hob : ∀ q x b, σ.mem q = some x → q ≠ o → q < 1000000000 → ownB (β q) = some b → NotDef w b → stF c (ordS σ o e dss) β w b := fun q x b hq hne hlt hb hnd => by
  refine ⟨(hs.obj q x hq).lt hb, fun hw => ?_, fun o' y hy hb' => ?_, hnd⟩
  ·rcases hs.blk q x b hq hb with h | h
   ·omega
   ·exact absurd h.2 (by omega)
  ·obtain ⟨rfl, _⟩ := memo o' y hy
   exact hne (hs.dis _ _ _ _ b hq hm hb hb')
 refine ⟨β, hs.keep, hs.size, hs.dfs (fun _ _ => rfl) (fun o' x hx => let ⟨e, _⟩ := memo o' x hx; .inl ⟨o, _, hm, by rw [e]⟩), c.hE hst' hs.ext, fun o' x hx => ?_, fun o' x b hx hb => ?_, fun o1 o2 x1 x2 b h1 h2 _ _ => ?_, fun t => ?_, hs.env.mono hst'⟩
 ·obtain ⟨rfl, rfl⟩ := memo o' x hx
  obtain ⟨cells, hr, hf, hlen⟩ := hs.obj _ _ hm
  have hfl : ∀ l : List Nat, (l.map fun i => [D.v (β i)]).flatten = l.map fun i => .v (β i) := fun l => by
   induction l with
   | nil => rfl
   | cons x l ih => simp [ih]
  have hfl' : ∀ l : List (List D), (l.map fun ds => [D.pt ds]).flatten = l.map fun ds => .pt ds := fun l => by
   induction l with
   | nil => rfl
   | cons x l ih => simp [ih]
  rw [hfl] at hf
  refine ⟨cells, by simpa [hl] using hr, ?_, fun x hx => ?_⟩
  ·rw [hfl']
   refine ⟨by have := hf.1; simp at this ⊢; omega, fun j u d hu hd' => ?_⟩
   simp only [List.getElem?_map, Option.map_eq_some_iff] at hd'
   obtain ⟨ds, hds, rfl⟩ := hd'
   obtain ⟨i, hi⟩ : ∃ i, ids[j]? = some i := by
    have := (List.getElem?_eq_some_iff.1 hds).1
    exact ⟨_, List.getElem?_eq_getElem (by omega)⟩
   have hui := hf.2 j u (.v (β i)) hu (by simp [hi])
   obtain ⟨hio, hilt, cs, hbox, hcs⟩ := hd j i ds hi hds
   have hu' : u = β i := by cases hui with | v h => rfl
   obtain ⟨bl, arr, e', hb, hh, hcf⟩ := hs.obj i _ hbox
   rw [hu', hb]
   refine Rd.mk_pt (hob i _ bl hbox hio hilt (by rw [hb]; rfl) (nd_cells hh)) hh fun k d hk => ?_
   obtain ⟨r, hrk⟩ : ∃ r, cs[k]? = some r := by
    have := (List.getElem?_eq_some_iff.1 hk).1
    have := hcs.1
    exact ⟨_, List.getElem?_eq_getElem (by omega)⟩
   obtain ⟨hno, hcd⟩ := hcs.2 k r d hrk hk
   obtain ⟨v, hv, _, hrel⟩ := hcf.get hrk
   refine ⟨v, by simpa using hv, ?_⟩
   cases hcd with
   | a => exact hrel.inv_d.mono hst'
   | cs => obtain ⟨p, n, rfl, hr'⟩ := hrel.inv_cs; exact hr'.mono hst'
   | @own q e2 z xs hq hmq =>
    obtain ⟨cells2, hr2, hf2, hl2⟩ := hs.obj q _ hmq
    rw [hrel.inv_own]
    exact row_rd hr2 hf2 hl2 hst fun b hb => hob q _ b hmq (hno q rfl) hq hb (hr2.nd hb)
  ·obtain ⟨ds, _, rfl⟩ := List.mem_map.1 hx; rfl
 ·obtain ⟨rfl, _⟩ := memo o' x hx
  exact hs.blk _ _ b hm hb
 ·rw [(memo o1 x1 h1).1, (memo o2 x2 h2).1]
 ·have ht := hs.reg t
  simp only [ordS]
  split
  ·rename_i x he; rw [he] at ht; exact (ht.mono hst')
  ·rename_i o' he
   split
   ·rename_i e'; subst e'; rw [he] at ht; exact ht.mono hst'
   ·exact .any
  ·exact .any
end Go.VC
end
section
set_option maxRecDepth 100000
namespace Go.VC
open Go.RowKit Go.Proofs Go.IntWalk
theorem takeK_name {kp : Kp} {i : Int} {e : Ev} : (takeK kp i e).name = kp.name := by unfold takeK; (repeat' split) <;> rfl
theorem takeK_ops {kp : Kp} {i : Int} {e : Ev} : (takeK kp i e).ops.length ≤ kp.ops.length + 1 := by unfold takeK; (repeat' split) <;> simp
def newKp (i : Int) (e : Ev) : Kp := takeK ⟨e.tx, i, 0, 0, [], ⟨0, 0, 0, 0⟩⟩ i e
def pos : List Kp → Int → Option Nat
 | [], _ => none
 | kp :: ks, n => if kp.name = n then some 0 else (pos ks n).map (· + 1)
theorem pos_at {n : Int} : ∀ {ks : List Kp} {j : Nat}, pos ks n = some j → ∃ kp, ks[j]? = some kp ∧ kp.name = n
 | kp :: ks, j, h => by
  simp only [pos] at h
  split at h
  ·rename_i e; cases h; exact ⟨kp, rfl, e⟩
  ·obtain ⟨j', hj, rfl⟩ := Option.map_eq_some_iff.1 h
   obtain ⟨kp', h1, h2⟩ := pos_at hj
   exact ⟨kp', by simpa using h1, h2⟩
noncomputable def kvFrom : List Kp → Nat → List (Int × Nat)
 | [], _ => []
 | kp :: ks, j => (kp.name, kid j) :: kvFrom ks (j + 1)
theorem kvN_from {n : Int} : ∀ {ks : List Kp} {j : Nat}, kvN (kvFrom ks j) n = (pos ks n).map fun i => kid (j + i)
 | [], j => rfl
 | kp :: ks, j => by
  simp only [kvFrom, kvN, pos]
  split
  ·rfl
  ·rw [kvN_from, Option.map_map]
   congr 1; funext i; simp only [Function.comp]; congr 1; omega
theorem kvFrom_set {kp' : Kp} : ∀ {ks : List Kp} {i j : Nat}, (∀ kp, ks[i]? = some kp → kp'.name = kp.name) → kvFrom (ks.set i kp') j = kvFrom ks j
 | [], i, j, _ => rfl
 | kp :: ks, 0, j, h => by simp only [List.set_cons_zero, kvFrom, h kp rfl]
 | kp :: ks, i + 1, j, h => by simp only [List.set_cons_succ, kvFrom, kvFrom_set fun kp hk => h kp (by simpa using hk)]
theorem kvFrom_app {kp : Kp} : ∀ {ks : List Kp} {j : Nat}, kvFrom (ks ++ [kp]) j = kvFrom ks j ++ [(kp.name, kid (j + ks.length))]
 | [], j => rfl
 | k :: ks, j => by simp only [List.cons_append, kvFrom, kvFrom_app, List.length_cons]; rw [show j + 1 + ks.length = j + (ks.length + 1) by omega]
theorem kvFrom_ids : ∀ {ks : List Kp} {j : Nat}, (kvFrom ks j).map (·.2) = (List.range ks.length).map fun i => kid (j + i)
 | [], j => rfl
 | k :: ks, j => by
  simp only [kvFrom, List.map_cons, kvFrom_ids, List.length_cons, List.range_succ_eq_map, List.map_map]
  congr 2; funext i; simp only [Function.comp]; congr 1; omega
def tabStep (ks : List Kp) (i : Int) (e : Ev) : List Kp := match pos ks e.tx with
 | some j => match ks[j]? with
  | some kp => ks.set j (takeK kp i e)
  | none => ks
 | none => ks ++ [newKp i e]
def tabAt (h : List Ev) : Nat → List Kp
 | 0 => []
 | k + 1 => match h[k]? with
  | some e => tabStep (tabAt h k) k e
  | none => tabAt h k
noncomputable def kidsN (n : Nat) : List Nat := (List.range n).map kid
theorem kidsN_succ {n : Nat} : kidsN (n + 1) = kidsN n ++ [kid n] := by simp [kidsN, List.range_succ]
theorem kid_inj {i j : Nat} (h : kid i = kid j) : i = j := by rw [kid_eq, kid_eq] at h; omega
theorem kidsN_mem {n x : Nat} : x ∈ kidsN n ↔ ∃ i, i < n ∧ kid i = x := by simp [kidsN]
theorem tab_len {h : List Ev} : ∀ k, (tabAt h k).length ≤ k
 | 0 => by simp [tabAt]
 | k + 1 => by
  have := tab_len (h := h) k
  simp only [tabAt]
  split
  ·unfold tabStep
   (repeat' split) <;> simp <;> omega
  ·omega
theorem tab_ops {h : List Ev} : ∀ k, ∀ kp ∈ tabAt h k, kp.ops.length ≤ k
 | 0, kp, hk => by simp [tabAt] at hk
 | k + 1, kp, hk => by
  have ih := tab_ops (h := h) k
  simp only [tabAt] at hk
  split at hk
  ·unfold tabStep at hk
   (repeat' split at hk)
   ·rename_i kp' he
    rcases List.mem_or_eq_of_mem_set hk with h1 | rfl
    ·have := ih kp h1; omega
    ·have h1 := ih kp' (List.mem_of_getElem? he)
     have := @takeK_ops kp' k ‹Ev›
     omega
   ·have := ih kp hk; omega
   ·rcases List.mem_append.1 hk with h1 | h1
    ·have := ih kp h1; omega
    ·simp only [List.mem_singleton] at h1
     subst h1
     have : (newKp k ‹Ev›).ops.length ≤ 0 + 1 := takeK_ops
     omega
  ·have := ih kp hk; omega
structure TabI (h : List Ev) (k : Nat) (σ : S) : Prop where
 le : k ≤ h.length
 r0 : σ.regs 0 = .a (evsA h)
 r6 : σ.regs 6 = .omp 22
 r7 : σ.regs 7 = .own 7
 r23 : σ.regs 23 = .a (evsA h)
 r24 : σ.regs 24 = .a (I h.length)
 r25 : σ.regs 25 = .a (I k)
 m22 : σ.mem 22 = some (.sem (rmp (kvFrom (tabAt h k) 0)))
 m7 : σ.mem 7 = some (.sem (rrow 129 (kidsN (tabAt h k).length)))
 kb : ∀ j kp, (tabAt h k)[j]? = some kp → σ.mem (kid j) = some (.box (kp.cells (rid j)))
 kr : ∀ j kp, (tabAt h k)[j]? = some kp → kp.ops ≠ [] → σ.mem (rid j) = some (.log 158 3 (kp.ops.map Op.enc))
structure FinI (h : List Ev) (σ : S) : Prop where
 r7 : σ.regs 7 = .own 7
 r24 : σ.regs 24 = .a (I h.length)
 r25 : σ.regs 25 = .a (I h.length)
 m7 : σ.mem 7 = some (.log 129 1 ((tabAt h h.length).map fun kp => [.pt kp.data]))
def TabG (h : List Ev) (k : Nat) (σ : S) : Prop := (k < h.length ∧ TabI h k σ) ∨ (k = h.length ∧ FinI h σ)
theorem tab_ghost {h : List Ev} (h60 : h.length ≤ 60) {k : Nat} {σ : S} (hI : TabI h k σ) : ∃ σ', Ghost σ σ' ∧ TabG h k σ' := by
 by_cases hk : k < h.length
 ·exact ⟨σ, Ghost.refl σ, .inl ⟨hk, hI⟩⟩
 ·have hke : k = h.length := by have := hI.le; omega
  subst hke
  have hlen := tab_len (h := h) h.length
  refine ⟨_, g_order (o := 7) (e := 129) (dss := (tabAt h h.length).map Kp.data) hI.m7 (by simp [kidsN]) (fun j i ds hi hds => ?_), .inr ⟨rfl, ?_, ?_, ?_, ?_⟩⟩
  ·simp only [List.getElem?_map, Option.map_eq_some_iff] at hds
   obtain ⟨kp, hkp, rfl⟩ := hds
   have hj := (List.getElem?_eq_some_iff.1 hkp).1
   have hi' : i = kid j := by simp [kidsN, hj] at hi; exact hi.symm
   subst hi'
   refine ⟨by have := kid_eq j; omega, by have := kid_eq j; omega, _, hI.kb j kp hkp, ?_⟩
   have hr : rid j < 1000000000 := by have := rid_eq j; omega
   have hr7 : rid j ≠ 7 := by have := rid_eq j; omega
   have row : (∀ q, opsR (rid j) kp.ops = .own q → q ≠ 7) ∧ CellD σ (opsR (rid j) kp.ops) (.sl (kp.ops.map Op.enc)) := by
    cases ho : kp.ops with
    | nil => exact ⟨fun q h => (by cases h), .cs⟩
    | cons x xs =>
     refine ⟨fun q h => by cases h; exact hr7, .own (e := 158) (z := 3) hr ?_⟩
     have := hI.kr j kp hkp (by rw [ho]; simp)
     rw [ho] at this
     exact this
   have an : ∀ n : Int, (∀ q, R.a (I n) = .own q → q ≠ 7) ∧ CellD σ (.a (I n)) (dI n) := fun n => ⟨fun q h => (by cases h), .a⟩
   exact .cons (an _) (.cons (an _) (.cons (an _) (.cons (an _) (.cons row (.cons (an _) (.cons (an _) (.cons (an _) (.cons (an _) .nil))))))))
  ·simp only [ordS, hI.r7]; rfl
  ·simp only [ordS, hI.r24]
  ·simp only [ordS, hI.r25]
  ·simp only [ordS, List.map_map, Function.comp_def]; rfl
theorem tab_start {h : List Ev} (h60 : h.length ≤ 60) {σ : S} (r0 : σ.regs 0 = .a (evsA h)) (r6 : σ.regs 6 = .omp 22) (r7 : σ.regs 7 = .own 7) (r23 : σ.regs 23 = .a (evsA h)) (r24 : σ.regs 24 = .a (I h.length)) (r25 : σ.regs 25 = .a (I 0))
  (m22 : σ.mem 22 = some (.mpo [])) (m7 : σ.mem 7 = some (.log 129 1 [])) : ∃ σ', Ghost σ σ' ∧ TabG h 0 σ' := by
 have h0 : TabI h 0 ((σ.setOb 22 (.sem (rmp []))).setOb 7 (.sem (rrow 129 []))) := by
  refine ⟨Nat.zero_le _, r0, r6, r7, r23, r24, r25, ?_, ?_, ?_, ?_⟩
  ·simp [S.setOb, upd]; rfl
  ·simp [S.setOb, upd]; rfl
  ·intro j kp hj; simp [tabAt] at hj
  ·intro j kp hj; simp [tabAt] at hj
 obtain ⟨σ1, g1, i1⟩ := tab_ghost h60 h0
 exact ⟨σ1, ((g_map_nil m22).trans (g_row_nil (by simp [S.setOb, upd, m7]))).trans g1, i1⟩
section
variable {P : Program} {gl : Nat → Option (List D)} {σ : S} {K : S → Prop} {dst : Option Tmp} {ty : TypeId} {pos : String} {after : Array Edge} {g : Option (Nat × Bool)}
theorem y_idx0 {t : TypeId} {x i : Operand} : opA0 P gl ⟨dst, .indexAddr t x i, ty, pos, after, g⟩ σ K = opQ P gl ⟨dst, .indexAddr t x i, ty, pos, after, g⟩ σ fun r => K (σ.put dst r) := rfl
theorem y_ld0 {t : TypeId} {x : Operand} : opA0 P gl ⟨dst, .load t x, ty, pos, after, g⟩ σ K = opQ P gl ⟨dst, .load t x, ty, pos, after, g⟩ σ fun r => K (σ.put dst r) := rfl
end
theorem k_sem {x : SemOb} {d : Nat} (h : d ∉ x.os) : Ob.kill d (.sem x) = .sem x := by
 have : x.os.any (fun o' => o' == d) = false := by
  simp only [List.any_eq_false, beq_iff_eq]
  intro o ho e; exact h (e ▸ ho)
 show (if _ then _ else _) = _
 rw [this]; rfl
theorem k_rmp {ks : List Kp} {d j : Nat} (h : decide (d < 1000000) = true) : Ob.kill d (.sem (rmp (kvFrom ks j))) = .sem (rmp (kvFrom ks j)) := k_sem (by
 have := of_decide_eq_true h
 show d ∉ (kvFrom ks j).map (·.2)
 rw [kvFrom_ids]
 simp only [List.mem_map, List.mem_range, not_exists, not_and]
 intro i _ e
 have := kid_eq (j + i); omega)
theorem k_rrow {n d : Nat} {e : TypeId} (h : decide (d < 1000000) = true) : Ob.kill d (.sem (rrow e (kidsN n))) = .sem (rrow e (kidsN n)) := k_sem (by
 have := of_decide_eq_true h
 show d ∉ kidsN n
 rw [kidsN_mem]
 rintro ⟨i, _, e⟩
 have := kid_eq i; omega)
theorem k_cells {kp : Kp} {d j : Nat} (h : decide (d < 1000000) = true) : (kp.cells (rid j)).map (R.kill d) = kp.cells (rid j) := by
 have hr : (rid j == d) = false := rid_lo h
 cases ho : kp.ops <;> simp [Kp.cells, ho, opsR, R.kill, R.says, R.says0, hr]
theorem k_log {d : Nat} {e : TypeId} {z : Nat} {xs : List (List D)} : Ob.kill d (.log e z xs) = .log e z xs := rfl
structure TabJ (h : List Ev) (k : Nat) (σ : S) : Prop where
 le : k ≤ (tabAt h h.length).length
 r55 : σ.regs 55 = .own 7
 r56 : σ.regs 56 = .a (I (tabAt h h.length).length)
 r57 : σ.regs 57 = .a (I k)
 r11 : σ.regs 11 = .own 11
 m7 : σ.mem 7 = some (.log 129 1 ((tabAt h h.length).map fun kp => [.pt kp.data]))
 m11 : σ.mem 11 = some (.log 74 5 (((tabAt h h.length).take k).map fun kp => [dI kp.name, dI kp.first, dI kp.last, dI kp.st, .sl (kp.ops.map Op.enc)]))
theorem tab_next {h : List Ev} (h60 : h.length ≤ 60) {k : Nat} (hk : k < h.length) {σ : S} (hI : TabI h (k + 1) σ) : ∃ σ'' a', Ghost σ σ'' ∧ TabG h a' σ'' ∧ h.length - a' < h.length - k := by
 obtain ⟨σ', g, i⟩ := tab_ghost h60 hI
 exact ⟨σ', k + 1, g, i, by omega⟩
theorem nn_ff : (false != false) = false := rfl
theorem nn_tf : (true != false) = true := rfl
theorem tab_set {h : List Ev} {k j : Nat} {kp : Kp} {e : Ev} (hx : h[k]? = some e) (hj : pos (tabAt h k) e.tx = some j) (hkp : (tabAt h k)[j]? = some kp) : tabAt h (k + 1) = (tabAt h k).set j (takeK kp k e) := by
 simp only [tabAt, hx, tabStep, hj, hkp]
theorem tab_app {h : List Ev} {k : Nat} {e : Ev} (hx : h[k]? = some e) (hj : pos (tabAt h k) e.tx = none) : tabAt h (k + 1) = tabAt h k ++ [newKp k e] := by
 simp only [tabAt, hx, tabStep, hj]
theorem tab_next' {h : List Ev} (h60 : h.length ≤ 60) {k : Nat} (hk : k < h.length) {σ τ : S} (hg : Ghost σ τ) (hI : TabI h (k + 1) τ) : ∃ σ'' a', Ghost σ σ'' ∧ TabG h a' σ'' ∧ h.length - a' < h.length - k := by
 obtain ⟨σ', a', g, r⟩ := tab_next h60 hk hI
 exact ⟨σ', a', hg.trans g, r⟩
def Ftb : List (List Nat) := [[0, 1, 2, 3, 4], [0, 1, 2, 3], [], []]
theorem mv_sem {x : SemOb} {a b : Nat} (h : b ∉ x.os) : Ob.mv a b (.sem x) = .sem (x.mv a b) := by
 have : x.os.any (fun o => o == b) = false := by
  simp only [List.any_eq_false, beq_iff_eq]
  intro o ho e; exact h (e ▸ ho)
 show (if _ then _ else _) = _
 rw [this]; rfl
theorem nm_kid {j b : Nat} : nm 41 b (kid j) = kid j := by
 unfold nm; rw [if_neg (by have := kid_eq j; omega)]
theorem nm_from {b : Nat} : ∀ {ks : List Kp} {j : Nat}, (kvFrom ks j).map (fun p => (p.1, nm 41 b p.2)) = kvFrom ks j
 | [], j => rfl
 | kp :: ks, j => by simp only [kvFrom, List.map_cons, nm_kid, nm_from]
theorem mv_rmp {ks : List Kp} {x : Int} : Ob.mv 41 (kid ks.length) (.sem (rmp (kvFrom ks 0 ++ [(x, 41)]))) = .sem (rmp (kvFrom ks 0 ++ [(x, kid ks.length)])) := by
 have hids := @kvFrom_ids ks 0
 rw [mv_sem, rmp_mv]
 ·congr 2
  rw [List.map_append]
  congr 1
  exact nm_from
 ·show kid ks.length ∉ (kvFrom ks 0 ++ [(x, 41)]).map fun p : Int × Nat => p.2
  rw [List.map_append, hids]
  simp only [List.mem_append, List.mem_map, List.mem_range, not_or, not_exists, not_and, List.map_cons, List.map_nil, List.mem_singleton]
  exact ⟨fun i hi e => by have := kid_inj e; omega, by have := kid_eq ks.length; omega⟩
theorem mv_rrow {n : Nat} {e : TypeId} : Ob.mv 41 (kid n) (.sem (rrow e (kidsN n ++ [41]))) = .sem (rrow e (kidsN n ++ [kid n])) := by
 rw [mv_sem, rrow_mv]
 ·congr 2
  rw [List.map_append]
  congr 1
  ·rw [List.map_congr_left (g := id), List.map_id]
   intro x hx
   obtain ⟨i, _, rfl⟩ := kidsN_mem.1 hx
   exact nm_kid
 ·show kid n ∉ kidsN n ++ [41]
  simp only [List.mem_append, kidsN_mem, not_or, not_exists, not_and, List.mem_singleton]
  exact ⟨fun i hi e => by have := kid_inj e; omega, by have := kid_eq n; omega⟩
theorem mv_cells {kp : Kp} {j n : Nat} (hn : n < 100) : (kp.cells (rid j)).map (R.mv 41 (kid n)) = kp.cells (rid j) := by
 have h1 : (rid j == kid n) = false := rid_kid hn
 have h2 : (rid j == 41) = false := rid_lo rfl
 cases ho : kp.ops with
 | nil => simp [Kp.cells, ho, opsR, mv_a, mv_cs]
 | cons x xs => simp [Kp.cells, ho, opsR, mv_a, mv_ownn h1 h2]
def Kp.row (kp : Kp) : List D := [dI kp.name, dI kp.first, dI kp.last, dI kp.st, .sl (kp.ops.map Op.enc)]
def tabD (h : List Ev) : List (List D) := if checkE h = 0 then (tabAt h h.length).map Kp.row else []
theorem t56 (h : List Ev) : Holds Tryz.prog GL 49 [evsA h] [.a (.d (.sl (tabD h))), .a (I (checkE h))] := by
 refine fn_holds (vs := [.tmp 2, .tmp 3]) (by kernel_rfl) Tryz.func49 rfl rfl (by kernel_rfl) (by kernel_rfl) rfl ?_
 (refine rO ?_; repeat' ((with_reducible first | refine rG ?_ | (refine rS ?_ ?_ <;> intro hp) | (refine rB ?_ ?_ <;> intro hb <;> try rw [hb]) | refine rD ?_ | apply c45) <;> try simp only [go_sem, simprocAttr, PG]))
 ·refine SemOp.old ?_
  (refine rO ?_; repeat' ((with_reducible first | refine rG ?_ | (refine rS ?_ ?_ <;> intro hp) | (refine rB ?_ ?_ <;> intro hb <;> try rw [hb]) | refine rD ?_ | apply c45) <;> try simp only [go_sem, simprocAttr, PG, y_mk0]))
  have h60 : h.length ≤ 60 := by
   rcases Nat.lt_or_ge 60 h.length with h1 | h1
   ·exfalso
    have : rightH h = false := by simp [rightH]; omega
    simp [checkE, this] at hp
   ·exact h1
  refine awp_loopG (TabG h) (fun k => h.length - k) 0 ?_ ?_
  ·refine tab_start h60 ?_ ?_ ?_ ?_ ?_ ?_ ?_ ?_ <;> simp only [go_sem, simprocAttr, List.length_map] <;> rfl
  intro k σ hI
  rcases hI with ⟨hk, hI⟩ | ⟨hk, hI⟩
  ·obtain ⟨_, r0, r6, r7, r23, r24, r25, m22, m7, kb, kr⟩ := hI
   have hki : ((k : Int) < (h.length : Int)) = True := eq_true (by omega)
   have hx : h[k]? = some h[k] := List.getElem?_eq_getElem hk
   have hw := wrap_succ (n := h.length) hk (by simp only [maxLen]; omega)
   (refine rO ?_; repeat' ((with_reducible first | refine rG ?_ | (refine rS ?_ ?_ <;> intro hp) | (refine rB ?_ ?_ <;> intro hb <;> try rw [hb]) | refine rD ?_) <;> try simp only [go_sem, simprocAttr, PG, r0, r6, r7, r23, r24, r25, hx, hw, Ev.enc_eq]))
   ·refine sem_lookup (o := 22) (kv := kvFrom (tabAt h k) 0) (n := h[k].tx) (by kernel_rfl) (by simp only [go_sem, simprocAttr, r6]) (by simp only [go_sem, simprocAttr, m22, k_rmp]) (by simp only [go_sem, simprocAttr]) ?_ (fun q hq => ?_) (fun hq => ?_)
    ·intro p hp
     have hp2 : p.2 ∈ (kvFrom (tabAt h k) 0).map (·.2) := List.mem_map.2 ⟨p, hp, rfl⟩
     rw [kvFrom_ids] at hp2
     obtain ⟨i, hi, e⟩ := List.mem_map.1 hp2
     have hi := List.mem_range.1 hi
     rw [Nat.zero_add] at e
     rw [← e]
     exact ⟨_, by simp only [go_sem, simprocAttr, lo_kid, kb i _ (List.getElem?_eq_getElem hi), k_cells]; rfl⟩
    ·rw [kvN_from] at hq
     obtain ⟨j, hj, rfl⟩ := Option.map_eq_some_iff.1 hq
     rw [Nat.zero_add]
     obtain ⟨kp, hkp, hnm⟩ := pos_at hj
     have hjl := (List.getElem?_eq_some_iff.1 hkp).1
     have hj60 : j < 100 := by have := tab_len (h := h) k; omega
     (refine rO ?_; repeat' ((with_reducible first | refine rG ?_ | (refine rS ?_ ?_ <;> intro hp) | (refine rB ?_ ?_ <;> intro hb <;> try rw [hb]) | refine rD ?_) <;> try simp only [go_sem, simprocAttr, PG, r0, r6, r7, r23, r24, r25, hx, hw, Ev.enc_eq]))
     refine sem_ptr_nil (b := false) (.inl ⟨rfl, rfl⟩) Tryz.underlying129 (.inr ⟨kid j, 0, by simp only [go_sem, simprocAttr], rfl⟩) ?_
     (refine rO ?_; repeat' ((with_reducible first | refine rG ?_ | (refine rS ?_ ?_ <;> intro hp) | (refine rB ?_ ?_ <;> intro hb <;> try rw [hb]) | refine rD ?_) <;> try simp only [go_sem, simprocAttr, PG, nn_ff, r0, r6, r7, r23, r24, r25, hx, hw, Ev.enc_eq]))
     refine call_inl (take_inl (o := kid j) (q := rid j) (i := k) (e := h[k]) (kp := kp) (kid_lt hj60) (rid_lt hj60) (kid_rid hj60) (rid_kid hj60) ?_ (fun hn => ?_) ?_ (fun σ2 hR hB hW hO => ?_))
     ·simp only [go_sem, simprocAttr, lo_kid, kb j kp hkp, k_cells]
     ·simp only [go_sem, simprocAttr, lo_rid, kr j kp hkp hn, k_log]
     ·have := tab_ops k kp (List.mem_of_getElem? hkp); omega
     ·have e0 := hR 0 (by simp only [go_sem, simprocAttr, r0]; exact fineR_a)
      have e6 := hR 6 (by simp only [go_sem, simprocAttr, r6]; exact fineR_omp (lo_rid rfl))
      have e7 := hR 7 (by simp only [go_sem, simprocAttr, r7]; exact fineR_own (lo_rid rfl))
      have e23 := hR 23 (by simp only [go_sem, simprocAttr, r23]; exact fineR_a)
      have e24 := hR 24 (by simp only [go_sem, simprocAttr, r24]; exact fineR_a)
      have e25 := hR 25 (by simp only [go_sem, simprocAttr, r25]; exact fineR_a)
      simp only [go_sem, simprocAttr, r0] at e0
      simp only [go_sem, simprocAttr, r6] at e6
      simp only [go_sem, simprocAttr, r7] at e7
      simp only [go_sem, simprocAttr, r23] at e23
      simp only [go_sem, simprocAttr, r24] at e24
      simp only [go_sem, simprocAttr, r25] at e25
      have f22 := hO 22 (.sem (rmp (kvFrom (tabAt h k) 0))) (lo_kid rfl) (lo_rid rfl) rfl (by simp only [go_sem, simprocAttr, m22, k_rmp]) (fineO_sem (by
       show _ ∉ (kvFrom (tabAt h k) 0).map (·.2)
       rw [kvFrom_ids]
       simp only [List.mem_map, List.mem_range, not_exists, not_and]
       intro i hi e
       have := kid_eq (0 + i); have := rid_eq j; have := tab_len (h := h) k; omega))
      have f7 := hO 7 (.sem (rrow 129 (kidsN (tabAt h k).length))) (lo_kid rfl) (lo_rid rfl) rfl (by simp only [go_sem, simprocAttr, m7, k_rrow]) (fineO_sem (by
       show _ ∉ kidsN _
       rw [kidsN_mem]
       rintro ⟨i, hi, e⟩
       have := kid_eq i; have := rid_eq j; have := tab_len (h := h) k; omega))
      have fk : ∀ j' kp', j' ≠ j → (tabAt h k)[j']? = some kp' → σ2.mem (kid j') = some (.box (kp'.cells (rid j'))) := fun j' kp' hne hk' => by
       have hj' := (List.getElem?_eq_some_iff.1 hk').1
       have hj'60 : j' < 100 := by have := tab_len (h := h) k; omega
       exact hO (kid j') _ (kid_ne hne) (kid_rid hj'60) (kid_lt hj'60) (by simp only [go_sem, simprocAttr, lo_kid, kb j' kp' hk', k_cells]) (fineO_kp (rid_ne hne))
      have fr : ∀ j' kp', j' ≠ j → (tabAt h k)[j']? = some kp' → kp'.ops ≠ [] → σ2.mem (rid j') = some (.log 158 3 (kp'.ops.map Op.enc)) := fun j' kp' hne hk' hn => by
       have hj' := (List.getElem?_eq_some_iff.1 hk').1
       have hj'60 : j' < 100 := by have := tab_len (h := h) k; omega
       exact hO (rid j') _ (rid_kid hj60) (rid_ne hne) (rid_lt hj'60) (by simp only [go_sem, simprocAttr, lo_rid, kr j' kp' hk' hn, k_log]) fineO_log
      have hset := tab_set hx hj hkp
      (refine rO ?_; repeat' ((with_reducible first | refine rG ?_ | (refine rS ?_ ?_ <;> intro hp) | (refine rB ?_ ?_ <;> intro hb <;> try rw [hb]) | refine rD ?_) <;> try simp only [go_sem, simprocAttr, PG, one, e0, e6, e7, e23, e24, e25, hx, hw, Ev.enc_eq]))
      refine tab_next h60 hk ⟨by omega, ?_, ?_, ?_, ?_, ?_, ?_, ?_, ?_, fun j' kp' hk' => ?_, fun j' kp' hk' hn => ?_⟩
      iterate 6 (· simp only [go_sem, simprocAttr, e0, e6, e7, e23, e24, e25, hw])
      ·simp only [go_sem, simprocAttr, f22]
       rw [hset, kvFrom_set fun kp2 h2 => by rw [hkp] at h2; cases h2; exact takeK_name]
      ·simp only [go_sem, simprocAttr, f7]
       rw [hset, List.length_set]
      ·rw [hset] at hk'
       by_cases hjj : j' = j
       ·subst hjj
        rw [List.getElem?_set_self hjl] at hk'
        cases hk'
        simp only [go_sem, simprocAttr, hB]
       ·rw [List.getElem?_set_ne (Ne.symm hjj)] at hk'
        simp only [go_sem, simprocAttr, fk j' kp' hjj hk']
      ·rw [hset] at hk'
       by_cases hjj : j' = j
       ·subst hjj
        rw [List.getElem?_set_self hjl] at hk'
        cases hk'
        simp only [go_sem, simprocAttr, hW hn]
       ·rw [List.getElem?_set_ne (Ne.symm hjj)] at hk'
        simp only [go_sem, simprocAttr, fr j' kp' hjj hk' hn]
    ·have hpn : pos (tabAt h k) h[k].tx = none := by
      rw [kvN_from] at hq
      cases hp9 : pos (tabAt h k) h[k].tx with
      | none => rfl
      | some j => rw [hp9] at hq; cases hq
     (refine rO ?_; repeat' ((with_reducible first | refine rG ?_ | (refine rS ?_ ?_ <;> intro hp) | (refine rB ?_ ?_ <;> intro hb <;> try rw [hb]) | refine rD ?_) <;> try simp only [go_sem, simprocAttr, PG, nn_tf, r0, r6, r7, r23, r24, r25, hx, hw, Ev.enc_eq]))
     refine sem_ptr_nil (b := true) (.inl ⟨rfl, rfl⟩) Tryz.underlying129 (.inl ⟨by simp only [go_sem, simprocAttr], rfl⟩) ?_
     (refine rO ?_; repeat' ((with_reducible first | refine rG ?_ | (refine rS ?_ ?_ <;> intro hp) | (refine rB ?_ ?_ <;> intro hb <;> try rw [hb]) | refine rD ?_) <;> try simp only [go_sem, simprocAttr, PG, nn_tf, r0, r6, r7, r23, r24, r25, hx, hw, Ev.enc_eq]))
     refine sem_build (ti := ⟨5, 56, true, [.int .i64 0, .int .i64 0, .int .i64 0, .int .i64 0, .slice none 0 0]⟩) (offs := [(0, 1, false), (1, 1, false), (2, 1, false), (3, 1, false), (4, 1, false)]) (l := [(0, .tmp 37), (1, .tmp 38)]) (ps := [(0, [.a (I h[k].tx)]), (1, [.a (I k)])]) (rs := [.a (I h[k].tx), .a (I k), .a (I 0), .a (I 0), .cs []]) (by kernel_rfl) (by kernel_rfl) rfl rfl (by simp only [partsR, go_sem, simprocAttr]) rfl ?_
     (refine rO ?_; repeat' ((with_reducible first | refine rG ?_ | (refine rS ?_ ?_ <;> intro hp) | (refine rB ?_ ?_ <;> intro hb <;> try rw [hb]) | refine rD ?_) <;> try simp only [go_sem, simprocAttr, PG, nn_tf, r0, r6, r7, r23, r24, r25, hx, hw, Ev.enc_eq]))
     refine sem_build (ti := ⟨9, 88, true, [.int .i64 0, .int .i64 0, .int .i64 0, .int .i64 0, .slice none 0 0, .int .i64 0, .int .i64 0, .int .i64 0, .int .i64 0]⟩) (offs := [(0, 5, true), (5, 4, true)]) (l := [(0, .tmp 39)]) (ps := [(0, [.a (I h[k].tx), .a (I k), .a (I 0), .a (I 0), .cs []])]) (rs := [.a (I h[k].tx), .a (I k), .a (I 0), .a (I 0), .cs [], .a (I 0), .a (I 0), .a (I 0), .a (I 0)]) (by kernel_rfl) (by kernel_rfl) rfl rfl (by simp only [partsR, go_sem, simprocAttr]) rfl ?_
     (refine rO ?_; repeat' ((with_reducible first | refine rG ?_ | (refine rS ?_ ?_ <;> intro hp) | (refine rB ?_ ?_ <;> intro hb <;> try rw [hb]) | refine rD ?_ | refine draw_F Ftb (by decide +kernel) ?_) <;> try simp only [go_sem, simprocAttr, PG, Ftb, nn_tf, r0, r6, r7, r23, r24, r25, hx, hw, Ev.enc_eq]))
     refine sem_bs1 (ti := ⟨1, 8, false, [.pointer none]⟩) (e := 129) (q := 41) Tryz.underlying128 (by kernel_rfl) rfl rfl (by simp only [go_sem, simprocAttr]) (by decide) ?_
     (refine rO ?_; repeat' ((with_reducible first | refine rG ?_ | (refine rS ?_ ?_ <;> intro hp) | (refine rB ?_ ?_ <;> intro hb <;> try rw [hb]) | refine rD ?_) <;> try simp only [go_sem, simprocAttr, PG, Ftb, nn_tf, r0, r6, r7, r23, r24, r25, hx, hw, Ev.enc_eq]))
     have hn7 : 7 ∉ kidsN (tabAt h k).length := by
      rw [kidsN_mem]
      rintro ⟨i, _, e⟩
      have := kid_eq i; omega
     have htl := tab_len (h := h) k
     refine sem_app (ti := ⟨1, 8, false, [.pointer none]⟩) (e := 129) (o := 7) (o2 := 48) (ids := kidsN (tabAt h k).length) (ids2 := [41]) (by kernel_rfl) (by kernel_rfl) rfl rfl (by decide) (by simp only [go_sem, simprocAttr, r7]) (by simp only [go_sem, simprocAttr]) (by simp only [go_sem, simprocAttr, m7, k_rrow]) (by simp only [go_sem, simprocAttr]) hn7 (by decide) (by decide) (by simp [kidsN]; omega) ?_
     (refine rO ?_; repeat' ((with_reducible first | refine rG ?_ | (refine rS ?_ ?_ <;> intro hp) | (refine rB ?_ ?_ <;> intro hb <;> try rw [hb]) | refine rD ?_) <;> try simp only [go_sem, simprocAttr, PG, Ftb, nn_tf, r0, r6, r7, r23, r24, r25, hx, hw, Ev.enc_eq]))
     refine sem_upd (kt := 3) (e := 129) (o := 22) (q := 41) (kv := kvFrom (tabAt h k) 0) (n := h[k].tx) Tryz.underlying127 Tryz.underlying3 (by simp only [go_sem, simprocAttr, r6]) (by simp only [go_sem, simprocAttr, m22, k_rmp]) (by simp only [go_sem, simprocAttr]) (by simp only [go_sem, simprocAttr]) (by simp only [go_sem, simprocAttr]; rfl) hq ?_
     (refine rO ?_; repeat' ((with_reducible first | refine rG ?_ | (refine rS ?_ ?_ <;> intro hp) | (refine rB ?_ ?_ <;> intro hb <;> try rw [hb]) | refine rD ?_) <;> try simp only [go_sem, simprocAttr, PG, Ftb, nn_tf, r0, r6, r7, r23, r24, r25, hx, hw, Ev.enc_eq]))
     have hn100 : (tabAt h k).length < 100 := by omega
     refine call_inl (take_inl (o := 41) (q := rid (tabAt h k).length) (i := k) (e := h[k]) (kp := ⟨h[k].tx, k, 0, 0, [], ⟨0, 0, 0, 0⟩⟩) rfl (rid_lt hn100) (lo_rid rfl) (rid_lo rfl) ?_ (fun hn => absurd rfl hn) (Nat.zero_le _) (fun σ2 hR hB hW hO => ?_))
     ·simp only [go_sem, simprocAttr]; rfl
     ·have e0 := hR 0 (by simp only [go_sem, simprocAttr, r0]; exact fineR_a)
      have e6 := hR 6 (by simp only [go_sem, simprocAttr, r6]; exact fineR_omp (lo_rid rfl))
      have e7 := hR 7 (by simp only [go_sem, simprocAttr, r7]; exact fineR_own (lo_rid rfl))
      have e23 := hR 23 (by simp only [go_sem, simprocAttr, r23]; exact fineR_a)
      have e24 := hR 24 (by simp only [go_sem, simprocAttr, r24]; exact fineR_a)
      have e25 := hR 25 (by simp only [go_sem, simprocAttr, r25]; exact fineR_a)
      simp only [go_sem, simprocAttr, r0] at e0
      simp only [go_sem, simprocAttr, r6] at e6
      simp only [go_sem, simprocAttr, r7] at e7
      simp only [go_sem, simprocAttr, r23] at e23
      simp only [go_sem, simprocAttr, r24] at e24
      simp only [go_sem, simprocAttr, r25] at e25
      have f22 := hO 22 (.sem (rmp (kvFrom (tabAt h k) 0 ++ [(h[k].tx, 41)]))) rfl (lo_rid rfl) rfl (by simp only [go_sem, simprocAttr]) (fineO_sem (by
       show _ ∉ (kvFrom (tabAt h k) 0 ++ [(h[k].tx, 41)]).map fun p : Int × Nat => p.2
       rw [List.map_append, kvFrom_ids]
       simp only [List.mem_append, List.mem_map, List.mem_range, not_or, not_exists, not_and, List.map_cons, List.map_nil, List.mem_singleton]
       exact ⟨fun i hi e => by have := kid_eq (0 + i); have := rid_eq (tabAt h k).length; omega, by have := rid_eq (tabAt h k).length; omega⟩))
      have f7 := hO 7 (.sem (rrow 129 (kidsN (tabAt h k).length ++ [41]))) rfl (lo_rid rfl) rfl (by simp only [go_sem, simprocAttr]) (fineO_sem (by
       show _ ∉ kidsN _ ++ [41]
       simp only [List.mem_append, kidsN_mem, not_or, not_exists, not_and, List.mem_singleton]
       exact ⟨fun i hi e => by have := kid_eq i; have := rid_eq (tabAt h k).length; omega, by have := rid_eq (tabAt h k).length; omega⟩))
      have fk : ∀ j' kp', (tabAt h k)[j']? = some kp' → σ2.mem (kid j') = some (.box (kp'.cells (rid j'))) := fun j' kp' hk' => by
       have hj' := (List.getElem?_eq_some_iff.1 hk').1
       have hj'60 : j' < 100 := by omega
       exact hO (kid j') _ (kid_lo rfl) (kid_rid hj'60) (kid_lt hj'60) (by simp only [go_sem, simprocAttr, lo_kid, kb j' kp' hk', k_cells]) (fineO_kp (rid_ne (by omega)))
      have fr : ∀ j' kp', (tabAt h k)[j']? = some kp' → kp'.ops ≠ [] → σ2.mem (rid j') = some (.log 158 3 (kp'.ops.map Op.enc)) := fun j' kp' hk' hn => by
       have hj' := (List.getElem?_eq_some_iff.1 hk').1
       have hj'60 : j' < 100 := by omega
       exact hO (rid j') _ (rid_lo rfl) (rid_ne (by omega)) (rid_lt hj'60) (by simp only [go_sem, simprocAttr, lo_rid, kr j' kp' hk' hn, k_log]) fineO_log
      have happ := tab_app hx hpn
      (refine rO ?_; repeat' ((with_reducible first | refine rG ?_ | (refine rS ?_ ?_ <;> intro hp) | (refine rB ?_ ?_ <;> intro hb <;> try rw [hb]) | refine rD ?_) <;> try simp only [go_sem, simprocAttr, PG, one, e0, e6, e7, e23, e24, e25, hx, hw, Ev.enc_eq]))
      refine tab_next' h60 hk (g_mv (a := 41) (b := kid (tabAt h k).length) (by decide) (by have := kid_eq (tabAt h k).length; omega)) ⟨by omega, ?_, ?_, ?_, ?_, ?_, ?_, ?_, ?_, fun j' kp' hk' => ?_, fun j' kp' hk' hn => ?_⟩
      iterate 6 (· simp only [go_sem, simprocAttr, PM, e0, lo_kid, e6, e7, e23, e24, e25, hw])
      ·rw [happ, kvFrom_app, Nat.zero_add]
       simp only [go_sem, simprocAttr, mv_mo, lo_kid, f22, mv_rmp, newKp, takeK_name]
      ·rw [happ, List.length_append, List.length_singleton, kidsN_succ]
       simp only [go_sem, simprocAttr, mv_mo, lo_kid, f7, mv_rrow]
      ·rw [happ] at hk'
       rcases Nat.lt_or_ge j' (tabAt h k).length with hlt | hge
       ·rw [List.getElem?_append_left hlt] at hk'
        have h1 : (kid j' == kid (tabAt h k).length) = false := kid_ne (by omega)
        simp only [go_sem, simprocAttr, mv_mo, h1, kid_lo, fk j' kp' hk', mo_box, mv_cells hn100]
       ·rw [List.getElem?_append_right hge] at hk'
        have hje : j' = (tabAt h k).length := by
         have := (List.getElem?_eq_some_iff.1 hk').1
         simp at this; omega
        subst hje
        rw [Nat.sub_self] at hk'
        cases hk'
        simp only [go_sem, simprocAttr, mv_mb, hB, mo_box, mv_cells hn100]
        rfl
      ·rw [happ] at hk'
       rcases Nat.lt_or_ge j' (tabAt h k).length with hlt | hge
       ·rw [List.getElem?_append_left hlt] at hk'
        have h1 : (rid j' == kid (tabAt h k).length) = false := rid_kid hn100
        simp only [go_sem, simprocAttr, mv_mo, h1, rid_lo, fr j' kp' hk' hn, mo_log]
       ·rw [List.getElem?_append_right hge] at hk'
        have hje : j' = (tabAt h k).length := by
         have := (List.getElem?_eq_some_iff.1 hk').1
         simp at this; omega
        subst hje
        rw [Nat.sub_self] at hk'
        cases hk'
        have h1 : (rid (tabAt h k).length == kid (tabAt h k).length) = false := rid_kid hn100
        have hW' := hW hn
        simp only [go_sem, simprocAttr, mv_mo, h1, rid_lo, hW', mo_log]
        rfl
   ·exact absurd ‹_› (by omega)
  ·subst hk
   obtain ⟨r7, r24, r25, m7⟩ := hI
   (refine rO ?_; repeat' ((with_reducible first | refine rG ?_ | (refine rS ?_ ?_ <;> intro hp) | (refine rB ?_ ?_ <;> intro hb <;> try rw [hb]) | refine rD ?_) <;> try simp only [go_sem, simprocAttr, PG, r7, r24, r25, m7, List.length_map]))
   ·exact absurd ‹_› (by omega)
   ·have hlen := tab_len (h := h) h.length
    refine awp_loopG (TabJ h) (fun k => (tabAt h h.length).length - k) 0 ⟨_, Ghost.refl _, Nat.zero_le _, ?_, ?_, ?_, ?_, ?_, ?_⟩ ?_
    iterate 6 (· simp only [go_sem, simprocAttr, m7, k_log])
    intro k σ hJ
    obtain ⟨hk, r55, r56, r57, r11, m7, m11⟩ := hJ
    (refine rO ?_; repeat' ((with_reducible first | refine rG ?_ | (refine rS ?_ ?_ <;> intro hp) | (refine rB ?_ ?_ <;> intro hb <;> try rw [hb]) | refine rD ?_) <;> try simp only [go_sem, simprocAttr, PG, r55, r56, r57, r11, m7, m11, List.length_map]))
    ·have hk' : k < (tabAt h h.length).length := by omega
     have hx : (tabAt h h.length)[k]? = some (tabAt h h.length)[k] := List.getElem?_eq_getElem hk'
     have hw := wrap_succ (n := (tabAt h h.length).length) hk' (by simp only [maxLen]; omega)
     refine SemOp.old ?_
     (refine rO ?_; repeat' ((with_reducible first | refine rG ?_ | (refine rS ?_ ?_ <;> intro hp) | (refine rB ?_ ?_ <;> intro hb <;> try rw [hb]) | refine rD ?_) <;> try simp only [go_sem, simprocAttr, PG, y_idx0, r55, r56, r57, r11, m7, m11, List.length_map, hx]))
     refine SemOp.old ?_
     (refine rO ?_; repeat' ((with_reducible first | refine rG ?_ | (refine rS ?_ ?_ <;> intro hp) | (refine rB ?_ ?_ <;> intro hb <;> try rw [hb]) | refine rD ?_) <;> try simp only [go_sem, simprocAttr, PG, y_ld0, Kp.data, r55, r56, r57, r11, m7, m11, List.length_map, hx]))
     refine ⟨by simp; omega, _, k + 1, Ghost.refl _, ⟨by omega, ?_, ?_, ?_, ?_, ?_, ?_⟩, by omega⟩
     iterate 5 (· simp only [go_sem, simprocAttr, r55, r56, r57, hw, m7, k_log])
     ·simp only [go_sem, simprocAttr, m11, k_log]
      rw [List.take_succ_eq_append_getElem hk', List.map_append]
      rfl
    ·have hke : k = (tabAt h h.length).length := by omega
     refine ⟨?_, (‹checkE h = 0›).symm⟩
     rw [hke, List.take_length, tabD, if_pos ‹checkE h = 0›]
     rfl
 ·unfold tabD; rw [if_neg ‹_›]
end Go.VC
end
section
set_option maxRecDepth 100000
namespace Go.VC
open Go.RowKit Go.Proofs Go.IntWalk
theorem idx_some {α : Type} {p : α → Bool} {l : List α} (h : ¬ idxOf p l = -1) : ∃ k, ∃ hk : k < l.length, idxOf p l = (k : Int) ∧ noneTo p l k ∧ p l[k] = true := by
 unfold idxOf at h ⊢
 cases hf : l.findIdx? p with
 | none => simp [hf] at h
 | some k =>
  obtain ⟨hk, h1, h2⟩ := List.findIdx?_eq_some_iff_getElem.1 hf
  refine ⟨k, hk, rfl, fun y hy => ?_, h1⟩
  obtain ⟨i, hi, rfl⟩ := List.mem_iff_getElem.1 hy
  have hik : i < k := Nat.lt_of_lt_of_le hi (by rw [List.length_take]; exact Nat.min_le_left _ _)
  have := h2 i hik
  simpa using this
end Go.VC
end
section
set_option maxRecDepth 100000
namespace Go.VC
open Go.RowKit Go.Proofs Go.IntWalk
def WFl (h : List Ev) : Prop := ∀ pre e suf, h = pre ++ e :: suf → may (lastK pre e.tx) e.kind = true
theorem wf_first (h : List Ev) : WFl h ↔ firstI h = h.length := by
 constructor
 ·intro hw
  refine first_none (k := h.length) (Nat.le_refl _) fun i hi => ?_
  have hx : h[i]? = some h[i] := List.getElem?_eq_getElem hi
  simp only [badAt, hx, Bool.not_eq_false']
  exact hw (h.take i) h[i] (h.drop (i + 1)) (by rw [← List.drop_eq_getElem_cons hi, List.take_append_drop])
 ·rintro hf pre e suf rfl
  have hb : badAt (pre ++ e :: suf) pre.length = false := by
   unfold firstI at hf
   have hn : (List.range (pre ++ e :: suf).length).find? (badAt (pre ++ e :: suf)) = none := by
    cases hq : (List.range (pre ++ e :: suf).length).find? (badAt (pre ++ e :: suf)) with
    | none => rfl
    | some k =>
     rw [hq] at hf
     have := List.mem_range.1 (List.mem_of_find?_eq_some hq)
     simp only [Option.getD_some] at hf; omega
   have := List.find?_eq_none.1 hn pre.length (List.mem_range.2 (by simp))
   simpa using this
  simpa [badAt] using hb
theorem check_wf {h : List Ev} (hr : rightH h = true) : checkE h = 0 ↔ WFl h := by
 rw [wf_first, run_eq]
 have hle := runF_le h []
 simp only [checkE, hr, if_true]
 constructor
 ·intro h1; by_cases hc : (runF h []).1 < h.length
  ·simp [hc] at h1
  ·omega
 ·intro h1; simp [h1]
end Go.VC
end
section
set_option maxRecDepth 100000
namespace Go.VC
open Go.RowKit Go.Proofs Go.IntWalk
theorem name_grow (e : Ev) (acc : List Int) : acc.length ≤ (nameStep acc e).length := by
 unfold nameStep; split <;> simp
theorem names_grow : ∀ (h : List Ev) (acc : List Int), acc.length ≤ (h.foldl nameStep acc).length
 | [], acc => Nat.le_refl _
 | e :: h, acc => Nat.le_trans (name_grow e acc) (names_grow h _)
theorem names_app (h s : List Ev) : (namesE h).length ≤ (namesE (h ++ s)).length := by
 unfold namesE; rw [List.foldl_append]; exact names_grow s _
theorem right_app {h s : List Ev} (hr : rightH (h ++ s) = true) : rightH h = true := by
 have hn := names_app h s
 simp only [rightH, Bool.and_eq_true, decide_eq_true_eq, List.all_append, List.length_append] at hr ⊢
 exact ⟨⟨by omega, hr.1.2.1⟩, by omega⟩
theorem run_app : ∀ (h s : List Ev) (now : List (Int × Int)), (runF h now).1 < h.length → (runF (h ++ s) now).1 = (runF h now).1
 | [], s, now, hl => by simp at hl
 | e :: h, s, now, hl => by
  simp only [List.cons_append, runF] at hl ⊢
  split
  ·rename_i hn
   rw [if_pos hn] at hl
   simp only [] at hl ⊢
   rw [run_app h s _ (by simpa using hl)]
  ·rfl
theorem run_app2 : ∀ (h s : List Ev) (now : List (Int × Int)), (runF h now).1 = h.length → (runF (h ++ s) now).1 = h.length + (runF s (runF h now).2).1
 | [], s, now, _ => by simp [runF]
 | e :: h, s, now, hl => by
  simp only [List.cons_append, runF, List.length_cons] at hl ⊢
  split
  ·rename_i hn
   rw [if_pos hn] at hl
   simp only [] at hl ⊢
   rw [run_app2 h s _ (by omega)]; omega
  ·rename_i hn
   rw [if_neg hn] at hl; simp at hl
theorem run_take (h : List Ev) (k : Nat) (hk : k ≤ h.length) : (runF (h.take k) []).1 = min k (runF h []).1 := by
 have hl : (h.take k).length = k := by simp [hk]
 have hle := runF_le (h.take k) []
 have hsplit : h = h.take k ++ h.drop k := (List.take_append_drop k h).symm
 rcases Nat.lt_or_ge (runF (h.take k) []).1 k with hlt | hge
 ·have := run_app (h.take k) (h.drop k) [] (by omega)
  rw [List.take_append_drop] at this; omega
 ·have := run_app2 (h.take k) (h.drop k) [] (by omega)
  rw [List.take_append_drop] at this; omega
theorem check_arg {h : List Ev} : checkE h = 1 ↔ rightH h = false := by
 cases hr : rightH h with
 | false => simp [checkE, hr]
 | true =>
  simp only [checkE, hr, if_true]
  constructor
  ·intro h1; split at h1 <;> simp at h1
  ·intro h1; cases h1
theorem check_form {h : List Ev} (hr : rightH h = true) : (checkE h = 6 ↔ (runF h []).1 < h.length) ∧ (checkE h = 0 ↔ (runF h []).1 = h.length) ∧ checkI h = ((runF h []).1 : Int) := by
 have hle := runF_le h []
 simp only [checkE, checkI, hr, if_true]
 refine ⟨?_, ?_, trivial⟩
 ·constructor
  ·intro h1; by_cases hc : (runF h []).1 < h.length
   ·exact hc
   ·simp [hc] at h1
  ·intro h1; simp [h1]
 ·constructor
  ·intro h1; by_cases hc : (runF h []).1 < h.length
   ·simp [hc] at h1
   ·omega
  ·intro h1; simp [h1]
theorem goes_take {h : List Ev} {k : Nat} (hk : k ≤ h.length) (hb : ¬ checkE h = 1) : (checkE (h.take k) = 0 ↔ k ≤ (runF h []).1) ∧ (checkE (h.take k) = 6 ↔ (runF h []).1 < k) ∧ checkI (h.take k) = ((min k (runF h []).1 : Nat) : Int) := by
 have hr : rightH h = true := by
  cases hr : rightH h with
  | true => rfl
  | false => exact absurd (check_arg.2 hr) hb
 have hrk : rightH (h.take k) = true := right_app (s := h.drop k) (by rw [List.take_append_drop]; exact hr)
 obtain ⟨h1, h2, h3⟩ := check_form hrk
 have hl : (h.take k).length = k := by simp [hk]
 have ht := run_take h k hk
 rw [h1, h2, h3, hl, ht]
 refine ⟨?_, ?_, rfl⟩ <;> omega
theorem cutN (N : Nat) (h : List Ev) : List.take (min (h.length : Int) N).toNat (h.map Ev.enc) = (h.take N).map Ev.enc := by
 have : (min (h.length : Int) N).toNat = min h.length N := by omega
 rw [this, ← List.map_take]
 congr 1
 rcases Nat.le_total h.length N with hl | hl
 ·rw [Nat.min_eq_left hl, List.take_of_length_le (Nat.le_refl _), List.take_of_length_le hl]
 ·rw [Nat.min_eq_right hl]
end Go.VC
end
section
namespace Go.VC
open Go.RowKit Go.Proofs Go.IntWalk
theorem check60 {h : List Ev} (h0 : checkE h = 0) : h.length ≤ 60 := by
 rcases Nat.lt_or_ge 60 h.length with h1 | h1
 ·exfalso
  have : rightH h = false := by simp [rightH]; omega
  simp [checkE, this] at h0
 ·exact h1
def tabOf (h : List Ev) : List Kp := tabAt h h.length
structure KExt (a b : Kp) : Prop where
 name : b.name = a.name
 first : b.first = a.first
 ops : a.ops <+: b.ops
def TExt (ks ks' : List Kp) : Prop := ∀ (j : Nat) a, ks[j]? = some a → ∃ b, ks'[j]? = some b ∧ KExt a b
theorem TExt.refl (ks : List Kp) : TExt ks ks := fun j a h => ⟨a, h, rfl, rfl, List.prefix_refl _⟩
theorem TExt.trans {a b c : List Kp} (h : TExt a b) (k : TExt b c) : TExt a c := fun j x hx => by
 obtain ⟨y, hy, n1, f1, o1⟩ := h j x hx
 obtain ⟨z, hz, n2, f2, o2⟩ := k j y hy
 exact ⟨z, hz, n2.trans n1, f2.trans f1, o1.trans o2⟩
theorem TExt.len {a b : List Kp} (h : TExt a b) : a.length ≤ b.length := by
 rcases Nat.lt_or_ge b.length a.length with hl | hl
 ·obtain ⟨y, hy, _⟩ := h b.length a[b.length] (List.getElem?_eq_getElem hl)
  simp at hy
 ·exact hl
theorem check_take {h : List Ev} (h0 : checkE h = 0) {k : Nat} (hk : k ≤ h.length) : checkE (h.take k) = 0 := by
 have hr : rightH h = true := by
  cases hr : rightH h with
  | true => rfl
  | false => rw [check_arg.2 hr] at h0; cases h0
 have := (goes_take hk (by rw [h0]; decide)).1
 rw [this]
 have := (check_form hr).2.1.1 h0
 omega
end Go.VC
end
section
set_option maxRecDepth 100000
namespace Go.VC
open Go.RowKit Go.Proofs Go.IntWalk
structure Txn where
 name : Int
 first : Int
 last : Int
 st : Int
 ops : List Op
def Txn.enc (t : Txn) : List D := [dI t.name, dI t.first, dI t.last, dI t.st, .sl (t.ops.map Op.enc)]
theorem Txn.enc_eq (t : Txn) : t.enc = [dI t.name, dI t.first, dI t.last, dI t.st, .sl (t.ops.map Op.enc)] := rfl
abbrev Txn.a (t : Txn) : A := .ag [dI t.name, dI t.first, dI t.last, dI t.st, .sl (t.ops.map Op.enc)]
abbrev txnsA (l : List Txn) : A := .d (.sl (l.map Txn.enc))
abbrev opsA' (l : List Op) : A := .d (.sl (l.map Op.enc))
def Kp.txn (k : Kp) : Txn := ⟨k.name, k.first, k.last, k.st, k.ops⟩
theorem txns_len {l : List Txn} : (∀ c ∈ l.map Txn.enc, c.length = 5) = True := eq_true fun c hc => by
 obtain ⟨e, _, rfl⟩ := List.mem_map.1 hc; rfl
def FitT (l : List Txn) : Prop := l.length ≤ 1000000 ∧ ∀ t ∈ l, t.ops.length ≤ 1000000
theorem FitT.at {l : List Txn} (h : FitT l) {k : Nat} (hk : k < l.length) : l[k].ops.length ≤ 1000000 := h.2 _ (List.getElem_mem hk)
def stateOf (k : Int) : Int := if k = 7 then 2 else if k = 9 then 3 else if k = 6 then 1 else 0
theorem t65 (k : Int) : Holds Tryz.prog GL 65 [I k] [.a (I (stateOf k))] := by
 refine fn_holds (vs := [.tmp 2]) (by kernel_rfl) Tryz.func65 rfl rfl (by kernel_rfl) (by kernel_rfl) rfl ?_
 (refine rO ?_; repeat' ((with_reducible first | refine rG ?_ | (refine rS ?_ ?_ <;> intro hp) | (refine rB ?_ ?_ <;> intro hb <;> try rw [hb]) | refine rD ?_ | refine rA ?_ | fail) <;> try simp only [go_sem, simprocAttr]))
 all_goals simp [stateOf, *]
theorem c65 {k : Int} {dst : Option Tmp} {σ : S} {K : S → Prop} (hK : S.ret σ dst [.a (I (stateOf k))] K) : callV Tryz.prog GL 65 [.a (I k)] dst σ K :=
 call_dat (t65 k) hK
def lastEv (h : List Ev) (tx : Int) : Ev := h.foldl (fun out e => if e.tx = tx then e else out) ⟨0, 0, 0, 0⟩
theorem lastEv_s {h : List Ev} {k : Nat} {tx : Int} (hk : k < h.length) : lastEv (h.take (k + 1)) tx = if h[k].tx = tx then h[k] else lastEv (h.take k) tx := by
 rw [List.take_succ_eq_append_getElem hk, lastEv, List.foldl_append]; rfl
abbrev evB (e : Ev) : Ob := .box [.a (I e.kind), .a (I e.tx), .a (I e.var), .a (I e.val)]
theorem t95 (h : List Ev) (i : Nat) (tx : Int) (hi : i ≤ h.length) (hl : h.length ≤ 1000000) : Holds Tryz.prog GL 101 [evsA h, I i, I tx] [.a (lastEv (h.take i) tx).a] := by
 refine fn_holds (vs := [.cell 6 61]) (by kernel_rfl) Tryz.func101 rfl rfl (by kernel_rfl) (by kernel_rfl) rfl ?_
 have hi1 : (i : Int) ≤ (h.length : Int) := by omega
 have htk : List.take i (h.map Ev.enc) = (h.take i).map Ev.enc := by rw [List.map_take]
 have hgl : (h.take i).length ≤ 1000000 := by simp; omega
 generalize h.take i = g at htk hgl
 (refine rO ?_; repeat' ((with_reducible first | refine rG ?_ | (refine rS ?_ ?_ <;> intro hp) | (refine rB ?_ ?_ <;> intro hb <;> try rw [hb]) | refine rD ?_ | refine rA ?_ | fail) <;> try simp only [go_sem, simprocAttr, hi1, htk, evs_lenT, Int.toNat_zero, List.length_map]))
 refine awp_loopA (fun k : Nat => [(2, .a (I tx)), (6, .ref 6 0), (7, .ref 7 0), (13, .a (evsA g)), (14, .a (I g.length)), (15, .a (I k))]) (fun k => [(6, evB ⟨0, 0, 0, 0⟩), (7, evB (lastEv (g.take k) tx))]) (fun k => k ≤ g.length) (g.length - ·) 0 ?_ ?_ (Nat.zero_le _) ?_
 ·simp only [go_sem, simprocAttr, htk]
 ·simp only [go_sem, simprocAttr]; try rfl
 intro k j hk
 (refine rO ?_; repeat' ((with_reducible first | refine rG ?_ | (refine rS ?_ ?_ <;> intro hp) | (refine rB ?_ ?_ <;> intro hb <;> try rw [hb]) | refine rD ?_ | refine rA ?_ | fail) <;> try simp only [go_sem, simprocAttr, evB]))
 ·have hkl : k < g.length := by omega
  have hx : g[k]? = some g[k] := List.getElem?_eq_getElem hkl
  have hw := wrap_succ (n := g.length) hkl (by simp only [maxLen]; omega)
  have hs := lastEv_s (tx := tx) hkl
  generalize g[k] = e at hx hs
  (refine rO ?_; repeat' ((with_reducible first | refine rG ?_ | (refine rS ?_ ?_ <;> intro hp) | (refine rB ?_ ?_ <;> intro hb <;> try rw [hb]) | refine rD ?_ | refine rA ?_ | fail) <;> try simp only [go_sem, simprocAttr, hx, evB, Ev.enc_eq, hw]))
  ·rw [if_pos ‹_›] at hs
   exact ⟨k + 1, by simp only [go_sem, simprocAttr], by simp only [go_sem, simprocAttr, evB, hs], hkl, by dsimp only; omega⟩
  ·rw [if_neg ‹_›] at hs
   exact ⟨k + 1, by simp only [go_sem, simprocAttr], by simp only [go_sem, simprocAttr, evB, hs], hkl, by dsimp only; omega⟩
 ·rw [List.take_of_length_le (by omega)]
def opsTo (h : List Ev) (tx : Int) : Nat → List Op
 | 0 => []
 | k + 1 => opsTo h tx k ++ match h[k]? with
  | some e => if e.tx = tx then (if e.kind = 3 then [⟨false, (lastEv (h.take k) tx).var, e.val⟩] else []) ++ (if e.kind = 5 then [⟨true, (lastEv (h.take k) tx).var, (lastEv (h.take k) tx).val⟩] else []) else []
  | none => []
theorem opsTo_le (h : List Ev) (tx : Int) : ∀ k, (opsTo h tx k).length ≤ k
 | 0 => Nat.le_refl _
 | k + 1 => by
  have := opsTo_le h tx k
  simp only [opsTo, List.length_append]
  split
  ·rename_i e _
   by_cases h1 : e.tx = tx
   ·by_cases h3 : e.kind = 3
    ·simp [h1, h3]; omega
    ·by_cases h5 : e.kind = 5 <;> simp [h1, h3, h5] <;> omega
   ·simp [h1]; omega
  ·simp; omega
theorem t67 (h : List Ev) (tx : Int) (hl : h.length ≤ 1000000) : Holds Tryz.prog GL 67 [evsA h, I tx] [.a (opsA' (opsTo h tx h.length))] := by
 refine fn_holds (vs := [.tmp 4]) (by kernel_rfl) Tryz.func67 rfl rfl (by kernel_rfl) (by kernel_rfl) rfl ?_
 (refine rO ?_; repeat' ((with_reducible first | refine rG ?_ | (refine rS ?_ ?_ <;> intro hp) | (refine rB ?_ ?_ <;> intro hb <;> try rw [hb]) | refine rD ?_ | refine rA ?_ | fail) <;> try simp only [go_sem, simprocAttr, List.length_map]))
 refine awp_loopA (fun k : Nat => [(0, .a (evsA h)), (1, .a (I tx)), (5, .own 9), (10, .a (evsA h)), (11, .a (I h.length)), (12, .a (I k))]) (fun k => [(9, .log 158 3 ((opsTo h tx k).map Op.enc))]) (fun k => k ≤ h.length) (h.length - ·) 0 ?_ ?_ (Nat.zero_le _) ?_
 ·simp only [go_sem, simprocAttr]
 ·simp only [go_sem, simprocAttr]; try rfl
 intro k j hk
 (refine rO ?_; repeat' ((with_reducible first | refine rG ?_ | (refine rS ?_ ?_ <;> intro hp) | (refine rB ?_ ?_ <;> intro hb <;> try rw [hb]) | refine rD ?_ | refine rA ?_ | fail) <;> try simp only [go_sem, simprocAttr]))
 ·have hkl : k < h.length := by omega
  have hx : h[k]? = some h[k] := List.getElem?_eq_getElem hkl
  have hw := wrap_succ (n := h.length) hkl (by simp only [maxLen]; omega)
  have hole := opsTo_le h tx k
  have hs : opsTo h tx (k + 1) = opsTo h tx k ++ (if h[k].tx = tx then (if h[k].kind = 3 then [⟨false, (lastEv (h.take k) tx).var, h[k].val⟩] else []) ++ (if h[k].kind = 5 then [⟨true, (lastEv (h.take k) tx).var, (lastEv (h.take k) tx).val⟩] else []) else []) := by
   simp only [opsTo, hx]
  generalize h[k] = e at hx hs
  (refine rO ?_; repeat' ((with_reducible first | refine rG ?_ | (refine rS ?_ ?_ <;> intro hp) | (refine rB ?_ ?_ <;> intro hb <;> try rw [hb]) | refine rD ?_ | refine rA ?_ | fail) <;> try simp only [go_sem, simprocAttr, hx, evB, Ev.enc_eq, hw]))
  ·refine call_dat (t95 h k tx (by omega) hl) ?_
   generalize lastEv (h.take k) tx = q at hs
   (refine rO ?_; repeat' ((with_reducible first | refine rG ?_ | (refine rS ?_ ?_ <;> intro hp) | (refine rB ?_ ?_ <;> intro hb <;> try rw [hb]) | refine rD ?_ | refine rA ?_ | fail) <;> try simp only [go_sem, simprocAttr, hx, evB, Ev.enc_eq, hw]))
   all_goals simp only [*, if_true, if_false, reduceIte, List.append_nil, List.nil_append, Int.reduceEq] at hs
   all_goals first | omega | (refine ⟨k + 1, ?_, ?_, hkl, by dsimp only; omega⟩ <;> simp only [go_sem, simprocAttr, hs, List.map_append, Op.enc_eq])
  ·rw [if_neg ‹_›, List.append_nil] at hs
   (refine ⟨k + 1, ?_, ?_, hkl, by dsimp only; omega⟩ <;> simp only [go_sem, simprocAttr, hs])
 ·rw [show k = h.length by omega]
def flTo (h : List Ev) (n : Int) : Nat → Int × Int
 | 0 => (-1, 0)
 | k + 1 => match h[k]? with
  | some e => if e.tx = n then (if (flTo h n k).1 < 0 then (k : Int) else (flTo h n k).1, (k : Int)) else flTo h n k
  | none => flTo h n k
def refTxn (h : List Ev) (n : Int) : Txn := ⟨n, (flTo h n h.length).1, (flTo h n h.length).2, stateOf (lastK h n), opsTo h n h.length⟩
def refTab (h : List Ev) : List Txn := (namesE h).map (refTxn h)
theorem t32 (h : List Ev) (hl : h.length ≤ 60) : Holds Tryz.prog GL 36 [evsA h] [.a (txnsA (refTab h))] := by
 refine fn_holds (vs := [.tmp 2]) (by kernel_rfl) Tryz.func36 rfl rfl (by kernel_rfl) (by kernel_rfl) rfl ?_
 have hnl := names_le h
 (refine rO ?_; repeat' ((with_reducible first | refine rG ?_ | (refine rS ?_ ?_ <;> intro hp) | (refine rB ?_ ?_ <;> intro hb <;> try rw [hb]) | refine rD ?_ | refine rA ?_ | fail) <;> try simp only [go_sem, simprocAttr, List.length_map]))
 refine call_dat (t64 h hl) ?_
 (refine rO ?_; repeat' ((with_reducible first | refine rG ?_ | (refine rS ?_ ?_ <;> intro hp) | (refine rB ?_ ?_ <;> intro hb <;> try rw [hb]) | refine rD ?_ | refine rA ?_ | fail) <;> try simp only [go_sem, simprocAttr, List.length_map]))
 refine awp_loopA (fun k : Nat => [(0, .a (evsA h)), (3, .own 9), (11, .a (intsA (namesE h))), (12, .a (I (namesE h).length)), (13, .a (I k))]) (fun k => [(9, .log 74 5 (((namesE h).take k).map fun n => (refTxn h n).enc))]) (fun k => k ≤ (namesE h).length) ((namesE h).length - ·) 0 ?_ ?_ (Nat.zero_le _) ?_
 ·simp only [go_sem, simprocAttr]
 ·simp only [go_sem, simprocAttr]
 intro k j hk
 (refine rO ?_; repeat' ((with_reducible first | refine rG ?_ | (refine rS ?_ ?_ <;> intro hp) | (refine rB ?_ ?_ <;> intro hb <;> try rw [hb]) | refine rD ?_ | refine rA ?_ | fail) <;> try simp only [go_sem, simprocAttr]))
 ·have hkl : k < (namesE h).length := by omega
  have hx : (namesE h)[k]? = some (namesE h)[k] := List.getElem?_eq_getElem hkl
  have hw := wrap_succ (n := (namesE h).length) hkl (by simp only [maxLen]; omega)
  have hts : (namesE h).take (k + 1) = (namesE h).take k ++ [(namesE h)[k]] := List.take_succ_eq_append_getElem hkl
  generalize (namesE h)[k] = n at hx hts
  (refine rO ?_; repeat' ((with_reducible first | refine rG ?_ | (refine rS ?_ ?_ <;> intro hp) | (refine rB ?_ ?_ <;> intro hb <;> try rw [hb]) | refine rD ?_ | apply c66 | apply c65 | refine rA ?_ | fail) <;> try simp only [go_sem, simprocAttr, hx, ienc_eq, hw]))
  refine call_dat (t67 h n (by omega)) ?_
  (refine rO ?_; repeat' ((with_reducible first | refine rG ?_ | (refine rS ?_ ?_ <;> intro hp) | (refine rB ?_ ?_ <;> intro hb <;> try rw [hb]) | refine rD ?_ | refine rA ?_ | fail) <;> try simp only [go_sem, simprocAttr, hx, ienc_eq, hw]))
  refine SemOp.old ?_
  (refine rO ?_; repeat' ((with_reducible first | refine rG ?_ | (refine rS ?_ ?_ <;> intro hp) | (refine rB ?_ ?_ <;> intro hb <;> try rw [hb]) | refine rD ?_ | refine rA ?_ | fail) <;> try simp only [go_sem, simprocAttr, y_build0]))
  refine awp_loopA (fun i : Nat => [(0, .a (evsA h)), (3, .own 9), (5, .a (I n)), (6, .ref 6 0), (11, .a (intsA (namesE h))), (12, .a (I (namesE h).length)), (13, .a (I k)), (26, .a (evsA h)), (27, .a (I h.length)), (28, .a (I i))])
   (fun i => [(9, .log 74 5 (((namesE h).take k).map fun n => (refTxn h n).enc)), (6, .box [.a (I n), .a (I (flTo h n i).1), .a (I (flTo h n i).2), .a (I (stateOf (lastK h n))), .a (opsA' (opsTo h n h.length))])]) (fun i => i ≤ h.length) (h.length - ·) 0 ?_ ?_ (Nat.zero_le _) ?_
  ·simp only [go_sem, simprocAttr, List.length_map]
  ·simp only [go_sem, simprocAttr]; try rfl
  intro i j hi
  (refine rO ?_; repeat' ((with_reducible first | refine rG ?_ | (refine rS ?_ ?_ <;> intro hp) | (refine rB ?_ ?_ <;> intro hb <;> try rw [hb]) | refine rD ?_ | refine rA ?_ | fail) <;> try simp only [go_sem, simprocAttr]))
  ·have hil : i < h.length := by omega
   have hy : h[i]? = some h[i] := List.getElem?_eq_getElem hil
   have hwi := wrap_succ (n := h.length) hil (by simp only [maxLen]; omega)
   have hs : flTo h n (i + 1) = if h[i].tx = n then (if (flTo h n i).1 < 0 then (i : Int) else (flTo h n i).1, (i : Int)) else flTo h n i := by simp only [flTo, hy]
   generalize h[i] = e at hy hs
   (refine rO ?_; repeat' ((with_reducible first | refine rG ?_ | (refine rS ?_ ?_ <;> intro hp) | (refine rB ?_ ?_ <;> intro hb <;> try rw [hb]) | refine rD ?_ | refine rA ?_ | fail) <;> try simp only [go_sem, simprocAttr, hy, Ev.enc_eq, hwi]))
   ·rw [if_pos ‹_›, if_pos ‹_›] at hs
    (refine ⟨i + 1, ?_, ?_, hil, by dsimp only; omega⟩ <;> simp only [go_sem, simprocAttr, hs])
   ·rw [if_pos ‹_›, if_neg ‹_›] at hs
    (refine ⟨i + 1, ?_, ?_, hil, by dsimp only; omega⟩ <;> simp only [go_sem, simprocAttr, hs])
   ·rw [if_neg ‹_›] at hs
    (refine ⟨i + 1, ?_, ?_, hil, by dsimp only; omega⟩ <;> simp only [go_sem, simprocAttr, hs])
  ·rw [show i = h.length by omega]
   (refine rO ?_; repeat' ((with_reducible first | refine rG ?_ | (refine rS ?_ ?_ <;> intro hp) | (refine rB ?_ ?_ <;> intro hb <;> try rw [hb]) | refine rD ?_ | refine rA ?_ | fail) <;> try simp only [go_sem, simprocAttr, hw]))
   (refine ⟨k + 1, ?_, ?_, hkl, by dsimp only; omega⟩ <;> simp only [go_sem, simprocAttr, hts, List.map_append, refTxn, Txn.enc_eq])
 ·rw [List.take_of_length_le (by omega), refTab, List.map_map]; rfl
end Go.VC
end
section
namespace Go.VC
open Go.RowKit Go.Proofs Go.IntWalk
structure Told (h : List Ev) (k : Nat) (kp : Kp) : Prop where
 fl : flTo h kp.name k = (kp.first, kp.last)
 st : kp.st = stateOf (lastK (h.take k) kp.name)
 ops : kp.ops = opsTo h kp.name k
 ask : lastK (h.take k) kp.name = 2 ∨ lastK (h.take k) kp.name = 4 → kp.ask = lastEv (h.take k) kp.name
 pos : 0 ≤ kp.first
theorem told_other {h : List Ev} {k : Nat} {kp : Kp} (hk : k < h.length) (hne : h[k].tx ≠ kp.name) (t : Told h k kp) : Told h (k + 1) kp := by
 obtain ⟨a, b, c, d, e⟩ := t
 have hx : h[k]? = some h[k] := List.getElem?_eq_getElem hk
 have hl : lastK (h.take (k + 1)) kp.name = lastK (h.take k) kp.name := by rw [last_s hk, lastStep, if_neg hne]
 refine ⟨?_, ?_, ?_, ?_, e⟩
 ·simp only [flTo, hx, if_neg hne]; exact a
 ·rw [hl]; exact b
 ·simp only [opsTo, hx, if_neg hne, List.append_nil]; exact c
 ·rw [hl, lastEv_s hk, if_neg hne]; exact d
theorem may_got {l : Int} (h : may l 3 = true) : l = 2 := by
 unfold may at h; (repeat' split at h) <;> simp_all
theorem may_wrote {l : Int} (h : may l 5 = true) : l = 4 := by
 unfold may at h; (repeat' split at h) <;> simp_all
theorem told_take {h : List Ev} {k : Nat} {kp : Kp} (hk : k < h.length) (he : h[k].tx = kp.name) (hm : may (lastK (h.take k) kp.name) h[k].kind = true) (t : Told h k kp) : Told h (k + 1) (takeK kp k h[k]) := by
 obtain ⟨a, b, c, d, e⟩ := t
 have hx : h[k]? = some h[k] := List.getElem?_eq_getElem hk
 have hn := @takeK_name kp k h[k]
 have hl : lastK (h.take (k + 1)) kp.name = h[k].kind := by rw [last_s hk, lastStep, if_pos he]
 have hev : lastEv (h.take (k + 1)) kp.name = h[k] := by rw [lastEv_s hk, if_pos he]
 have hf : (takeK kp k h[k]).first = kp.first := by unfold takeK; (repeat' split) <;> rfl
 have hla : (takeK kp k h[k]).last = k := by unfold takeK; (repeat' split) <;> rfl
 refine ⟨?_, ?_, ?_, ?_, by rw [hf]; exact e⟩
 ·rw [hn, hf, hla]
  simp only [flTo, hx, if_pos he, a, if_neg (show ¬ kp.first < 0 by omega)]
 ·rw [hn, hl]
  unfold takeK stateOf
  by_cases h24 : h[k].kind = 2 ∨ h[k].kind = 4
  ·rw [if_pos h24]; rcases h24 with h2 | h2 <;> simp [h2]
  ·by_cases h3 : h[k].kind = 3
   ·simp [h3]
   ·by_cases h5 : h[k].kind = 5
    ·simp [h5]
    ·rw [if_neg h24, if_neg h3, if_neg h5]
     by_cases h6 : h[k].kind = 6
     ·simp [h6]
     ·by_cases h7 : h[k].kind = 7
      ·simp [h7]
      ·by_cases h9 : h[k].kind = 9 <;> simp [h6, h7, h9]
 ·rw [hn]
  simp only [opsTo, hx, if_pos he]
  unfold takeK
  by_cases h24 : h[k].kind = 2 ∨ h[k].kind = 4
  ·rw [if_pos h24]
   rw [if_neg (by omega), if_neg (by omega)]; simpa using c
  ·by_cases h3 : h[k].kind = 3
   ·rw [h3] at hm
    have hask := d (.inl (may_got hm))
    rw [if_neg h24, if_pos h3, if_pos h3, if_neg (by omega)]
    simp [c, hask]
   ·by_cases h5 : h[k].kind = 5
    ·rw [h5] at hm
     have hask := d (.inr (may_wrote hm))
     rw [if_neg h24, if_neg h3, if_pos h5, if_neg h3, if_pos h5]
     simp [c, hask]
    ·rw [if_neg h24, if_neg h3, if_neg h5, if_neg h3, if_neg h5]; simpa using c
 ·rw [hn, hl, hev]
  intro h24
  unfold takeK
  rw [if_pos h24]
theorem pos_none {n : Int} : ∀ {ks : List Kp}, pos ks n = none → ∀ kp ∈ ks, kp.name ≠ n
 | [], _, kp, h => by cases h
 | k :: ks, hp, kp, h => by
  simp only [pos] at hp
  split at hp
  ·cases hp
  ·rename_i hk
   rcases List.mem_cons.1 h with rfl | h
   ·exact hk
   ·exact pos_none (Option.map_eq_none_iff.1 hp) kp h
structure TabT (h : List Ev) (k : Nat) : Prop where
 names : (tabAt h k).map Kp.name = namesE (h.take k)
 nodup : ((tabAt h k).map Kp.name).Nodup
 told : ∀ kp ∈ tabAt h k, Told h k kp
 other : ∀ n, (∀ kp ∈ tabAt h k, kp.name ≠ n) → flTo h n k = (-1, 0) ∧ opsTo h n k = [] ∧ lastK (h.take k) n = -1
theorem tabT {h : List Ev} (hw : WFl h) : ∀ k, k ≤ h.length → TabT h k
 | 0, _ => ⟨rfl, by simp [tabAt], fun kp hk => by simp [tabAt] at hk, fun n _ => ⟨rfl, rfl, rfl⟩⟩
 | k + 1, hk => by
  obtain ⟨a, b, c, d⟩ := tabT hw k (by omega)
  have hkl : k < h.length := by omega
  have hx : h[k]? = some h[k] := List.getElem?_eq_getElem hkl
  have hm : may (lastK (h.take k) h[k].tx) h[k].kind = true := hw (h.take k) h[k] (h.drop (k + 1)) (by rw [← List.drop_eq_getElem_cons hkl, List.take_append_drop])
  have hany : (namesE (h.take k)).any (fun y => h[k].tx == y) = (pos (tabAt h k) h[k].tx).isSome := by
   rw [← a]
   cases hp : pos (tabAt h k) h[k].tx with
   | none =>
    have := pos_none hp
    simp only [List.any_map, Option.isSome_none, List.any_eq_false, Function.comp, beq_iff_eq]
    exact fun kp hkp e => this kp hkp e.symm
   | some j =>
    obtain ⟨kp, h1, h2⟩ := pos_at hp
    simp only [List.any_map, Option.isSome_some, List.any_eq_true, Function.comp, beq_iff_eq]
    exact ⟨kp, List.mem_of_getElem? h1, h2.symm⟩
  cases hp : pos (tabAt h k) h[k].tx with
  | some j =>
   obtain ⟨kp, h1, h2⟩ := pos_at hp
   have hset := tab_set hx hp h1
   have hjl := (List.getElem?_eq_some_iff.1 h1).1
   have hmap : (tabAt h (k + 1)).map Kp.name = (tabAt h k).map Kp.name := by
    rw [hset, List.map_set, takeK_name]
    refine List.ext_getElem? fun i => ?_
    rw [List.getElem?_set]
    split
    ·rename_i e; subst e
     rw [if_pos (by simpa using hjl), List.getElem?_map, h1]; rfl
    ·rfl
   refine ⟨?_, by rw [hmap]; exact b, fun kp' hk' => ?_, fun n hn => ?_⟩
   ·rw [hmap, names_s hkl, nameStep, hany, hp, a]; rfl
   ·rw [hset] at hk'
    obtain ⟨i, hi⟩ := List.getElem?_of_mem hk'
    rw [List.getElem?_set] at hi
    split at hi
    ·cases hi
     exact told_take hkl h2.symm (by rw [h2]; exact hm) (c kp (List.mem_of_getElem? h1))
    ·rename_i hne
     refine told_other hkl (fun e => hne ?_) (c kp' (List.mem_of_getElem? hi))
     have e1 : ((tabAt h k).map Kp.name)[j]? = some h[k].tx := by rw [List.getElem?_map, h1]; exact congrArg some h2
     have e2 : ((tabAt h k).map Kp.name)[i]? = some h[k].tx := by rw [List.getElem?_map, hi]; exact congrArg some e.symm
     have hj2 := (List.getElem?_eq_some_iff.1 e1)
     have hi2 := (List.getElem?_eq_some_iff.1 e2)
     exact (List.getElem_inj b).1 (hj2.2.trans hi2.2.symm)
   ·have hn' : ∀ kp ∈ tabAt h k, kp.name ≠ n := fun kp' hk' e => by
     have : n ∈ (tabAt h (k + 1)).map Kp.name := by rw [hmap]; exact List.mem_map.2 ⟨kp', hk', e⟩
     obtain ⟨q, hq, e'⟩ := List.mem_map.1 this
     exact hn q hq e'
    have hne : h[k].tx ≠ n := fun e => hn' kp (List.mem_of_getElem? h1) (h2.trans e)
    obtain ⟨d1, d2, d3⟩ := d n hn'
    refine ⟨?_, ?_, ?_⟩
    ·simp only [flTo, hx, if_neg hne]; exact d1
    ·simp only [opsTo, hx, if_neg hne, List.append_nil]; exact d2
    ·rw [last_s hkl, lastStep, if_neg hne]; exact d3
  | none =>
   have happ := tab_app hx hp
   have hno := pos_none hp
   obtain ⟨d1, d2, d3⟩ := d h[k].tx hno
   rw [d3] at hm
   have hk0 : h[k].kind = 0 := by unfold may at hm; simpa using hm
   have hnm : (newKp k h[k]).name = h[k].tx := by rw [newKp, takeK_name]
   refine ⟨?_, ?_, fun kp' hk' => ?_, fun n hn => ?_⟩
   ·rw [happ, List.map_append, names_s hkl, nameStep, hany, hp, a]; simp [hnm]
   ·rw [happ, List.map_append, List.nodup_append]
    refine ⟨b, by simp, ?_⟩
    intro x hx1 y hy1 e
    simp only [List.map_cons, List.map_nil, List.mem_singleton, hnm] at hy1
    obtain ⟨q, hq, rfl⟩ := List.mem_map.1 hx1
    exact hno q hq (e.trans hy1)
   ·rw [happ] at hk'
    rcases List.mem_append.1 hk' with h1 | h1
    ·exact told_other hkl (fun e => hno kp' h1 e.symm) (c kp' h1)
    ·simp only [List.mem_singleton] at h1
     subst h1
     have hl : lastK (h.take (k + 1)) h[k].tx = 0 := by rw [last_s hkl, lastStep, if_pos rfl, hk0]
     have e1 : newKp k h[k] = ⟨h[k].tx, k, k, 0, [], ⟨0, 0, 0, 0⟩⟩ := by simp [newKp, takeK, hk0]
     rw [e1]
     refine ⟨?_, ?_, ?_, ?_, by simp⟩
     ·simp only [flTo, hx, if_true, d1]; simp
     ·show (0 : Int) = stateOf (lastK (h.take (k + 1)) h[k].tx); rw [hl]; rfl
     ·show [] = opsTo h h[k].tx (k + 1)
      simp only [opsTo, hx, if_true, d2, hk0]; simp
     ·show lastK (h.take (k + 1)) h[k].tx = 2 ∨ lastK (h.take (k + 1)) h[k].tx = 4 → _
      rw [hl]; intro h; simp at h
   ·rw [happ] at hn
    have hne : h[k].tx ≠ n := fun e => hn _ (List.mem_append_right _ (List.mem_singleton.2 rfl)) (hnm.trans e)
    obtain ⟨d1, d2, d3⟩ := d n fun kp hk => hn kp (List.mem_append_left _ hk)
    refine ⟨?_, ?_, ?_⟩
    ·simp only [flTo, hx, if_neg hne]; exact d1
    ·simp only [opsTo, hx, if_neg hne, List.append_nil]; exact d2
    ·rw [last_s hkl, lastStep, if_neg hne]; exact d3
def txns (h : List Ev) : List Txn := if checkE h = 0 then (tabOf h).map Kp.txn else []
theorem check_wfl {h : List Ev} (h0 : checkE h = 0) : WFl h := by
 have hr : rightH h = true := by
  cases hr : rightH h with
  | true => rfl
  | false => rw [check_arg.2 hr] at h0; cases h0
 exact (check_wf hr).1 h0
theorem table_eq {h : List Ev} (h0 : checkE h = 0) : refTab h = txns h := by
 have T := tabT (check_wfl h0) h.length (Nat.le_refl _)
 have hn := T.names
 rw [List.take_length] at hn
 unfold txns refTab
 rw [if_pos h0, ← hn, List.map_map]
 refine List.map_congr_left fun kp hk => ?_
 obtain ⟨a, b, c, _, _⟩ := T.told kp hk
 rw [List.take_length] at b
 simp only [Function.comp, refTxn, Kp.txn, a, b, c]
end Go.VC
end
section
set_option maxRecDepth 100000
namespace Go.VC
open Go.RowKit Go.Proofs
def yieldV (L : Nat) : Value := .func (.yield L) #[] #[]
def yR (L : Nat) : R := .sem [] fun _ v => v = yieldV L
theorem yR_rel {β : Nat → Value} {st : Nat → Prop} {w : World} {L : Nat} : RelR β st w (yieldV L) (yR L) := .sem rfl fun _ _ => rfl
theorem yR_inv {β : Nat → Value} {st : Nat → Prop} {w : World} {L : Nat} {v : Value} (h : RelR β st w v (yR L)) : v = yieldV L := by
 unfold yR at h
 cases h with | sem h hp => exact h
def recOb (L : Nat) (r : Loop) : SemOb where
 os := []
 p := fun β st w bv => bv = .pointer (some ⟨L, 0, none⟩) ∧ w.heap[L]? = some (.loop r)
 lt := fun h b hb => by
  obtain ⟨rfl, h⟩ := h
  cases hb; exact (Array.getElem?_eq_some_iff.1 h).1
 mono := fun H h k => by
  obtain ⟨rfl, h⟩ := h
  exact ⟨rfl, (k L rfl).trans h⟩
 dep := fun _ h => h
def YieldOk (P : Program) (gl : Nat → Option (List D)) (L : Nat) (T : Array Value) (σ : S) (x : List A) (A' B' : S → Prop) : Prop :=
 ∀ (c : Cx) (β : Nat → Value) (a : Act) (w : World) (vs : List Value) (n : Nat), c.P = P → c.gl = gl → a.tmps = T → Sim c σ β a w → F2 (RelA (stF c σ β w) w) vs x →
  YieldAt Fence.wide n P L vs.toArray w fun e w' => ∃ σ' β', Sim c σ' β' a w' ∧ ((e = .returned (.bool true) ∧ A' σ') ∨ (e = .returned (.bool false) ∧ B' σ'))
noncomputable def S.ud (σ : S) : S := { regs := fun t => (σ.regs t).up.down, mem := fun o => if 999000000 ≤ o ∧ o < 1000000000 then none else (σ.mem o).map fun x => x.up.down }
def IterR (Rl : S → S → Prop) (P : Program) (gl : Nat → Option (List D)) (g : FuncId) (caps : List D) (xs : List (List A)) : Prop :=
 FnOk P g ∧ ∀ (L : Nat) (T : Array Value) (σ : S) (Inv : Nat → S → Prop) (Done : S → Prop), (∀ i σ σ', Rl σ σ' → Inv i σ → Inv i σ') → (∀ σ σ', Rl σ σ' → Done σ → Done σ') →
  (∀ i x σ, xs[i]? = some x → Inv i σ → YieldOk P gl L T σ x (Inv (i + 1)) Done) → Inv 0 σ →
  ∀ (c : Cx) (β : Nat → Value) (a : Act) (w : World) (vs : List Value), c.P = P → c.gl = gl → a.tmps = T → Sim c σ β a w → F2 (RelR β (stF c σ β w) w) vs (yR L :: caps.map fun d => .a (.d d)) →
   Calls P g vs.toArray w fun e w' => ∃ (v : Value) (σ' : S) (β' : Nat → Value), e = .returned v ∧ Sim c σ' β' a w' ∧ (Inv xs.length σ' ∨ Done σ')
def IterV (P : Program) (gl : Nat → Option (List D)) (g : FuncId) (caps : List D) (xs : List (List A)) : Prop := IterR (fun σ σ' => σ' = σ.ud) P gl g caps xs
section
variable {c : Cx} {σ : S} {β : Nat → Value} {a : Act} {w : World}
def updL (reg : Nat → R) : List Tmp → List A → Nat → R
 | p :: ps, x :: xs => updL (upd reg p (.a x)) ps xs
 | _, _ => reg
def putL (T : Array Value) : List Tmp → List Value → Array Value
 | p :: ps, v :: vs => putL (T.setIfInBounds p v) ps vs
 | _, _ => T
theorem putL_size : ∀ (ps : List Tmp) (vs : List Value) (T : Array Value), (putL T ps vs).size = T.size
 | [], vs, T => by cases vs <;> rfl
 | p :: ps, [], T => rfl
 | p :: ps, v :: vs, T => by simp only [putL, putL_size ps vs, Array.size_setIfInBounds]
theorem putL_rel {st : Nat → Prop} : ∀ (ps : List Tmp) (vs : List Value) (xs : List A) {T : Array Value} {reg : Nat → R}, (∀ p ∈ ps, p < T.size) → F2 (RelA st w) vs xs → (∀ t, RelR β st w (T.getD t undef) (reg t)) →
  ∀ t, RelR β st w ((putL T ps vs).getD t undef) (updL reg ps xs t)
 | [], vs, xs, T, reg, hp, hv, hr => by cases vs <;> cases xs <;> exact hr
 | p :: ps, vs, [], T, reg, hp, hv, hr => by rw [hv.of_nil]; exact hr
 | p :: ps, vs, x :: xs, T, reg, hp, hv, hr => by
  obtain ⟨v, vs', rfl, h1, h2⟩ := hv.of_cons
  refine putL_rel ps vs' xs (fun q hq => by rw [Array.size_setIfInBounds]; exact hp q (List.mem_cons_of_mem _ hq)) h2 fun t => ?_
  have hps := hp p (List.mem_cons_self ..)
  unfold upd
  rw [Array.getD_eq_getD_getElem?, Array.getElem?_setIfInBounds]
  by_cases e : p = t
  ·subst e; rw [if_pos rfl, if_pos rfl, if_pos hps]; exact .a h1
  ·rw [if_neg e, if_neg fun e' => e e'.symm, ← Array.getD_eq_getD_getElem?]; exact hr t
theorem fold_putL : ∀ (ps : List Tmp) (vs : List Value) (T : Array Value), (ps.zip vs).foldl (fun t (x : Tmp × Value) => t.setIfInBounds x.1 x.2) T = putL T ps vs
 | [], vs, T => by cases vs <;> rfl
 | p :: ps, [], T => rfl
 | p :: ps, v :: vs, T => by simp only [List.zip_cons_cons, List.foldl_cons, fold_putL ps vs, putL]
def reC (c : Cx) (N : Nat) (df : List Deferred) (M : List Nat) (E : (Nat → Prop) → World → Prop) (hE : ∀ {st st' : Nat → Prop} {w w' : World}, (∀ b, st b → st' b ∧ w'.heap[b]? = w.heap[b]?) → E st w → E st' w') : Cx :=
 { c with N := N, df := df, M := M, E := E, hE := hE }
theorem Sim.move {N : Nat} {df : List Deferred} {M : List Nat} {E : (Nat → Prop) → World → Prop} {hE : ∀ {st st' : Nat → Prop} {w w' : World}, (∀ b, st b → st' b ∧ w'.heap[b]? = w.heap[b]?) → E st w → E st' w'}
  {σ' : S} {a' : Act} (h : Sim c σ β a w) (hm : ∀ o x, σ'.mem o = some x → σ.mem o = some x) (hN : a'.tmps.size = N) (Ds : List Nat) (hd : a'.defers = Ds.map markD ++ df) (hM : MarksOk c σ β w (Ds ++ M))
  (he : E (stF c σ β w) w) (hr : ∀ t, RelR β (stF c σ β w) w (a'.tmps.getD t undef) (σ'.regs t)) : Sim (reC c N df M E hE) σ' β a' w ∧ ∀ b, stF c σ β w b → stF (reC c N df M E hE) σ' β w b ∧ w.heap[b]? = w.heap[b]? := by
 have hst : ∀ b, stF c σ β w b → stF (reC c N df M E hE) σ' β w b ∧ w.heap[b]? = w.heap[b]? := fun b hb => ⟨⟨hb.1, hb.2.1, fun o x hx => hb.2.2.1 o x (hm o x hx), hb.2.2.2⟩, rfl⟩
 refine ⟨⟨h.keep, hN, ⟨Ds, hd, hM.nd, fun D hD => ?_, fun y hy => ⟨(hM.lp y hy).1, (hM.lp y hy).2.1, fun o x hx => (hM.lp y hy).2.2 o x (hm o x hx)⟩⟩, hE hst he, fun o x hx => (h.obj o x (hm o x hx)).mono hst fun _ _ => rfl, fun o x b hx => h.blk o x b (hm o x hx), fun o o' x x' b hx hx' => h.dis o o' x x' b (hm o x hx) (hm o' x' hx'), fun t => (hr t).mono hst, h.env.mono hst⟩, hst⟩
 obtain ⟨h1, h2, h3⟩ := hM.ok D hD
 exact ⟨h1, h2, fun o x hx => h3 o x (hm o x hx)⟩
def S.rnd (σ : S) (vs : List Value) (ps : List Tmp) (xs : List A) : S := { regs := updL (killR 999996 σ.regs) ps xs, mem := (σ.newOb 999996 (.frame vs (killR 999996 σ.regs))).mem }
def frB : Option Ob → Nat → R
 | some (.frame _ rs), t => rs t
 | _, _ => .any
def S.back (σ : S) : S := { regs := frB (σ.mem 999996), mem := fun o => if o = 999996 then none else σ.mem o }
theorem rnd_sim {ps : List Tmp} {vs : List Value} {xs : List A} {Ds : List Nat} (h : Sim c σ β a w) (hM : MarksOk c σ β w (Ds ++ c.M)) (hv : F2 (RelA (stF c σ β w) w) vs xs) (hp : ∀ p ∈ ps, p < a.tmps.size) :
  Sim (reC c a.tmps.size [] (Ds ++ c.M) c.E c.hE) (σ.rnd a.tmps.toList ps xs) (upd β 999996 undef) { tmps := putL a.tmps ps vs, defers := [] } w := by
 have hgd : ∀ t, a.tmps.toList.getD t undef = a.tmps.getD t undef := fun t => by rw [List.getD_eq_getElem?_getD, Array.getD_eq_getD_getElem?, Array.getElem?_toList]
 have T : ∀ o', o' ≠ 999996 → upd β 999996 undef o' = β o' := fun o' e => by simp [upd, e]
 have H : ∀ b, stF c σ β w b → stF c (σ.newOb 999996 (.frame a.tmps.toList (killR 999996 σ.regs))) (upd β 999996 undef) w b ∧ w.heap[b]? = w.heap[b]? := fun b hb => ⟨st_new (Nat.le_refl _) (fun _ _ => rfl) (fun b hb => by cases hb) hb, rfl⟩
 have h1 := h.new (o := 999996) (x := .frame a.tmps.toList (killR 999996 σ.regs)) (bv := undef) (w' := w) (Keep.refl _ _) (fun b hb => by cases hb) ⟨rfl, fun t => by rw [hgd]; exact ((h.reg t).mono H).turn T⟩
 have hM1 : MarksOk c (σ.newOb 999996 (.frame a.tmps.toList (killR 999996 σ.regs))) (upd β 999996 undef) w ([] ++ (Ds ++ c.M)) := hM.keep (fun _ _ _ => rfl) fun o x hx => by
  by_cases e : o = 999996
  ·subst e; exact .inr fun b hb => by simp [upd, undef_own] at hb
  ·simp only [S.newOb, upd, if_neg e] at hx
   obtain ⟨y, hy, _⟩ := Option.map_eq_some_iff.1 hx
   exact .inl ⟨o, y, hy, T o e⟩
 refine (h1.move (a' := { tmps := putL a.tmps ps vs, defers := [] }) (σ' := σ.rnd a.tmps.toList ps xs) (fun o x hx => hx) (putL_size _ _ _) [] rfl hM1 h1.ext fun t => ?_).1
 exact putL_rel ps vs xs hp (hv.mono fun _ _ => RelA.mono H) (fun t => h1.reg t) t
theorem back_sim {N : Nat} {df : List Deferred} {a' : Act} {Ds : List Nat}
  (h : Sim (reC c N df (Ds ++ c.M) c.E c.hE) σ β a' w) (hf : fvOf (σ.mem 999996) = some a.tmps.toList) (hsz : a.tmps.size = c.N) (hd : a.defers = Ds.map markD ++ c.df) : Sim c σ.back β a w := by
 have hgd : ∀ t, a.tmps.toList.getD t undef = a.tmps.getD t undef := fun t => by rw [List.getD_eq_getElem?_getD, Array.getD_eq_getD_getElem?, Array.getElem?_toList]
 obtain ⟨rs, hfr⟩ : ∃ rs, σ.mem 999996 = some (.frame a.tmps.toList rs) := by
  unfold fvOf at hf
  split at hf
  ·rename_i vs' rs' e; cases hf; exact ⟨rs', e⟩
  ·cases hf
 obtain ⟨Ds', _, hM⟩ := h.df
 have hM' : MarksOk (reC c N df (Ds ++ c.M) c.E c.hE) σ β w (Ds ++ c.M) := ⟨(List.nodup_append.1 hM.nd).2.1, fun D hD => hM.ok D (List.mem_append_right _ hD), hM.lp⟩
 have := (h.move (N := c.N) (df := c.df) (M := c.M) (E := c.E) (hE := c.hE) (a' := a) (σ' := σ.back) (fun o x hx => by
  simp only [S.back] at hx
  split at hx
  ·cases hx
  ·exact hx) hsz Ds hd hM' h.ext fun t => ?_).1
 ·exact this
 ·have := (h.obj _ _ hfr).2 t
  rw [hgd] at this
  simpa [S.back, frB, hfr] using this
end
def Ex.calm : Ex → Bool
 | .panic _ _ => false
 | _ => true
def rndQ (L : Nat) (T : List Value) (r : Loop) (A' : S → Prop) (B' : Ex → S → Prop) : Ex → S → Prop
 | e, σ => fvOf (σ.mem 999996) = some T ∧ σ.mem 999997 = some (.sem (recOb L { r with state := .busy })) ∧ (match e with
  | .normal => A' (σ.setOb 999997 (.sem (recOb L { r with state := .ready, pending := none }))).back
  | .ret => B' .ret (σ.setOb 999997 (.sem (recOb L { r with state := .done, pending := some .ret }))).back
  | .exit id => B' (.exit id) (σ.setOb 999997 (.sem (recOb L { r with state := .done, pending := some (.exit id) }))).back
  | .panic _ _ => False)
def rndB (P : Program) (gl : Nat → Option (List D)) (L : Nat) (T : List Value) (r : Loop) (body : Code) (A' : S → Prop) (B' : Ex → S → Prop) : Ex → S → Prop
 | .normal, σ => σ.mem 999997 = some (.sem (recOb L r)) ∧ awp P gl body (rndQ L T r A' B') (σ.setOb 999997 (.sem (recOb L { r with state := .busy })))
 | _, _ => False
theorem rec_set {c : Cx} {σ : S} {β : Nat → Value} {a : Act} {w : World} {L : Nat} {r : Loop} (r' : Loop) (h : Sim c σ β a w) (hr : σ.mem 999997 = some (.sem (recOb L r))) :
  w.heap[L]? = some (.loop r) ∧ Sim c (σ.setOb 999997 (.sem (recOb L r'))) β a (w.putObj L (.loop r')) := by
 obtain ⟨hb, hh⟩ := h.obj _ _ hr
 refine ⟨hh, h.setOb hr ⟨rfl, rfl, rfl, by simp [World.putObj], fun k _ hk => World.putObj_heap_other fun e => hk (by rw [hb, e]; rfl)⟩ ⟨hb, World.putObj_heap_same (lt_of_some hh)⟩⟩
theorem yield_ok {P : Program} {gl : Nat → Option (List D)} {L : Nat} {T : Array Value} {σ : S} {x : List A} {A' : S → Prop} {B' : Ex → S → Prop} {r : Loop} (hmx : P.follows .mixedOrders = true) (hr : σ.mem 999997 = some (.sem (recOb L r))) (hst : r.state = .ready) (hT : r.tmps = T) (hx : r.params.size = x.length)
  (hps : ∀ p ∈ r.params.toList, p < T.size) (hda : dstOK T.size r.assign = true) (hna : noRng r.assign = true) (hdb : dstOK T.size r.body = true) (hnb : noRng r.body = true)
  (h : awp P gl r.assign (rndB P gl L T.toList r r.body A' B') (σ.rnd T.toList r.params.toList x)) : YieldOk P gl L T σ x A' (fun σ => ∃ e, e.calm = true ∧ B' e σ) := by
 intro c β a w vs n hP hgl hTa hs hv
 subst hP; subst hgl; subst hTa
 obtain ⟨hb, hh⟩ := hs.obj _ _ hr
 obtain ⟨Ds, hds, hM⟩ := hs.df
 have hvl := hv.1
 refine ⟨r.fn, _, r.assign, r.body, run_yield hh (by simp [hvl, hx]), roundIn_of_wpIn trivial ?_⟩
 have e1 : (r.params.zip vs.toArray).foldl (fun tmps (x : Tmp × Value) => tmps.setIfInBounds x.1 x.2) r.tmps = putL a.tmps r.params.toList vs := by
  rw [hT, ← fold_putL, ← Array.foldl_toList, Array.toList_zip]
 rw [show (r.params.zip vs.toArray).foldl (fun tmps (t, a) => tmps.setIfInBounds t a) r.tmps = putL a.tmps r.params.toList vs from e1]
 have hs0 := rnd_sim (ps := r.params.toList) hs hM hv hps
 have hwf : Fence.wide.inRound L = WF (some L) := rfl
 rw [hwf]
 refine wpIn_mono (awp_sound (c := reC c a.tmps.size [] (Ds ++ c.M) c.E c.hE) (ρ := some L) hmx r.assign hda (.inr hna) h hs0) fun e a1 w1 hq => ?_
 cases e with
 | normal =>
  obtain ⟨σ1, β1, hs1, hr1, hb1⟩ := hq
  obtain ⟨hh1, hs1'⟩ := rec_set { r with state := .busy } hs1 hr1
  refine ⟨_, run_beginRound hh1 hst, ?_⟩
  refine wpIn_mono (awp_sound (c := reC c a.tmps.size [] (Ds ++ c.M) c.E c.hE) (ρ := some L) hmx r.body hdb (.inr hnb) hb1 hs1') fun e a2 w2 hq2 => ?_
  cases e with
  | normal =>
   obtain ⟨σ2, β2, hs2, hf2, hr2, hA⟩ := hq2
   obtain ⟨hh2, hs3⟩ := rec_set { r with state := .ready, pending := none } hs2 hr2
   exact ⟨_, _, run_endRound none hh2, _, β2, back_sim hs3 (by rw [show (σ2.setOb 999997 _).mem 999996 = σ2.mem 999996 from rfl]; exact hf2) hs.size hds, .inl ⟨rfl, hA⟩⟩
  | ret =>
   obtain ⟨σ2, β2, hs2, hf2, hr2, hA⟩ := hq2
   obtain ⟨hh2, hs3⟩ := rec_set { r with state := .done, pending := some .ret } hs2 hr2
   exact ⟨_, _, run_endRound (some .ret) hh2, _, β2, back_sim hs3 (by rw [show (σ2.setOb 999997 _).mem 999996 = σ2.mem 999996 from rfl]; exact hf2) hs.size hds, .inr ⟨rfl, _, rfl, hA⟩⟩
  | exit id =>
   obtain ⟨σ2, β2, hs2, hf2, hr2, hA⟩ := hq2
   obtain ⟨hh2, hs3⟩ := rec_set { r with state := .done, pending := some (.exit id) } hs2 hr2
   exact ⟨_, _, run_endRound (some (.exit id)) hh2, _, β2, back_sim hs3 (by rw [show (σ2.setOb 999997 _).mem 999996 = σ2.mem 999996 from rfl]; exact hf2) hs.size hds, .inr ⟨rfl, _, rfl, hA⟩⟩
  | goto l => exact hq2.elim
  | panic ch => obtain ⟨_, _, _, _, _, _, _, _, _, _, hk⟩ := hq2; exact hk.elim
  | outgrown => exact hq2.elim
 | exit id => obtain ⟨_, _, _, hk⟩ := hq; exact hk.elim
 | ret => obtain ⟨_, _, _, hk⟩ := hq; exact hk.elim
 | goto l => exact hq.elim
 | panic ch => obtain ⟨_, _, _, _, _, _, _, _, hk⟩ := hq; exact hk.elim
 | outgrown => exact hq.elim
def R.pur : R → R
 | .a x => .a x
 | .cs xs => .cs xs
 | .tp [] => .tp []
 | .sem [] p => .sem [] p
 | _ => .any
theorem pur_rel {β β' : Nat → Value} {st : Nat → Prop} {w : World} {v : Value} {r : R} (h : RelR β st w v r) : RelR β' st w v r.pur := by
 cases h with
 | any => exact .any
 | a h => exact .a h
 | cs h => exact .cs h
 | ref h => exact .any
 | eref h => exact .any
 | own h _ => exact .any
 | omp h _ => exact .any
 | clo h => exact .any
 | @tp vs xs hl hd =>
  cases xs with
  | nil => exact .tp hl fun j v r _ hr => by simp at hr
  | cons x xs => exact .any
 | agr _ _ _ => exact .any
 | @sem os p v h hp =>
  cases os with
  | nil => exact .sem (hp β' fun _ h => by cases h) fun β2 _ => hp β2 fun _ h => by cases h
  | cons o os => exact .any
theorem pur_pur (r : R) : r.pur.pur = r.pur := by
 cases r with
 | tp xs => cases xs <;> rfl
 | sem os p => cases os <;> rfl
 | _ => rfl
noncomputable def S.again (T : List Value) (τ σ : S) : S := { regs := fun t => (τ.regs t).pur, mem := (S.enter T [] σ).mem }
section
variable {c : Cx} {σ : S} {β : Nat → Value} {a : Act} {w : World}
theorem leave_re {M : List Nat} {E : (Nat → Prop) → World → Prop} {hE : ∀ {st st' : Nat → Prop} {w w' : World}, (∀ b, st b → st' b ∧ w'.heap[b]? = w.heap[b]?) → E st w → E st' w'} {T : Array Value} {rs : Nat → R}
  (h : Sim c σ β a w) (hf : σ.mem 999999 = some (.frame T.toList rs)) (hM : MarksOk c σ β w M) (he : E (stF c σ β w) w) :
  Sim (reC c T.size [] M E hE) (S.leave σ) (fun o => β (upId o)) { tmps := T, defers := [] } w ∧ ∀ b, stF c σ β w b → stF (reC c T.size [] M E hE) (S.leave σ) (fun o => β (upId o)) w b ∧ w.heap[b]? = w.heap[b]? := by
 have hβ : ∀ o, 1000000 ≤ o → (fun o => β (upId o)) (o - 1000000) = β o := fun o ho => congrArg β (upId_of ho)
 have hst : ∀ b, stF c σ β w b → stF (reC c T.size [] M E hE) (S.leave σ) (fun o => β (upId o)) w b ∧ w.heap[b]? = w.heap[b]? := fun b hb => ⟨⟨hb.1, hb.2.1, fun o x hx => by
  obtain ⟨_, y, hy, _⟩ := leave_at hx
  exact hb.2.2.1 _ y hy, hb.2.2.2⟩, rfl⟩
 have m2 := hM.keep (w' := w) (σ' := S.leave σ) (β' := fun o => β (upId o)) (fun _ _ _ => rfl) fun o x hx => by
  obtain ⟨_, y, hy, _⟩ := leave_at hx
  exact .inl ⟨_, y, hy, rfl⟩
 refine ⟨⟨h.keep, rfl, ⟨[], rfl, m2.nd, m2.ok, m2.lp⟩, hE hst he, fun o x hx => ?_, fun o x b hx hb => ?_, fun o o' x x' b hx hx' hb hb' => ?_, fun t => ?_, h.env.mono hst⟩, hst⟩
 ·obtain ⟨_, y, hy, rfl⟩ := leave_at hx
  exact ObRel.down (β' := fun o => β (upId o)) hβ ((h.obj _ y hy).mono hst fun _ _ => rfl)
 ·obtain ⟨h1, y, hy, rfl⟩ := leave_at hx
  exact (h.blk _ y b hy hb).imp id fun hx => ⟨hx.1, by have := hx.2; rw [upId_eq] at this; omega⟩
 ·obtain ⟨_, y, hy, rfl⟩ := leave_at hx
  obtain ⟨_, y', hy', rfl⟩ := leave_at hx'
  exact upId_inj (h.dis _ _ y y' b hy hy' hb hb')
 ·have := RelR.down (β' := fun o => β (upId o)) hβ (((h.obj _ _ hf).2 t).mono hst)
  simp only [S.leave, hf, frR]
  rwa [show T.toList.getD t undef = T.getD t undef by rw [List.getD_eq_getElem?_getD, Array.getD_eq_getD_getElem?, Array.getElem?_toList]] at this
theorem again_re {T : Array Value} {τ : S} {Ds : List Nat} {E : (Nat → Prop) → World → Prop} {hE : ∀ {st st' : Nat → Prop} {w w' : World}, (∀ b, st b → st' b ∧ w'.heap[b]? = w.heap[b]?) → E st w → E st' w'}
  (h : Sim (reC c T.size [] (Ds ++ c.M) E hE) σ β { tmps := T, defers := [] } w) (hE1 : ∀ st w, E st w → c.E st w ∧ ∀ t, RelR (fun _ => undef) st w (a.tmps.getD t undef) (τ.regs t).pur)
  (hsz : a.tmps.size = c.N) (hd : a.defers = Ds.map markD ++ c.df) : Sim c (S.again T.toList τ σ) (βIn β) a w := by
 have at_ : ∀ o x, (S.again T.toList τ σ).mem o = some x → (o = 999999 ∧ x = .frame T.toList fun t => (σ.regs t).up) ∨ ∃ o' y, o = upId o' ∧ σ.mem o' = some y ∧ x = y.up := fun o x hx => enter_at (vs := T.toList) (rs := []) hx
 have hst : ∀ b, stF (reC c T.size [] (Ds ++ c.M) E hE) σ β w b → stF c (S.again T.toList τ σ) (βIn β) w b ∧ w.heap[b]? = w.heap[b]? := fun b hb => ⟨⟨hb.1, hb.2.1, fun o x hx => by
  rcases at_ o x hx with ⟨rfl, _⟩ | ⟨o', y, rfl, hy, _⟩
  ·simp [βIn, undef_own]
  ·rw [βIn_add]; exact hb.2.2.1 o' y hy, hb.2.2.2⟩, rfl⟩
 obtain ⟨Ds', _, hM⟩ := h.df
 obtain ⟨hce, hre⟩ := hE1 _ _ h.ext
 have m2 := hM.keep (w' := w) (σ' := S.again T.toList τ σ) (β' := βIn β) (fun _ _ _ => rfl) fun o x hx => by
  rcases at_ o x hx with ⟨rfl, _⟩ | ⟨o', y, rfl, hy, _⟩
  ·exact .inr fun b hb => by simp [βIn, undef_own] at hb
  ·exact .inl ⟨o', y, hy, βIn_add β o'⟩
 refine ⟨h.keep, hsz, ⟨Ds, hd, (List.nodup_append.1 m2.nd).2.1, fun D hD => m2.ok D (List.mem_append_right _ hD), m2.lp⟩, c.hE hst hce, fun o x hx => ?_, fun o x b hx hb => ?_, fun o o' x x' b hx hx' hb hb' => ?_, fun t => ?_, h.env.mono hst⟩
 ·rcases at_ o x hx with ⟨rfl, rfl⟩ | ⟨o', y, rfl, hy, rfl⟩
  ·refine ⟨by simp [βIn, undef_own], fun t => ?_⟩
   have := ((h.reg t).mono hst).up (βIn_add β)
   rwa [show T.toList.getD t undef = T.getD t undef by rw [List.getD_eq_getElem?_getD, Array.getD_eq_getD_getElem?, Array.getElem?_toList]]
  ·rw [βIn_add]
   exact ((h.obj o' y hy).mono hst fun _ _ => rfl).up (βIn_add β)
 ·rcases at_ o x hx with ⟨rfl, rfl⟩ | ⟨o', y, rfl, hy, rfl⟩
  ·simp [βIn, undef_own] at hb
  ·rw [βIn_add] at hb
   exact (h.blk o' y b hy hb).imp id fun hx => ⟨hx.1, by rw [upId_eq]; omega⟩
 ·rcases at_ o x hx with ⟨rfl, rfl⟩ | ⟨o1, y, rfl, hy, rfl⟩
  ·simp [βIn, undef_own] at hb
  ·rcases at_ o' x' hx' with ⟨rfl, rfl⟩ | ⟨o2, y', rfl, hy', rfl⟩
   ·simp [βIn, undef_own] at hb'
   ·rw [βIn_add] at hb hb'
    rw [h.dis o1 o2 y y' b hy hy' hb hb']
 ·have := pur_rel (β' := βIn β) (hre t)
  rw [pur_pur] at this
  exact this.mono hst
end
theorem fv_at {m : Option Ob} {vs : List Value} (h : fvOf m = some vs) : ∃ rs, m = some (.frame vs rs) := by
 unfold fvOf at h
 split at h
 ·rename_i vs' rs' ; cases h; exact ⟨rs', rfl⟩
 ·cases h
theorem yield_sem {P : Program} {gl : Nat → Option (List D)} {L : Nat} {T : Array Value} {dst : Option Tmp} {y : Operand} {l : List Operand} {ts : Array TypeId} {ty : TypeId} {pos : String} {after : Array Edge} {g : Option (Nat × Bool)} {τ : S} {x : List A} {A' B' : S → Prop} {K : S → Prop}
  (hy : τ.eval gl y = yR L) (hx : evs gl τ l = datR x) (hf : fvOf (τ.mem 999999) = some T.toList) (hY : YieldOk P gl L T τ.leave x A' B')
  (hA : ∀ σ', A' σ' → K ((S.again T.toList τ σ').put dst (.a (.d (.v (.bool true)))))) (hB : ∀ σ', B' σ' → K ((S.again T.toList τ σ').put dst (.a (.d (.v (.bool false)))))) :
  SemOp P gl ⟨dst, .call ⟨.value y, l.toArray, ts⟩, ty, pos, after, g⟩ τ K := by
 intro c β a w hP hgl hs hd
 subst hP; subst hgl
 have hyv : a.eval y = yieldV L := yR_inv (hy ▸ hs.eval y)
 obtain ⟨rs, hfr⟩ := fv_at hf
 obtain ⟨Ds, hds, hM⟩ := hs.df
 let E' : (Nat → Prop) → World → Prop := fun st w => c.E st w ∧ ∀ t, RelR (fun _ => undef) st w (a.tmps.getD t undef) (τ.regs t).pur
 have hE' : ∀ {st st' : Nat → Prop} {w w' : World}, (∀ b, st b → st' b ∧ w'.heap[b]? = w.heap[b]?) → E' st w → E' st' w' := fun H h => ⟨c.hE H h.1, fun t => (h.2 t).mono H⟩
 obtain ⟨hl, hst⟩ := leave_re (E := E') (hE := hE') hs hfr hM ⟨hs.ext, fun t => pur_rel (hs.reg t)⟩
 have hv : F2 (RelA (stF (reC c T.size [] (Ds ++ c.M) E' hE') τ.leave (fun o => β (upId o)) w) w) (l.map a.eval) x := by
  have hlen : l.length = x.length := by
   have := congrArg List.length hx
   rw [← evs_map, datR_eq] at this
   simpa using this
  refine ⟨by simpa using hlen, fun i u z hu hz => ?_⟩
  rw [List.getElem?_map] at hu
  obtain ⟨o, ho, rfl⟩ := Option.map_eq_some_iff.1 hu
  have h1 : (evs c.gl τ l)[i]? = some (τ.eval c.gl o) := by rw [← evs_map, List.getElem?_map, ho]; rfl
  rw [hx, datR_eq, List.getElem?_map, hz] at h1
  have h2 := hs.eval o
  rw [← Option.some.inj h1] at h2
  exact RelA.mono hst h2.inv_a
 refine Run.of_wp (fun _ e => by cases e) fun ρ n next Q hn => ?_
 obtain ⟨fn, tmps, assign, body, hyl, hR⟩ := hY (reC c T.size [] (Ds ++ c.M) E' hE') _ _ w _ (n - 1) rfl rfl rfl hl hv
 have hrun : (execOp a.eval ⟨dst, .call ⟨.value y, l.toArray, ts⟩, ty, pos, after, g⟩).run c.P w = .ok (.round L fn tmps assign body) w := by
  have h2 : (l.toArray.map a.eval) = (l.map a.eval).toArray := by simp
  simp only [execOp, resolve, hyv, yieldV, Sem.run_bind, Sem.run_pure, Result.andThen_ok]
  simp [Deferred.ofValue, invoke, h2, hyl]
 rw [hrun]
 refine ⟨fun hs => by simp [WF, Fence.wide] at hs, ?_⟩
 have hW : ∀ R, RoundIn Fence.wide (n - 1) c.P L fn tmps assign body w R → RoundIn (WF ρ) (n - 1) c.P L fn tmps assign body w R := fun R h => by
  cases ρ with
  | none => exact h
  | some l => exact h
 refine RoundIn.mono (hW _ hR) fun e w' he => ?_
 obtain ⟨σ', β', hs', hk⟩ := he
 have hag := again_re (c := c) (a := a) (τ := τ) hs' (fun _ _ h => h) hs.size hds
 rcases hk with ⟨rfl, hk⟩ | ⟨rfl, hk⟩
 ·exact hn _ _ ⟨_, _, hA σ' hk, hag.put hd (.a (x := .d (.v (.bool true))) (.v rfl))⟩
 ·exact hn _ _ ⟨_, _, hB σ' hk, hag.put hd (.a (x := .d (.v (.bool false))) (.v rfl))⟩
def S.del (σ : S) (o : Nat) : S := { σ with mem := fun o' => if o' = o then none else σ.mem o' }
def exC : Ex → Option Code
 | .normal => none
 | .exit id => some (.exit id)
 | .ret => some .ret
 | .panic _ _ => none
theorem range_semR {Rl : S → S → Prop} {P : Program} {gl : Nat → Option (List D)} {f : Operand} {ps : Array Tmp} {assign body : Code} {Q : Ex → S → Prop} {σ : S} {gf : FuncId} {caps : List D} {xs : List (List A)} (Inv : Nat → S → Prop) (Done : Ex → S → Prop)
  (hf : σ.eval gl f = .a (.d (.fn gf caps))) (hit : IterR Rl P gl gf caps xs) (hRl : ∀ σ σ' L r, Rl σ σ' → σ.mem 999997 = some (.sem (recOb L r)) → σ'.mem 999997 = some (.sem (recOb L r))) (hxs : ∀ x ∈ xs, x.length = ps.size) (hna : noRng assign = true) (hnb : noRng body = true)
  (hudI : ∀ i σ σ', Rl σ σ' → Inv i σ → Inv i σ') (hudD : ∀ e σ σ', Rl σ σ' → Done e σ → Done e σ')
  (h0 : ∀ L r, Inv 0 (σ.newOb 999997 (.sem (recOb L r))))
  (hR : ∀ L T r i x σ, r.state = .ready → xs[i]? = some x → Inv i σ → σ.mem 999997 = some (.sem (recOb L r)) →
   awp P gl assign (rndB P gl L T r body (fun τ => τ.mem 999997 = some (.sem (recOb L { r with state := .ready, pending := none })) ∧ Inv (i + 1) τ)
    (fun e τ => τ.mem 999997 = some (.sem (recOb L { r with state := .done, pending := exC e })) ∧ Done e τ)) (σ.rnd T ps.toList x))
  (hN : ∀ σ, Inv xs.length σ → Q .normal (σ.del 999997)) (hD : ∀ e σ, Done e σ → Q e (σ.del 999997)) : SemCode P gl (.rangeFunc f ps assign body) Q σ := by
 intro c β a w ρ n hP hgl hmx hd hp hs
 subst hP; subst hgl
 obtain rfl : ρ = none := hp.resolve_right (by simp [noRng])
 simp only [dstOK, Bool.and_eq_true] at hd
 obtain ⟨⟨hdp, hda⟩, hdb⟩ := hd
 obtain ⟨cvs, hcv, hcl, hcd⟩ : ∃ cvs : List Value, a.eval f = .func (.func gf) #[] cvs.toArray ∧ cvs.length = caps.length ∧ ∀ (j : Nat) (d : D) (v : Value), caps[j]? = some d → cvs[j]? = some v → Rd (stF c σ β w) w v d := by
  have hfv := (hf ▸ hs.eval f).inv_d
  generalize a.eval f = fv at hfv
  cases hfv with
  | fn hl hd => exact ⟨_, rfl, hl, hd⟩
 refine wpIn_rangeFunc fun fn _ => ?_
 have hro : (WF none).round = none := rfl
 obtain ⟨Ds, hds, hM⟩ := hs.df
 let r0 : Loop := { state := .ready, pending := none, fn := fn, tmps := a.tmps, params := ps, assign := assign, body := body, defers := w.heap.size }
 let w1 := w.alloc (.deferred (some []))
 let W1 := w1.alloc (.loop r0)
 have hsz1 : w1.heap.size = w.heap.size + 1 := World.size_alloc _ _
 have hL : W1.heap[w.heap.size + 1]? = some (.loop r0) := by
  have := World.alloc_heap_new w1 (.loop r0); rwa [hsz1] at this
 have hold : ∀ k, k < w.heap.size → W1.heap[k]? = w.heap[k]? := fun k hk => (Below.heap_alloc w1 _ k (by omega)).trans (Below.heap_alloc w _ k hk)
 have hDd : W1.heap[w.heap.size]? = some (.deferred (some [])) := (Below.heap_alloc w1 _ _ (by omega)).trans (World.alloc_heap_new w _)
 have hg := (hs.grow (Keep.alloc (fun _ => False) w (.deferred (some [])))).1
 have hn := hg.new (o := 999997) (x := .sem (recOb (w.heap.size + 1) r0)) (bv := .pointer (some ⟨w.heap.size + 1, 0, none⟩)) (w' := W1) (Keep.alloc _ _ _) (fun b hb => by cases hb; exact .inl (by rw [World.size_alloc]; exact Nat.le_refl _)) ⟨rfl, hL⟩
 have hM1 : MarksOk c (σ.newOb 999997 (.sem (recOb (w.heap.size + 1) r0))) (upd β 999997 (.pointer (some ⟨w.heap.size + 1, 0, none⟩))) W1 ((w.heap.size :: Ds) ++ c.M) := by
  have hk := hM.keep (w' := W1) (σ' := σ.newOb 999997 (.sem (recOb (w.heap.size + 1) r0))) (β' := upd β 999997 (.pointer (some ⟨w.heap.size + 1, 0, none⟩))) (fun D hD _ => hold D hD) fun o x hx => by
   by_cases e : o = 999997
   ·subst e; exact .inr fun b hb => by simp only [upd, if_pos rfl] at hb; cases hb; exact .inl (Nat.le_succ _)
   ·simp only [S.newOb, upd, if_neg e] at hx
    obtain ⟨y, hy, _⟩ := Option.map_eq_some_iff.1 hx
    exact .inl ⟨o, y, hy, by simp [upd, e]⟩
  refine ⟨?_, fun D hD => ?_, hk.lp⟩
  ·simp only [List.cons_append, List.nodup_cons]
   refine ⟨fun hin => ?_, hM.nd⟩
   have := lt_of_some (hM.ok _ hin).2.1
   omega
  ·simp only [List.cons_append, List.mem_cons] at hD
   rcases hD with rfl | hD
   ·refine ⟨hs.keep.size, hDd, fun o x hx e => ?_⟩
    by_cases eo : o = 999997
    ·subst eo; simp only [upd, if_pos rfl] at e; have h9 : w.heap.size + 1 = w.heap.size := Option.some.inj e; omega
    ·simp only [S.newOb, upd, if_neg eo] at hx e
     obtain ⟨y, hy, _⟩ := Option.map_eq_some_iff.1 hx
     have := (hs.obj o y hy).lt e
     omega
   ·exact hk.ok D hD
 have hs1 : Sim c (σ.newOb 999997 (.sem (recOb (w.heap.size + 1) r0))) (upd β 999997 (.pointer (some ⟨w.heap.size + 1, 0, none⟩))) { a with defers := markD w.heap.size :: a.defers } W1 :=
  (hn.move (N := c.N) (df := c.df) (M := c.M) (E := c.E) (hE := c.hE) (a' := { a with defers := markD w.heap.size :: a.defers }) (fun o x h => h) hs.size (w.heap.size :: Ds) (by simp [hds]) hM1 hn.ext fun t => hn.reg t).1
 have hst1 : ∀ b, stF c σ β w b → stF c (σ.newOb 999997 (.sem (recOb (w.heap.size + 1) r0))) (upd β 999997 (.pointer (some ⟨w.heap.size + 1, 0, none⟩))) W1 b ∧ W1.heap[b]? = w.heap[b]? := fun b hb =>
  ⟨st_new (by rw [World.size_alloc, World.size_alloc]; omega) (fun b hb => hold b hb.1) (fun b hb => by cases hb; exact .inl (Nat.le_succ _)) hb, hold b hb.1⟩
 have hargs : F2 (RelR (upd β 999997 (.pointer (some ⟨w.heap.size + 1, 0, none⟩))) (stF c (σ.newOb 999997 (.sem (recOb (w.heap.size + 1) r0))) (upd β 999997 (.pointer (some ⟨w.heap.size + 1, 0, none⟩))) W1) W1) (yieldV (w.heap.size + 1) :: cvs) (yR (w.heap.size + 1) :: caps.map fun d => .a (.d d)) := by
  refine F2.cons yR_rel ⟨by simp [hcl], fun i u r hu hr => ?_⟩
  simp only [List.getElem?_map, Option.map_eq_some_iff] at hr
  obtain ⟨d, hd, rfl⟩ := hr
  exact .a (x := .d d) ((hcd i d u hd hu).mono hst1)
 have hcall := hit.2 (w.heap.size + 1) a.tmps (σ.newOb 999997 (.sem (recOb (w.heap.size + 1) r0))) (fun i τ => τ.mem 999997 = some (.sem (recOb (w.heap.size + 1) r0)) ∧ Inv i τ)
  (fun τ => ∃ e : Ex, Ex.calm e = true ∧ τ.mem 999997 = some (.sem (recOb (w.heap.size + 1) { r0 with state := .done, pending := exC e })) ∧ Done e τ)
  (fun i τ τ' hr h => ⟨hRl _ _ _ _ hr h.1, hudI i τ τ' hr h.2⟩)
  (fun τ τ' hr ⟨e, hc, h⟩ => ⟨e, hc, hRl _ _ _ _ hr h.1, hudD e τ τ' hr h.2⟩)
  (fun i x τ hx h => yield_ok hmx h.1 rfl rfl (hxs x (List.mem_of_getElem? hx)).symm (fun p hp => by have := List.all_eq_true.1 hdp p hp; rw [hs.size]; simpa using this) (by rw [hs.size]; exact hda) hna (by rw [hs.size]; exact hdb) hnb (hR _ _ _ i x τ rfl hx h.2 h.1))
  ⟨by simp [S.newOb, upd], h0 _ _⟩ c _ { a with defers := markD w.heap.size :: a.defers } W1 _ rfl rfl rfl hs1 hargs
 refine ⟨w.heap.size + 1, [markD w.heap.size], W1, { target := .fn (.func gf) cvs.toArray, args := #[yieldV (w.heap.size + 1)] }, W1, gf, (yieldV (w.heap.size + 1) :: cvs).toArray, W1, run_enterLoop_outer _ _ _ _ _, ?_, fun _ _ => trivial, ?_, fun h => by simp [WF, Fence.wide] at h, ?_⟩
 ·simp only [resolve, hcv]
  simp [go_sem, yieldV]
 ·have h2 : (#[yieldV (w.heap.size + 1)] ++ cvs.toArray : Array Value) = (yieldV (w.heap.size + 1) :: cvs).toArray := by simp
  simp only [invoke, h2]
  exact funcs_run hit.1
 ·refine callsW (ρ := none) (hcall.mono ?_)
  rintro e W2 ⟨v, σ', β', rfl, hs2, hk⟩
  have fin : ∀ (e : Ex) (r : Loop), e.calm = true → σ'.mem 999997 = some (.sem (recOb (w.heap.size + 1) r)) → r.state ≠ .busy → r.pending = exC e → Q e (σ'.del 999997) → rangePost (WF none) n c.P (w.heap.size + 1) (Qh c Q) { a with defers := [markD w.heap.size] ++ a.defers } (.returned v) W2 := fun e r hcalm hr hb hpe hq => by
   obtain ⟨hh, hs3⟩ := rec_set { r with state := .exhausted } hs2 hr
   refine ⟨_, _, run_endLoop hh hb, ?_⟩
   obtain ⟨Ds3, hds3, hM3⟩ := hs3.df
   have hs4 : Sim c (σ'.del 999997) β' { a with defers := [markD w.heap.size] ++ a.defers } (W2.putObj (w.heap.size + 1) (.loop { r with state := .exhausted })) :=
    (hs3.move (N := c.N) (df := c.df) (M := c.M) (E := c.E) (hE := c.hE) (σ' := σ'.del 999997) (fun o x hx => by
     simp only [S.del] at hx
     split at hx
     ·cases hx
     ·rename_i e; simp only [S.setOb, upd, if_neg e]; exact hx) hs3.size Ds3 hds3 hM3 hs3.ext fun t => hs3.reg t).1
   rw [hpe] at hs4 ⊢
   cases e with
   | normal => exact ⟨_, _, hs4, hq⟩
   | ret => exact wpIn_ret ⟨_, _, hs4, hq⟩
   | exit id => exact wpIn_exit ⟨_, _, hs4, hq⟩
   | panic t r => cases hcalm
  rcases hk with ⟨hr, hi⟩ | ⟨e, hcalm, hr, hd⟩
  ·exact fin .normal _ rfl hr (by simp [r0]) rfl (hN _ hi)
  ·exact fin e _ hcalm hr (by simp) rfl (hD e _ hd)
theorem range_sem {P : Program} {gl : Nat → Option (List D)} {f : Operand} {ps : Array Tmp} {assign body : Code} {Q : Ex → S → Prop} {σ : S} {gf : FuncId} {caps : List D} {xs : List (List A)} (Inv : Nat → S → Prop) (Done : Ex → S → Prop)
  (hf : σ.eval gl f = .a (.d (.fn gf caps))) (hit : IterV P gl gf caps xs) (hxs : ∀ x ∈ xs, x.length = ps.size) (hna : noRng assign = true) (hnb : noRng body = true)
  (hudI : ∀ i σ, Inv i σ → Inv i σ.ud) (hudD : ∀ e σ, Done e σ → Done e σ.ud)
  (h0 : ∀ L r, Inv 0 (σ.newOb 999997 (.sem (recOb L r))))
  (hR : ∀ L T r i x σ, r.state = .ready → xs[i]? = some x → Inv i σ → σ.mem 999997 = some (.sem (recOb L r)) →
   awp P gl assign (rndB P gl L T r body (fun τ => τ.mem 999997 = some (.sem (recOb L { r with state := .ready, pending := none })) ∧ Inv (i + 1) τ)
    (fun e τ => τ.mem 999997 = some (.sem (recOb L { r with state := .done, pending := exC e })) ∧ Done e τ)) (σ.rnd T ps.toList x))
  (hN : ∀ σ, Inv xs.length σ → Q .normal (σ.del 999997)) (hD : ∀ e σ, Done e σ → Q e (σ.del 999997)) : SemCode P gl (.rangeFunc f ps assign body) Q σ :=
 range_semR Inv Done hf hit (fun σ σ' L r e h => by subst e; simp only [S.ud]; rw [if_neg (by omega), h, Option.map_some, sem_up_down]) hxs hna hnb (fun i σ σ' e h => e ▸ hudI i σ h) (fun x σ σ' e h => e ▸ hudD x σ h) h0 hR hN hD
theorem S.ext' {σ σ' : S} (h1 : ∀ t, σ.regs t = σ'.regs t) (h2 : ∀ o, σ.mem o = σ'.mem o) : σ = σ' := by
 obtain ⟨r, m⟩ := σ
 obtain ⟨r', m'⟩ := σ'
 congr 1
 ·exact funext h1
 ·exact funext h2
theorem lv_put {σ : S} {d : Option Nat} {r : R} : (S.put σ d r).leave = σ.leave := by cases d <;> rfl
theorem enter_leave {T : List Value} {rs : List R} {σ : S} : (S.enter T rs σ).leave = σ.ud := by
 refine S.ext' (fun t => ?_) fun o => ?_
 ·rw [lv_r, me_f]; rfl
 ·simp only [S.leave, S.ud]
  have hu := upId_eq o
  split
  ·rfl
  ·simp only [S.enter]
   rw [if_neg (by omega), if_neg (by omega), upId_sub, Option.map_map]; rfl
theorem again_leave {T : List Value} {τ σ : S} : (S.again T τ σ).leave = σ.ud := by
 rw [← enter_leave (T := T) (rs := []) (σ := σ)]; rfl
theorem ag_r {T : List Value} {τ σ : S} {t : Nat} : (S.again T τ σ).regs t = (τ.regs t).pur := rfl
theorem ag_f {T : List Value} {τ σ : S} : (S.again T τ σ).mem 999999 = some (.frame T (upF σ.regs)) := me_f (rs := [])
theorem pu_a {x : A} : R.pur (.a x) = .a x := rfl
theorem pu_cs {x : List (List D)} : R.pur (.cs x) = .cs x := rfl
theorem pu_y {L : Nat} : (yR L).pur = yR L := rfl
theorem up_y {L : Nat} : (yR L).up = yR L := rfl
theorem k_y {L o : Nat} : (yR L).kill o = yR L := rfl
theorem f_y {L o : Nat} {f : Nat → D} : (yR L).frz o f = yR L := rfl
theorem cf_y {P : Program} {gl : Nat → Option (List D)} {σ : S} {K : S → Prop} {dst : Option Tmp} {o : Oper} {L : Nat} {rs : List R} : callF P gl o (yR L) rs dst σ K = SemOp P gl o σ K := rfl
theorem ud_r {σ : S} {t : Nat} : σ.ud.regs t = (σ.regs t).up.down := rfl
theorem ud_m {σ : S} {o : Nat} (h : decide (o < 999000000) = true) : σ.ud.mem o = (σ.mem o).map fun x => x.up.down := by
 simp only [S.ud]; rw [if_neg (by have := of_decide_eq_true h; omega)]
theorem iter_bodyR {Rl : S → S → Prop} {P : Program} {gl : Nat → Option (List D)} {f : FuncId} {fn : Func} {body : Code} {caps : List D} {xs : List (List A)} (hm : P.follows .mixedOrders = true)
  (hf : P.funcs[f]? = some fn) (hb : fn.body = some body) (hr : resT fn.results.toList = some []) (hname : (fn.name == "runtime.NumGoroutine") = false) (hd : dstOK fn.ntmps body = true) (hN : decide ((yR 0 :: caps.map fun d => R.a (.d d)).length ≤ fn.ntmps) = true)
  (h : ∀ (L : Nat) (T : Array Value) (σ : S) (Inv : Nat → S → Prop) (Done : S → Prop), (∀ i σ σ', Rl σ σ' → Inv i σ → Inv i σ') → (∀ σ σ', Rl σ σ' → Done σ → Done σ') → (∀ i x σ, xs[i]? = some x → Inv i σ → YieldOk P gl L T σ x (Inv (i + 1)) Done) → Inv 0 σ →
   awp P gl body (postG T.toList [] fun σ' _ => Inv xs.length σ' ∨ Done σ') (S.enter T.toList (yR L :: caps.map fun d => .a (.d d)) σ)) : IterR Rl P gl f caps xs := by
 refine ⟨⟨fn, hf, by rw [hb]; rfl, hname⟩, fun L T σ Inv Done hI hD hY h0 c β a w vs hP hgl hT hs hv => ?_⟩
 refine (inl_bodyT hm hf hb hr hd (by simpa using hN) (h L T σ Inv Done hI hD hY h0) c β a w vs hP hgl (by rw [hT]) hs hv).mono fun e w' hq => ?_
 obtain ⟨us, rs', σ', β', he, hs', _, hk⟩ := hq
 exact ⟨_, σ', β', he, hs', hk⟩
theorem iter_body {P : Program} {gl : Nat → Option (List D)} {f : FuncId} {fn : Func} {body : Code} {caps : List D} {xs : List (List A)} (hm : P.follows .mixedOrders = true)
  (hf : P.funcs[f]? = some fn) (hb : fn.body = some body) (hr : resT fn.results.toList = some []) (hname : (fn.name == "runtime.NumGoroutine") = false) (hd : dstOK fn.ntmps body = true) (hN : decide ((yR 0 :: caps.map fun d => R.a (.d d)).length ≤ fn.ntmps) = true)
  (h : ∀ (L : Nat) (T : Array Value) (σ : S) (Inv : Nat → S → Prop) (Done : S → Prop), (∀ i σ, Inv i σ → Inv i σ.ud) → (∀ σ, Done σ → Done σ.ud) → (∀ i x σ, xs[i]? = some x → Inv i σ → YieldOk P gl L T σ x (Inv (i + 1)) Done) → Inv 0 σ.ud →
   awp P gl body (postG T.toList [] fun σ' _ => Inv xs.length σ' ∨ Done σ') (S.enter T.toList (yR L :: caps.map fun d => .a (.d d)) σ)) : IterV P gl f caps xs :=
 iter_bodyR hm hf hb hr hname hd hN fun L T σ Inv Done hI hD hY h0 => h L T σ Inv Done (fun i σ hi => hI i σ _ rfl hi) (fun σ hd => hD σ _ rfl hd) hY (hI 0 σ _ rfl h0)
theorem iter_end {vs : List Value} {K : S → List R → Prop} {τ : S} {e : Ex} (he : e = .normal ∨ e = .ret) (hf : fvOf (τ.mem 999999) = some vs) (hk : K τ.leave []) : postG vs [] K e τ := by
 rcases he with rfl | rfl <;> exact ⟨τ, Ghost.refl τ, hf, hk⟩
theorem sem_make {P : Program} {gl : Nat → Option (List D)} {σ : S} {K : S → Prop} {ty : TypeId} {pos : String} {after : Array Edge} {g : Option (Nat × Bool)} {t e : TypeId} {ti : TI} {z0 : Value} {n : Nat} {x y : Operand} {d : Tmp} (ht : tk P t = .slice e) (hti : tinf P e = some ti) (hsz : ti.sz = 1) (hz : ti.z = [z0]) (hz1 : z0.oneCell' = true)
  (hx : σ.eval gl x = .a (.d (.v (.int .i64 n)))) (hy : σ.eval gl y = .a (.d (.v (.int .i64 n)))) (hn : n ≤ 1000000) (hbs : ti.bs ≤ 100)
  (hk : K ((σ.newOb d (.log e 1 (List.replicate n [.v z0]))).put (some d) (.own d))) : SemOp P gl ⟨some d, .makeSlice t x y, ty, pos, after, g⟩ σ K := by
 intro c β a w hP hgl hs hd
 subst hP; subst hgl
 have hvx : a.eval x = .int .i64 n := (hx ▸ hs.eval x).inv_v
 have hvy : a.eval y = .int .i64 n := (hy ▸ hs.eval y).inv_v
 obtain ⟨i, u, z, hi, _, hiz, hte⟩ := tinf_info hti
 have hzc : z.cells = #[z0] := by rw [hte] at hz; exact Array.toList_inj.1 (by simpa using hz)
 have hisz : i.size = 1 := by rw [hte] at hsz; exact hsz
 have hibs : i.bytes ≤ 100 := by rw [hte] at hbs; exact hbs
 have hrun := run_make (P := c.P) w t e i z (tk_slice ht) hi hiz .i64 .i64 n n (by omega) (Int.le_refl _) (by
  have : (i.bytes : Int) * (n : Int) ≤ 100 * 1000000 := Int.mul_le_mul (by omega) (by omega) (by omega) (by omega)
  omega) (by omega)
 simp only [Int.toNat_natCast, hzc, hisz, Nat.mul_one] at hrun
 have hmc : (madeCells #[z0] n).toList = List.replicate n z0 := by
  refine List.ext_getElem? fun j => ?_
  simp only [madeCells, Array.toList_map, List.getElem?_map, Array.toList_range, List.getElem?_replicate]
  by_cases hj : j < n
  ·rw [List.getElem?_range hj, if_pos hj]
   simp [Nat.mod_one]
  ·rw [List.getElem?_eq_none (by simpa using hj), if_neg hj]; rfl
 have hs2 := hs.new (o := d) (x := .log e 1 (List.replicate n [.v z0])) (bv := .slice (some ⟨w.heap.size, 0, none⟩) n n) (w' := w.alloc (.cells (madeCells #[z0] n) e)) (Keep.alloc _ _ _) (fun b hb => by
   cases n with
   | zero => cases hb
   | succ m => cases hb; exact .inl (Nat.le_refl _))
  ⟨List.replicate n z0, .inl ⟨by simp, .inr ⟨w.heap.size, n, madeCells #[z0] n, by rw [List.length_replicate], Nat.zero_le _, by first | exact heap_alloc_new _ _ | exact World.alloc_heap_new _ _, by simp, by simp only [maxLen]; omega, by simp [size_madeCells], by rw [hmc]; simp⟩⟩, by
   refine ⟨?_, fun c hc => by rw [List.mem_replicate] at hc; rw [hc.2]; rfl⟩
   have h1 : (List.replicate n [D.v z0]).flatten = List.replicate n (D.v z0) := by simp [List.flatten_replicate_singleton]
   rw [h1]
   refine ⟨by simp, fun j u dd hu hd' => ?_⟩
   rw [List.getElem?_replicate] at hu hd'
   split at hu
   ·rw [if_pos ‹_›] at hd'; cases hu; cases hd'; exact .v hz1
   ·cases hu⟩
 refine Run.val (v := .slice (some ⟨w.heap.size, 0, none⟩) n n) (w' := w.alloc (.cells (madeCells #[z0] n) e)) (fun _ e => by cases e) ?_ ⟨_, _, hk, hs2.put hd (.own (by simp [upd]) rfl)⟩
 simp [execOp, hvx, hvy, hrun]
section
variable {σ : S} {o t : Nat} {vs : List Value} {rs : Nat → R} {reg : Nat → R} {L : Nat} {r : Loop}
theorem rn_r {ps : List Tmp} {xs : List A} : (σ.rnd vs ps xs).regs t = updL (killR 999996 σ.regs) ps xs t := rfl
theorem rn_m {ps : List Tmp} {xs : List A} : (σ.rnd vs ps xs).mem o = (σ.newOb 999996 (.frame vs (killR 999996 σ.regs))).mem o := rfl
theorem ul_n {xs : List A} : updL reg [] xs t = reg t := by cases xs <;> rfl
theorem ul_c {p : Tmp} {ps : List Tmp} {x : A} {xs : List A} : updL reg (p :: ps) (x :: xs) t = updL (upd reg p (.a x)) ps xs t := rfl
theorem up_e {x : R} : upd reg t x t = x := by simp [upd]
theorem up_n {x : R} {d : Nat} (h : (d == t) = false) : upd reg d x t = reg t := by
 have : t ≠ d := fun e => by simp [e] at h
 simp [upd, this]
theorem kf_f : Ob.kill o (.frame vs rs) = .frame vs (killR o rs) := rfl
theorem ff_f {f : Nat → D} : Ob.frz o f (.frame vs rs) = .frame vs (frzR o f rs) := rfl
theorem frb_go : frB (some (.frame vs rs)) t = rs t := rfl
theorem k_rec : Ob.kill o (.sem (recOb L r)) = .sem (recOb L r) := rfl
theorem f_rec {f : Nat → D} : Ob.frz o f (.sem (recOb L r)) = .sem (recOb L r) := rfl
theorem bk_r : σ.back.regs t = frB (σ.mem 999996) t := rfl
theorem bk_m (h : (o == 999996) = false) : σ.back.mem o = σ.mem o := by
 have : ¬ o = 999996 := by simpa using h
 simp [S.back, this]
theorem dl_r : (σ.del o).regs t = σ.regs t := rfl
theorem dl_m {o' : Nat} (h : (o' == o) = false) : (σ.del o).mem o' = σ.mem o' := by
 have : ¬ o' = o := by simpa using h
 simp [S.del, this]
theorem rb_n {P : Program} {gl : Nat → Option (List D)} {T : List Value} {body : Code} {A' : S → Prop} {B' : Ex → S → Prop} : rndB P gl L T r body A' B' .normal σ = (σ.mem 999997 = some (.sem (recOb L r)) ∧ awp P gl body (rndQ L T r A' B') (σ.setOb 999997 (.sem (recOb L { r with state := .busy })))) := rfl
theorem rq_n {T : List Value} {A' : S → Prop} {B' : Ex → S → Prop} : rndQ L T r A' B' .normal σ = (fvOf (σ.mem 999996) = some T ∧ σ.mem 999997 = some (.sem (recOb L { r with state := .busy })) ∧ A' (σ.setOb 999997 (.sem (recOb L { r with state := .ready, pending := none }))).back) := rfl
theorem rq_r {T : List Value} {A' : S → Prop} {B' : Ex → S → Prop} : rndQ L T r A' B' .ret σ = (fvOf (σ.mem 999996) = some T ∧ σ.mem 999997 = some (.sem (recOb L { r with state := .busy })) ∧ B' .ret (σ.setOb 999997 (.sem (recOb L { r with state := .done, pending := some .ret }))).back) := rfl
theorem rq_e {T : List Value} {A' : S → Prop} {B' : Ex → S → Prop} {id : Nat} : rndQ L T r A' B' (.exit id) σ = (fvOf (σ.mem 999996) = some T ∧ σ.mem 999997 = some (.sem (recOb L { r with state := .busy })) ∧ B' (.exit id) (σ.setOb 999997 (.sem (recOb L { r with state := .done, pending := some (.exit id) }))).back) := rfl
end
def PF :=
 And.intro @rn_r <| And.intro @rn_m <| And.intro @ul_n <| And.intro @ul_c <| And.intro @up_e <| And.intro @up_n <| And.intro @kf_f <| And.intro @ff_f <| And.intro @frb_go <| And.intro @k_rec <| And.intro @f_rec <| And.intro @bk_r <| And.intro @bk_m <| And.intro @dl_r <| And.intro @dl_m <| And.intro @rb_n <| And.intro @rq_n <| And.intro @rq_r <| And.intro @rq_e <| And.intro @fv_go <| And.intro @kr_go <| @fz_go
attribute [go_sem] PF
end Go.VC
end
section
set_option maxRecDepth 100000
namespace Go.VC
open Go.RowKit Go.Proofs Go.IntWalk
def PY :=
 And.intro @lv_put <| And.intro @again_leave <| And.intro @ag_r <| And.intro @ag_f <| And.intro @pu_a <| And.intro @pu_cs <| And.intro @pu_y <| And.intro @up_y <| And.intro @k_y <| And.intro @f_y <| And.intro @cf_y <| @enter_leave
attribute [go_sem] PY
section
variable {P : Program} {gl : Nat → Option (List D)} {σ : S} {K : S → Prop} {dst : Option Tmp} {ty : TypeId} {pos : String} {after : Array Edge} {g : Option (Nat × Bool)}
theorem y_assign_nf : opA P gl ⟨dst, .assign (.const .nilFunc), ty, pos, after, g⟩ σ K = K (σ.put dst (.a (.d (.v .nilFunc)))) := rfl
end
theorem t91 (n : Int) : Holds Tryz.prog GL 94 [I n] [.a (.d (.fn 119 [.pt [dI n]]))] := by
 refine fn_holds (vs := [.tmp 2]) (by kernel_rfl) Tryz.func94 rfl rfl (by kernel_rfl) (by kernel_rfl) rfl ?_
 (refine rO ?_; repeat' ((with_reducible first | refine rG ?_ | (refine rS ?_ ?_ <;> intro hp) | (refine rB ?_ ?_ <;> intro hb <;> try rw [hb]) | refine rD ?_ | refine rA ?_ | fail) <;> try simp only [go_sem, simprocAttr, y_assign_nf]))
theorem c91 {n : Int} {dst : Option Tmp} {σ : S} {K : S → Prop} (hK : S.ret σ dst [.a (.d (.fn 119 [.pt [dI n]]))] K) : callV Tryz.prog GL 94 [.a (I n)] dst σ K :=
 call_dat (t91 n) hK
def pairsX (n : Nat) : List (List A) := (List.range (n * n)).map fun j => [I (j / n : Nat), I (j % n : Nat)]
theorem pairsX_at {n i k : Nat} (hi : i < n) (hk : k < n) : (pairsX n)[i * n + k]? = some [I (i : Nat), I (k : Nat)] := by
 have h1 : i * n + k < n * n := by
  have : (i + 1) * n ≤ n * n := Nat.mul_le_mul_right n hi
  rw [Nat.add_mul, Nat.one_mul] at this; omega
 have h2 : (i * n + k) / n = i := by rw [Nat.mul_comm, Nat.mul_add_div (by omega), Nat.div_eq_of_lt hk, Nat.add_zero]
 have h3 : (i * n + k) % n = k := by rw [Nat.mul_comm, Nat.mul_add_mod, Nat.mod_eq_of_lt hk]
 rw [pairsX, List.getElem?_map, List.getElem?_range h1, Option.map_some, h2, h3]
structure PairI (L : Nat) (T : Array Value) (n : Nat) (Inv : Nat → S → Prop) (i : Nat) (τ : S) : Prop where
 le : i ≤ n
 r0 : τ.regs 0 = yR L
 r1 : τ.regs 1 = .a (.d (.pt [dI n]))
 r5 : τ.regs 5 = .a (I n)
 r6 : τ.regs 6 = .a (I i)
 fv : fvOf (τ.mem 999999) = some T.toList
 inv : Inv (i * n) τ.leave
structure PairJ (L : Nat) (T : Array Value) (n : Nat) (Inv : Nat → S → Prop) (i k : Nat) (τ : S) : Prop where
 le : k ≤ n
 r0 : τ.regs 0 = yR L
 r1 : τ.regs 1 = .a (.d (.pt [dI n]))
 r3 : τ.regs 3 = .a (I i)
 r5 : τ.regs 5 = .a (I n)
 r6 : τ.regs 6 = .a (I i)
 r9 : τ.regs 9 = .a (I n)
 r10 : τ.regs 10 = .a (I k)
 fv : fvOf (τ.mem 999999) = some T.toList
 inv : Inv (i * n + k) τ.leave
theorem iter117 (n : Nat) (hn : n ≤ 1000) : IterV Tryz.prog GL 119 [.pt [dI n]] (pairsX n) := by
 refine iter_body (by kernel_rfl) Tryz.func119 rfl rfl (by kernel_rfl) (by kernel_rfl) (by kernel_rfl) fun L T σ Inv Done hI hD hY h0 => ?_
 (refine rO ?_; repeat' ((with_reducible first | refine rG ?_ | (refine rS ?_ ?_ <;> intro hp) | (refine rB ?_ ?_ <;> intro hb <;> try rw [hb]) | refine rD ?_ | refine rA ?_ | fail) <;> try simp only [go_sem, simprocAttr, PI, PY, List.map_cons, List.map_nil]))
 refine awp_loopG (PairI L T n Inv) (n - ·) 0 ⟨_, Ghost.refl _, Nat.zero_le _, ?_, ?_, ?_, ?_, ?_, ?_⟩ ?_
 iterate 5 (· simp only [go_sem, simprocAttr, PI, PY, List.map_cons, List.map_nil]; try rfl)
 ·simp only [go_sem, simprocAttr, PI, PY, Nat.zero_mul]; exact h0
 intro i τ hJ
 obtain ⟨hi, r0, r1, r5, r6, fv, inv⟩ := hJ
 (refine rO ?_; repeat' ((with_reducible first | refine rG ?_ | (refine rS ?_ ?_ <;> intro hp) | (refine rB ?_ ?_ <;> intro hb <;> try rw [hb]) | refine rD ?_ | refine rA ?_ | fail) <;> try simp only [go_sem, simprocAttr, PI, PY, r0, r1, r5, r6]))
 ·have hil : i < n := by omega
  have hw := wrap_succ (n := n) hil (by simp only [maxLen]; omega)
  refine awp_loopG (PairJ L T n Inv i) (n - ·) 0 ⟨_, Ghost.refl _, Nat.zero_le _, ?_, ?_, ?_, ?_, ?_, ?_, ?_, ?_, ?_⟩ ?_
  iterate 9 (· simp only [go_sem, simprocAttr, PI, PY, r0, r1, r5, r6, fv, Nat.add_zero]; try exact inv)
  intro k τ2 hJ2
  obtain ⟨hk, r0, r1, r3, r5, r6, r9, r10, fv, inv⟩ := hJ2
  (refine rO ?_; repeat' ((with_reducible first | refine rG ?_ | (refine rS ?_ ?_ <;> intro hp) | (refine rB ?_ ?_ <;> intro hb <;> try rw [hb]) | refine rD ?_ | refine rA ?_ | fail) <;> try simp only [go_sem, simprocAttr, PI, PY, r0, r1, r3, r5, r6, r9, r10]))
  ·have hkl : k < n := by omega
   have hwk := wrap_succ (n := n) hkl (by simp only [maxLen]; omega)
   refine yield_sem (L := L) (T := T) (x := [I i, I k]) (A' := Inv (i * n + k + 1)) (B' := Done) (by simp only [go_sem, simprocAttr, PI, PY, r0]) (by simp only [go_sem, simprocAttr, PI, PY, r0, r3, r10]; rfl) (by simp only [go_sem, simprocAttr, PI, PY, fv]) (by simp only [PY]; exact hY _ _ _ (pairsX_at hil hkl) inv) (fun σ' hA => ?_) (fun σ' hB => ?_)
   ·(refine rO ?_; repeat' ((with_reducible first | refine rG ?_ | (refine rS ?_ ?_ <;> intro hp) | (refine rB ?_ ?_ <;> intro hb <;> try rw [hb]) | refine rD ?_ | refine rA ?_ | fail) <;> try simp only [go_sem, simprocAttr, PI, PY, r0, r1, r3, r5, r6, r9, r10]))
    refine ⟨_, k + 1, Ghost.refl _, ⟨hkl, ?_, ?_, ?_, ?_, ?_, ?_, ?_, ?_, ?_⟩, by omega⟩
    iterate 8 (· simp only [go_sem, simprocAttr, PI, PY, r0, r1, r3, r5, r6, r9, r10, hwk])
    ·simp only [go_sem, simprocAttr, PI, PY]; exact hI _ _ hA
   ·(refine rO ?_; repeat' ((with_reducible first | refine rG ?_ | (refine rS ?_ ?_ <;> intro hp) | (refine rB ?_ ?_ <;> intro hb <;> try rw [hb]) | refine rD ?_ | refine rA ?_ | fail) <;> try simp only [go_sem, simprocAttr, PI, PY, r0, r1, r3, r5, r6, r9, r10]))
    refine iter_end (.inr rfl) (by simp only [go_sem, simprocAttr, PI, PY]) (.inr ?_)
    simp only [PY]; exact hD _ hB
  ·(refine rO ?_; repeat' ((with_reducible first | refine rG ?_ | (refine rS ?_ ?_ <;> intro hp) | (refine rB ?_ ?_ <;> intro hb <;> try rw [hb]) | refine rD ?_ | refine rA ?_ | fail) <;> try simp only [go_sem, simprocAttr, PI, PY, r0, r1, r3, r5, r6]))
   refine ⟨_, i + 1, Ghost.refl _, ⟨hil, ?_, ?_, ?_, ?_, ?_, ?_⟩, by omega⟩
   iterate 5 (· simp only [go_sem, simprocAttr, PI, PY, r0, r1, r3, r5, r6, hw, fv])
   ·simp only [go_sem, simprocAttr, PI, PY]
    rw [show (i + 1) * n = i * n + k by rw [Nat.add_mul, Nat.one_mul]; omega]; exact inv
 ·refine iter_end (.inl rfl) (by simp only [go_sem, simprocAttr, PI, PY, fv]) (.inl ?_)
  simp only [PY]
  have : (pairsX n).length = i * n := by rw [show i = n by omega]; simp [pairsX]
  rw [this]; exact inv
def uenc (n : Nat) : List D := [.v (.int .u32 n)]
theorem uenc_eq (n : Nat) : uenc n = [.v (.int .u32 n)] := rfl
abbrev unsA (l : List Nat) : A := .d (.sl (l.map uenc))
abbrev U (n : Nat) : A := .d (.v (.int .u32 n))
def bitsN (p : Nat → Bool) : Nat → Nat
 | 0 => 0
 | m + 1 => bitsN p m + if p m then 2 ^ m else 0
theorem bitsN_lt (p : Nat → Bool) : ∀ m, bitsN p m < 2 ^ m
 | 0 => by simp [bitsN]
 | m + 1 => by
  have := bitsN_lt p m
  simp only [bitsN, Nat.pow_succ]
  split <;> omega
theorem bitsN_or (p : Nat → Bool) (m : Nat) : bitsN p m ||| 2 ^ m = bitsN p m + 2 ^ m := by
 have := Nat.two_pow_add_eq_or_of_lt (bitsN_lt p m) 1
 rw [Nat.mul_one] at this
 rw [Nat.or_comm, ← this, Nat.add_comm]
theorem bitsN_test (p : Nat → Bool) (k : Nat) : ∀ m, (bitsN p m).testBit k = (decide (k < m) && p k)
 | 0 => by simp [bitsN]
 | m + 1 => by
  have h := bitsN_lt p m
  have ih := bitsN_test p k m
  simp only [bitsN]
  cases hp : p m with
  | false =>
   simp only [Bool.false_eq_true, if_false, Nat.add_zero, ih]
   by_cases hk : k = m
   ·subst hk; simp [hp]
   ·have : (k < m + 1) = (k < m) := by apply propext; omega
    simp [this]
  | true =>
   simp only [if_true]
   rw [← bitsN_or, Nat.testBit_or, ih, Nat.testBit_two_pow]
   by_cases hk : k = m
   ·subst hk; simp [hp]
   ·have h1 : (k < m + 1) = (k < m) := by apply propext; omega
    have h2 : ¬ m = k := fun e => hk e.symm
    simp [h1, h2]
theorem u32_or {a b : Nat} (ha : a < 2 ^ 32) (hb : b < 2 ^ 32) : orK .u32 a b = ((a ||| b : Nat) : Int) := by
 show IntKind.u32.wrap (BitVec.ofInt 32 (a : Int) ||| BitVec.ofInt 32 (b : Int)).toNat = _
 have hab : a ||| b < 2 ^ 32 := Nat.or_lt_two_pow ha hb
 have e : (BitVec.ofInt 32 (a : Int) ||| BitVec.ofInt 32 (b : Int)).toNat = a ||| b := by
  have h1 : ∀ c : Nat, c < 2 ^ 32 → (BitVec.ofInt 32 (c : Int)).toNat = c := fun c hc => by
   have : (BitVec.ofInt 32 (c : Int)).toNat = c := by
    rw [BitVec.toNat_ofInt]; omega
   exact this
  rw [BitVec.toNat_or, h1 a ha, h1 b hb]
 rw [e]
 exact u32_in _ (by omega)
theorem u32_shl {k : Nat} (hk : k < 32) : IntKind.u32.wrap ((1 : Int) * 2 ^ (min k 32)) = ((2 ^ k : Nat) : Int) := by
 have h1 : min k 32 = k := by omega
 have h2 : (2 : Nat) ^ k ≤ 2 ^ 31 := Nat.pow_le_pow_right (by omega) (by omega)
 have h3 : (1 : Int) * 2 ^ k = ((2 ^ k : Nat) : Int) := by rw [Int.one_mul, Int.natCast_pow]; rfl
 rw [h1, h3]
 generalize 2 ^ k = q at h2 ⊢
 exact u32_in _ (by omega)
def beforeB (l : List Txn) (i k : Nat) : Bool := match l[i]?, l[k]? with
 | some a, some b => decide (2 ≤ a.st) && decide (a.last < b.first)
 | _, _ => false
def afterR (l : List Txn) : List Nat := (List.range l.length).map fun i => bitsN (beforeB l i) l.length
def rowsAt (l : List Txn) (j : Nat) : List Nat := (List.range l.length).map fun r => bitsN (beforeB l r) (min l.length (j - r * l.length))
theorem rowsAt_0 (l : List Txn) : rowsAt l 0 = List.replicate l.length 0 := by
 refine List.ext_getElem? fun i => ?_
 simp only [rowsAt, List.getElem?_map, List.getElem?_replicate, Nat.zero_sub, Nat.min_zero]
 by_cases hi : i < l.length
 ·rw [List.getElem?_range hi, if_pos hi]; rfl
 ·rw [List.getElem?_eq_none (by simpa using hi), if_neg hi]; rfl
theorem rowsAt_n (l : List Txn) : rowsAt l (l.length * l.length) = afterR l := by
 unfold rowsAt afterR
 refine List.map_congr_left fun r hr => ?_
 have hr := List.mem_range.1 hr
 have : l.length ≤ l.length * l.length - r * l.length := by
  have h1 : (r + 1) * l.length ≤ l.length * l.length := Nat.mul_le_mul_right _ hr
  rw [Nat.add_mul, Nat.one_mul] at h1; omega
 rw [Nat.min_eq_left this]
theorem rowsAt_len (l : List Txn) (j : Nat) : (rowsAt l j).length = l.length := by simp [rowsAt]
theorem rowsAt_at {l : List Txn} {i k : Nat} (hi : i < l.length) (hk : k < l.length) : (rowsAt l (i * l.length + k))[i]? = some (bitsN (beforeB l i) k) := by
 rw [rowsAt, List.getElem?_map, List.getElem?_range hi, Option.map_some]
 congr 2; omega
theorem rowsAt_s {l : List Txn} {i k : Nat} (hi : i < l.length) (hk : k < l.length) : rowsAt l (i * l.length + k + 1) = (rowsAt l (i * l.length + k)).set i (bitsN (beforeB l i) (k + 1)) := by
 refine List.ext_getElem? fun r => ?_
 rw [List.getElem?_set, rowsAt_len]
 by_cases hr : r < l.length
 ·simp only [rowsAt, List.getElem?_map, List.getElem?_range hr, Option.map_some]
  by_cases e : i = r
  ·subst e; rw [if_pos rfl, if_pos hi]; congr 2; omega
  ·rw [if_neg e]
   congr 2
   rcases Nat.lt_or_gt_of_ne e with h | h
   ·have : (i + 1) * l.length ≤ r * l.length := Nat.mul_le_mul_right _ h
    rw [Nat.add_mul, Nat.one_mul] at this; omega
   ·have : (r + 1) * l.length ≤ i * l.length := Nat.mul_le_mul_right _ h
    rw [Nat.add_mul, Nat.one_mul] at this; omega
 ·rw [List.getElem?_eq_none (by rw [rowsAt_len]; omega)]
  split
  ·omega
  ·rw [List.getElem?_eq_none (by rw [rowsAt_len]; omega)]
structure AftI (l : List Txn) (j : Nat) (σ : S) : Prop where
 r1 : σ.regs 1 = .ref 1 0
 r3 : σ.regs 3 = .ref 3 0
 m1 : σ.mem 1 = some (.box [.a (txnsA l)])
 m3 : σ.mem 3 = some (.box [.own 8])
 m8 : σ.mem 8 = some (.log 34 1 ((rowsAt l j).map uenc))
theorem pairsX_inv {n j : Nat} {x : List A} (h : (pairsX n)[j]? = some x) : ∃ i k, i < n ∧ k < n ∧ j = i * n + k ∧ x = [I (i : Nat), I (k : Nat)] := by
  unfold pairsX at h
  rw [List.getElem?_map] at h
  obtain ⟨j', hj, rfl⟩ := Option.map_eq_some_iff.1 h
  have hlt := (List.getElem?_eq_some_iff.1 hj).1
  rw [List.getElem?_range (by simpa using hlt)] at hj
  cases hj
  simp only [List.length_range] at hlt
  have hn : 0 < n := by rcases Nat.eq_zero_or_pos n with h | h; · subst h; simp at hlt
                        · exact h
  refine ⟨j / n, j % n, Nat.div_lt_of_lt_mul hlt, Nat.mod_lt _ hn, ?_, rfl⟩
  have := Nat.div_add_mod j n
  rw [Nat.mul_comm]; omega
theorem t57 (l : List Txn) (hl : l.length ≤ 30) : Holds Tryz.prog GL 60 [txnsA l] [.a (unsA (afterR l))] := by
 refine fn_holds (vs := [.tmp 2]) (by kernel_rfl) Tryz.func60 rfl rfl (by kernel_rfl) (by kernel_rfl) rfl ?_
 (refine rO ?_; repeat' ((with_reducible first | refine rG ?_ | (refine rS ?_ ?_ <;> intro hp) | (refine rB ?_ ?_ <;> intro hb <;> try rw [hb]) | refine rD ?_ | refine rA ?_ | fail) <;> try simp only [go_sem, simprocAttr, List.length_map]))
 refine sem_make (e := 34) (ti := ⟨1, 4, false, [.int .u32 0]⟩) (z0 := .int .u32 0) (n := l.length) (by kernel_rfl) (by kernel_rfl) rfl rfl rfl (by simp only [go_sem, simprocAttr]) (by simp only [go_sem, simprocAttr]) (by omega) (by decide) ?_
 (refine rO ?_; repeat' ((with_reducible first | refine rG ?_ | (refine rS ?_ ?_ <;> intro hp) | (refine rB ?_ ?_ <;> intro hb <;> try rw [hb]) | refine rD ?_ | apply c91 | refine rA ?_ | fail) <;> try simp only [go_sem, simprocAttr, List.length_map]))
 refine range_sem (AftI l) (fun _ _ => False) (by simp only [go_sem, simprocAttr]) (iter117 l.length (by omega)) (fun x hx => ?_) (by kernel_rfl) (by kernel_rfl) (fun j τ h => ?_) (fun _ _ h => h) (fun L r => ?_) (fun L T r j x τ hr hx hI hrec => ?_) (fun τ hI => ?_) (fun _ _ h => h.elim)
 ·obtain ⟨j, hj⟩ := List.getElem?_of_mem hx
  obtain ⟨i, k, _, _, _, rfl⟩ := pairsX_inv hj; rfl
 ·obtain ⟨r1, r3, m1, m3, m8⟩ := h
  exact ⟨by simp only [go_sem, simprocAttr, PI, ud_r, r1], by simp only [go_sem, simprocAttr, PI, ud_r, r3], by rw [ud_m rfl, m1]; simp only [go_sem, simprocAttr, PI], by rw [ud_m rfl, m3]; simp only [go_sem, simprocAttr, PI], by rw [ud_m rfl, m8]; simp only [go_sem, simprocAttr, PI]⟩
 ·refine ⟨by simp only [go_sem, simprocAttr], by simp only [go_sem, simprocAttr], by simp only [go_sem, simprocAttr], by simp only [go_sem, simprocAttr], ?_⟩
  simp only [go_sem, simprocAttr, rowsAt_0]
  simp [uenc]
 ·obtain ⟨i, k, hi, hk, rfl, rfl⟩ := pairsX_inv hx
  obtain ⟨r1, r3, m1, m3, m8⟩ := hI
  have ha : l[i]? = some l[i] := List.getElem?_eq_getElem hi
  have hb : l[k]? = some l[k] := List.getElem?_eq_getElem hk
  have hbe : beforeB l i k = (decide (2 ≤ l[i].st) && decide (l[i].last < l[k].first)) := by simp only [beforeB, ha, hb]
  have hra := rowsAt_at hi hk
  have hrs := rowsAt_s hi hk
  have hrl := rowsAt_len l (i * l.length + k)
  have hsame : beforeB l i k = false → rowsAt l (i * l.length + k + 1) = rowsAt l (i * l.length + k) := fun h => by
   rw [hrs, bitsN, h]
   refine List.ext_getElem? fun q => ?_
   rw [List.getElem?_set]
   split
   ·rename_i e; subst e; rw [if_pos (by omega), hra]; simp
   ·rfl
  generalize l[i] = a at ha hbe
  generalize l[k] = b at hb hbe
  have hlt1 := bitsN_lt (beforeB l i) k
  have hk32 : k < 32 := by omega
  have hlt2 : bitsN (beforeB l i) k < 2 ^ 32 := Nat.lt_of_lt_of_le hlt1 (Nat.pow_le_pow_right (by omega) (by omega))
  have hlt3 : 2 ^ k < 2 ^ 32 := Nat.pow_lt_pow_right (by omega) hk32
  (refine rO ?_; repeat' ((with_reducible first | refine rG ?_ | (refine rS ?_ ?_ <;> intro hp) | (refine rB ?_ ?_ <;> intro hb <;> try rw [hb]) | refine rD ?_ | refine rA ?_ | fail) <;> try simp only [go_sem, simprocAttr, PF, r1, r3, m1, m3, m8, hrec, ha, hb, Txn.enc_eq]))
  ·have hbt : beforeB l i k = true := by rw [hbe, decide_eq_true (show 2 ≤ a.st by omega), decide_eq_true ‹a.last < b.first›]; rfl
   have hor : bitsN (beforeB l i) k ||| 2 ^ k = bitsN (beforeB l i) (k + 1) := by rw [bitsN_or, bitsN, hbt]; rfl
   (refine rO ?_; repeat' ((with_reducible first | refine rG ?_ | (refine rS ?_ ?_ <;> intro hp) | (refine rB ?_ ?_ <;> intro hb <;> try rw [hb]) | refine rD ?_ | refine rA ?_ | fail) <;> try simp only [go_sem, simprocAttr, PF, r1, r3, m1, m3, m8, hrec, hra, uenc_eq, u32_shl hk32, u32_or hlt2 hlt3, hor]))
   have hy : ((rowsAt l (i * l.length + k)).map uenc)[i]? = some (uenc (bitsN (beforeB l i) k)) := by rw [List.getElem?_map, hra]; rfl
   rw [st_eref_one (sz := 1) (j := 0) (ti := ⟨1, 4, false, [.int .u32 0]⟩) (e := 34) (xs := (rowsAt l (i * l.length + k)).map uenc) (by kernel_rfl) (by simp only [go_sem, simprocAttr, PF, m8]) hy rfl (by omega) rfl]
   (refine rO ?_; repeat' ((with_reducible first | refine rG ?_ | (refine rS ?_ ?_ <;> intro hp) | (refine rB ?_ ?_ <;> intro hb <;> try rw [hb]) | refine rD ?_ | refine rA ?_ | fail) <;> try simp only [go_sem, simprocAttr, PF, r1, r3, m1, m3, m8, hrec]))
   refine ⟨by simp only [go_sem, simprocAttr, PF, r1], by simp only [go_sem, simprocAttr, PF, r3], by simp only [go_sem, simprocAttr, PF, m1], by simp only [go_sem, simprocAttr, PF, m3], ?_⟩
   simp only [go_sem, simprocAttr, PF, hrs, List.map_set]; rfl
  ·have hbf := hsame (by rw [hbe, decide_eq_false ‹¬ a.last < b.first›, Bool.and_false])
   exact ⟨by simp only [go_sem, simprocAttr, PF, r1], by simp only [go_sem, simprocAttr, PF, r3], by simp only [go_sem, simprocAttr, PF, m1], by simp only [go_sem, simprocAttr, PF, m3], by simp only [go_sem, simprocAttr, PF, m8, hbf]⟩
  ·have hbf := hsame (by rw [hbe, decide_eq_false (show ¬ 2 ≤ a.st by omega), Bool.false_and])
   exact ⟨by simp only [go_sem, simprocAttr, PF, r1], by simp only [go_sem, simprocAttr, PF, r3], by simp only [go_sem, simprocAttr, PF, m1], by simp only [go_sem, simprocAttr, PF, m3], by simp only [go_sem, simprocAttr, PF, m8, hbf]⟩
 ·obtain ⟨r1, r3, m1, m3, m8⟩ := hI
  have hpl : (pairsX l.length).length = l.length * l.length := by simp [pairsX]
  rw [hpl, rowsAt_n] at m8
  (refine rO ?_; repeat' ((with_reducible first | refine rG ?_ | (refine rS ?_ ?_ <;> intro hp) | (refine rB ?_ ?_ <;> intro hb <;> try rw [hb]) | refine rD ?_ | refine rA ?_ | fail) <;> try simp only [go_sem, simprocAttr, PF, r1, r3, m1, m3, m8]))
theorem tabD_txns (h : List Ev) : (.d (.sl (tabD h)) : A) = txnsA (txns h) := by
 unfold tabD txns
 split
 ·rw [txnsA, List.map_map]; rfl
 ·rfl
theorem c56 {h : List Ev} {dst : Option Tmp} {σ : S} {K : S → Prop} (hK : S.ret σ dst [.a (txnsA (txns h)), .a (I (checkE h))] K) : callV Tryz.prog GL 49 [.a (evsA h)] dst σ K := call_dat (t56 h) (by rw [tabD_txns]; exact hK)
def aftersV (h : List Ev) : List Nat := if checkE h = 0 then afterR (txns h) else []
theorem txns_len6 (h : List Ev) : (txns h).length ≤ 6 := by
 unfold txns
 split
 ·rename_i h0
  have T := tabT (check_wfl h0) h.length (Nat.le_refl _)
  have hn := T.names
  rw [List.take_length] at hn
  have : ((tabAt h h.length).map Kp.name).length = (namesE h).length := by rw [hn]
  rw [List.length_map] at this
  have hr : rightH h = true := by
   cases hr : rightH h with
   | true => rfl
   | false => rw [check_arg.2 hr] at h0; cases h0
  simp only [rightH, Bool.and_eq_true, decide_eq_true_eq] at hr
  rw [List.length_map]
  show (tabAt h h.length).length ≤ 6
  omega
 ·simp
theorem t15 (h : List Ev) : Holds Tryz.prog GL 32 [evsA h] [.a (unsA (aftersV h)), .a (I (checkE h))] := by
 refine fn_holds (vs := [.tmp 2, .tmp 3]) (by kernel_rfl) Tryz.func32 rfl rfl (by kernel_rfl) (by kernel_rfl) rfl ?_
 (refine rO ?_; repeat' ((with_reducible first | refine rG ?_ | (refine rS ?_ ?_ <;> intro hp) | (refine rB ?_ ?_ <;> intro hb <;> try rw [hb]) | refine rD ?_ | apply c56 | refine rA ?_ | fail) <;> try simp only [go_sem, simprocAttr]))
 ·have h0 : checkE h = 0 := ‹_›
  refine call_dat (t57 (txns h) (by have := txns_len6 h; omega)) ?_
  (refine rO ?_; repeat' ((with_reducible first | refine rG ?_ | (refine rS ?_ ?_ <;> intro hp) | (refine rB ?_ ?_ <;> intro hb <;> try rw [hb]) | refine rD ?_ | refine rA ?_ | fail) <;> try simp only [go_sem, simprocAttr]))
  simp [aftersV, h0]
 ·have h0 : ¬ checkE h = 0 := ‹_›
  simp [aftersV, h0]
theorem c15 {h : List Ev} {dst : Option Tmp} {σ : S} {K : S → Prop} (hK : S.ret σ dst [.a (unsA (aftersV h)), .a (I (checkE h))] K) : callV Tryz.prog GL 32 [.a (evsA h)] dst σ K :=
 call_dat (t15 h) hK
end Go.VC
end
section
set_option maxRecDepth 100000
namespace Go.VC
open Go.RowKit Go.Proofs Go.IntWalk
theorem u32_and {a b : Nat} (ha : a < 2 ^ 32) (hb : b < 2 ^ 32) : andK .u32 a b = ((a &&& b : Nat) : Int) := by
 show IntKind.u32.wrap (BitVec.ofInt 32 (a : Int) &&& BitVec.ofInt 32 (b : Int)).toNat = _
 have hab : a &&& b < 2 ^ 32 := Nat.lt_of_le_of_lt Nat.and_le_left ha
 have e : (BitVec.ofInt 32 (a : Int) &&& BitVec.ofInt 32 (b : Int)).toNat = a &&& b := by
  have h1 : ∀ c : Nat, c < 2 ^ 32 → (BitVec.ofInt 32 (c : Int)).toNat = c := fun c hc => by
   have : (BitVec.ofInt 32 (c : Int)).toNat = c := by
    rw [BitVec.toNat_ofInt]; omega
   exact this
  rw [BitVec.toNat_and, h1 a ha, h1 b hb]
 rw [e]
 exact u32_in _ (by omega)
theorem u32_shr {b k : Nat} (hk : k < 32) : ((b : Int)).fdiv (2 ^ (min k 32)) = ((b / 2 ^ k : Nat) : Int) := by
 have h1 : min k 32 = k := by omega
 rw [h1, Int.fdiv_eq_ediv_of_nonneg _ (Int.le_of_lt (Int.pow_pos (by decide)))]
 rw [Int.natCast_ediv, Int.natCast_pow]; rfl
theorem u32_bit {b k : Nat} (hb : b < 2 ^ 32) : andK .u32 ((b / 2 ^ k : Nat) : Int) 1 = if b.testBit k then 1 else 0 := by
 have h1 : b / 2 ^ k < 2 ^ 32 := Nat.lt_of_le_of_lt (Nat.div_le_self _ _) hb
 have := u32_and h1 (show 1 < 2 ^ 32 by decide)
 rw [show ((1 : Nat) : Int) = 1 from rfl] at this
 rw [this, Nat.and_one_is_mod, Nat.testBit_eq_decide_div_mod_eq]
 by_cases h : b / 2 ^ k % 2 = 1
 ·simp [h]
 ·have : b / 2 ^ k % 2 = 0 := by omega
  simp [this]
def inT (n : Nat) (i : Int) : Bool := decide (0 ≤ i) && decide (i < n)
theorem inT_iff {n : Nat} {i : Int} : inT n i = true ↔ ∃ k : Nat, i = k ∧ k < n := by
 simp only [inT, Bool.and_eq_true, decide_eq_true_eq]
 constructor
 ·intro ⟨a, b⟩; exact ⟨i.toNat, by omega, by omega⟩
 ·rintro ⟨k, rfl, h⟩; omega
theorem inT_nat {n k : Nat} : inT n (k : Int) = decide (k < n) := by
 simp [inT]
theorem afterR_len (l : List Txn) : (afterR l).length = l.length := by simp [afterR]
theorem afterR_at {l : List Txn} {i : Nat} (hi : i < l.length) : (afterR l)[i]? = some (bitsN (beforeB l i) l.length) := by
 rw [afterR, List.getElem?_map, List.getElem?_range hi]; rfl
theorem bits32 (p : Nat → Bool) {n : Nat} (hn : n ≤ 30) : bitsN p n < 2 ^ 32 := Nat.lt_of_lt_of_le (bitsN_lt _ _) (Nat.pow_le_pow_right (by omega) (by omega))
theorem t92 (r : List Int) (f : FuncId) (c : D) (p : Int → Bool) (hf : ∀ e ∈ r, Holds Tryz.prog GL f [I e, .d c] [.a (B (p e))]) : Holds Tryz.prog GL 135 [intsA r, .d (.fn f [c])] [.a (I (idxOf p r))] := by
 refine fn_holds_is (vs := [.tmp 4]) (by kernel_rfl) Tryz.func135 rfl rfl (by kernel_rfl) (by kernel_rfl) rfl fun his => ?_
 have hlen := his.1.len
 rw [List.length_map] at hlen
 simp only [go_sem, simprocAttr, List.length_map]
 refine awp_loopA (fun k : Nat => [(0, .a (intsA r)), (1, .a (.d (.fn f [c]))), (7, .a (I r.length)), (8, .a (I k))]) (fun _ => []) (fun k => k ≤ r.length ∧ noneTo p r k) (r.length - ·) 0 ?_ ?_ ⟨Nat.zero_le _, noneTo_0⟩ ?_
 ·simp only [go_sem, simprocAttr]
 ·simp only [go_sem, simprocAttr]
 intro k j ⟨hk, hl⟩
 (refine rO ?_; repeat' ((with_reducible first | refine rG ?_ | (refine rS ?_ ?_ <;> intro hp) | (refine rB ?_ ?_ <;> intro hb <;> try rw [hb]) | refine rD ?_ | refine rA ?_ | fail) <;> try simp only [go_sem, simprocAttr]))
 ·have hkl : k < r.length := by omega
  have hx : r[k]? = some r[k] := List.getElem?_eq_getElem hkl
  have hw := wrap_succ hkl hlen
  (refine rO ?_; repeat' ((with_reducible first | refine rG ?_ | (refine rS ?_ ?_ <;> intro hp) | (refine rB ?_ ?_ <;> intro hb <;> try rw [hb]) | refine rD ?_ | refine rA ?_ | fail) <;> try simp only [go_sem, simprocAttr, hx, ienc_eq, hw]))
  refine call_dat (hf r[k] (List.getElem_mem hkl)) ?_
  (refine rO ?_; repeat' ((with_reducible first | refine rG ?_ | (refine rS ?_ ?_ <;> intro hp) | (refine rB ?_ ?_ <;> intro hb <;> try rw [hb]) | refine rD ?_ | refine rA ?_ | fail) <;> try simp only [go_sem, simprocAttr, hx, ienc_eq, hw]))
  ·exact (idx_hit hkl hl hb).symm
  ·(refine ⟨k + 1, ?_, ?_, ⟨hkl, noneTo_s hkl hl hb⟩, by dsimp only; omega⟩ <;> simp only [go_sem, simprocAttr])
 ·exact (idx_none (by omega) hl).symm
theorem t58 (r : List Int) (f : FuncId) (c : D) (p : Int → Bool) (hf : ∀ e ∈ r, Holds Tryz.prog GL f [I e, .d c] [.a (B (p e))]) : Holds Tryz.prog GL 113 [intsA r, .d (.fn f [c])] [.a (B (r.any p))] := by
 refine fn_holds (vs := [.tmp 4]) (by kernel_rfl) Tryz.func113 rfl rfl (by kernel_rfl) (by kernel_rfl) rfl ?_
 rw [← idx_ge]
 (refine rO ?_; repeat' ((with_reducible first | refine rG ?_ | (refine rS ?_ ?_ <;> intro hp) | (refine rB ?_ ?_ <;> intro hb <;> try rw [hb]) | refine rD ?_ | refine rA ?_ | fail) <;> try simp only [go_sem, simprocAttr]))
 refine call_dat (t92 r f c p hf) ?_
 (refine rO ?_; repeat' ((with_reducible first | refine rG ?_ | (refine rS ?_ ?_ <;> intro hp) | (refine rB ?_ ?_ <;> intro hb <;> try rw [hb]) | refine rD ?_ | refine rA ?_ | fail) <;> try simp only [go_sem, simprocAttr]))
 all_goals simp_all
def okAt (l : List Txn) (r : List Int) (i : Nat) : Bool := match r[i]? with
 | some x => (r.take i).all fun y => !(x == y || beforeB l x.toNat y.toNat)
 | none => true
def keepsFrom (l : List Txn) (r : List Int) (k : Nat) : Bool := ((List.range r.length).drop k).all (okAt l r)
theorem range_dropO {n k : Nat} (h : k < n) : (List.range n).drop k = k :: (List.range n).drop (k + 1) := by
 rw [List.drop_eq_getElem_cons (by simpa using h)]; simp
theorem keeps_s {l : List Txn} {r : List Int} {k : Nat} (hk : k < r.length) : keepsFrom l r k = (okAt l r k && keepsFrom l r (k + 1)) := by
 simp only [keepsFrom, range_dropO hk, List.all_cons]
theorem keeps_n {l : List Txn} {r : List Int} {k : Nat} (hk : r.length ≤ k) : keepsFrom l r k = true := by
 rw [keepsFrom, List.drop_eq_nil_of_le (by simpa using hk)]; rfl
end Go.VC
end
section
set_option maxRecDepth 100000
namespace Go.VC
open Go.RowKit Go.Proofs Go.IntWalk
def StT (l : List Txn) : Prop := ∀ t ∈ l, t.st ≤ 3
theorem t24 (l : List Txn) (hs : StT l) (i k : Nat) (hi : i < l.length) (hk : k < l.length) : Holds Tryz.prog GL 68 [txnsA l, I i, I k] [.a (B (beforeB l i k))] := by
 refine fn_holds (vs := [.tmp 6]) (by kernel_rfl) Tryz.func68 rfl rfl (by kernel_rfl) (by kernel_rfl) rfl ?_
 have hx : l[i]? = some l[i] := List.getElem?_eq_getElem hi
 have hy : l[k]? = some l[k] := List.getElem?_eq_getElem hk
 have h3 := hs _ (List.getElem_mem hi)
 have hb : beforeB l i k = (decide (2 ≤ l[i].st) && decide (l[i].last < l[k].first)) := by simp only [beforeB, hx, hy]
 rw [hb]
 generalize l[i] = a at *
 generalize l[k] = b at *
 (refine rO ?_; repeat' ((with_reducible first | refine rG ?_ | (refine rS ?_ ?_ <;> intro hp) | (refine rB ?_ ?_ <;> intro hb <;> try rw [hb]) | refine rD ?_ | refine rA ?_ | fail) <;> try simp only [go_sem, simprocAttr, hx, hy, Txn.enc_eq, List.length_map, txns_len]))
 all_goals first
  | (rw [decide_eq_true (show 2 ≤ a.st by omega), decide_eq_true (show a.last < b.first by omega)]; rfl)
  | (rw [decide_eq_false (show ¬ a.last < b.first by omega), Bool.and_false])
  | (rw [decide_eq_false (show ¬ 2 ≤ a.st by omega), Bool.false_and])
theorem c24 {l : List Txn} (hs : StT l) {i k : Nat} (hi : i < l.length) (hk : k < l.length) {dst : Option Tmp} {σ : S} {K : S → Prop} (hK : S.ret σ dst [.a (B (beforeB l i k))] K) : callV Tryz.prog GL 68 [.a (txnsA l), .a (I i), .a (I k)] dst σ K := call_dat (t24 l hs i k hi hk) hK
theorem t25 (l : List Txn) (hs : StT l) (r : List Int) (hrl : r.length ≤ 1000000) (hr : r.all (inT l.length) = true) : Holds Tryz.prog GL 70 [txnsA l, intsA r] [.a (B (keepsFrom l r 0))] := by
 refine fn_holds (vs := [.tmp 4]) (by kernel_rfl) Tryz.func70 rfl rfl (by kernel_rfl) (by kernel_rfl) rfl ?_
 (refine rO ?_; repeat' ((with_reducible first | refine rG ?_ | (refine rS ?_ ?_ <;> intro hp) | (refine rB ?_ ?_ <;> intro hb <;> try rw [hb]) | refine rD ?_ | refine rA ?_ | fail) <;> try simp only [go_sem, simprocAttr, List.length_map]))
 refine awp_loopA (fun k : Nat => [(0, .a (txnsA l)), (1, .a (intsA r)), (9, .a (intsA r)), (10, .a (I r.length)), (11, .a (I k))]) (fun _ => []) (fun k => k ≤ r.length ∧ keepsFrom l r 0 = keepsFrom l r k) (r.length - ·) 0 ?_ ?_ ⟨Nat.zero_le _, rfl⟩ ?_
 ·simp only [go_sem, simprocAttr, List.length_map]
 ·simp only [go_sem, simprocAttr]
 intro k j ⟨hk, hq⟩
 (refine rO ?_; repeat' ((with_reducible first | refine rG ?_ | (refine rS ?_ ?_ <;> intro hp) | (refine rB ?_ ?_ <;> intro hb <;> try rw [hb]) | refine rD ?_ | refine rA ?_ | fail) <;> try simp only [go_sem, simprocAttr]))
 ·have hkl : k < r.length := by omega
  have hw := wrap_succ hkl (by simp only [maxLen]; omega)
  have hin := List.all_eq_true.1 hr
  obtain ⟨x, hx, hxl⟩ := inT_iff.1 (hin r[k] (List.getElem_mem hkl))
  have hy : r[k]? = some (x : Int) := by rw [List.getElem?_eq_getElem hkl, hx]
  have hi1 : (k : Int) ≤ (r.length : Int) := by omega
  have htk : List.take k (r.map ienc) = (r.take k).map ienc := by rw [List.map_take]
  have hok : okAt l r k = (r.take k).all fun y => !((x : Int) == y || beforeB l x y.toNat) := by simp only [okAt, hy, Int.toNat_natCast]
  rw [keeps_s hkl, hok] at hq
  have hg : ∀ y ∈ r.take k, inT l.length y = true := fun y h => hin y (List.mem_of_mem_take h)
  have hgl : (r.take k).length ≤ 1000000 := by simp; omega
  generalize r.take k = g at *
  (refine rO ?_; repeat' ((with_reducible first | refine rG ?_ | (refine rS ?_ ?_ <;> intro hp) | (refine rB ?_ ?_ <;> intro hb <;> try rw [hb]) | refine rD ?_ | refine rA ?_ | fail) <;> try simp only [go_sem, simprocAttr, hy, ienc_eq, hi1, htk, Int.toNat_zero, List.length_map]))
  refine awp_loopA (fun i : Nat => [(0, .a (txnsA l)), (1, .a (intsA r)), (6, .a (I x)), (9, .a (intsA r)), (10, .a (I r.length)), (11, .a (I k)), (18, .a (intsA g)), (19, .a (I g.length)), (20, .a (I i))]) (fun _ => []) (fun i => i ≤ g.length ∧ keepsFrom l r 0 = ((g.drop i).all (fun y => !((x : Int) == y || beforeB l x y.toNat)) && keepsFrom l r (k + 1))) (g.length - ·) 0 ?_ ?_ ⟨Nat.zero_le _, hq⟩ ?_
  ·simp only [go_sem, simprocAttr, List.length_map, htk]
  ·simp only [go_sem, simprocAttr]
  intro i j2 ⟨hi, hv⟩
  (refine rO ?_; repeat' ((with_reducible first | refine rG ?_ | (refine rS ?_ ?_ <;> intro hp) | (refine rB ?_ ?_ <;> intro hb <;> try rw [hb]) | refine rD ?_ | refine rA ?_ | fail) <;> try simp only [go_sem, simprocAttr]))
  ·have hil : i < g.length := by omega
   have hwi := wrap_succ hil (by simp only [maxLen]; omega)
   obtain ⟨y, hy2, hyl⟩ := inT_iff.1 (hg g[i] (List.getElem_mem hil))
   have hz : g[i]? = some (y : Int) := by rw [List.getElem?_eq_getElem hil, hy2]
   rw [List.drop_eq_getElem_cons hil, List.all_cons, hy2, Int.toNat_natCast] at hv
   (refine rO ?_; repeat' ((with_reducible first | refine rG ?_ | (refine rS ?_ ?_ <;> intro hp) | (refine rB ?_ ?_ <;> intro hb <;> try rw [hb]) | refine rD ?_ | refine rA ?_ | fail) <;> try simp only [go_sem, simprocAttr, hz, ienc_eq, hwi]))
   ·have : ((x : Int) == (y : Int)) = true := by simpa using ‹(x : Int) = (y : Int)›
    rw [hv, this]; rfl
   ·have hne : ((x : Int) == (y : Int)) = false := by simpa using ‹¬ (x : Int) = (y : Int)›
    rw [hne, Bool.false_or] at hv
    refine c24 hs hxl hyl ?_
    cases hB : beforeB l x y with
    | true =>
     (refine rO ?_; repeat' ((with_reducible first | refine rG ?_ | (refine rS ?_ ?_ <;> intro hp) | (refine rB ?_ ?_ <;> intro hb <;> try rw [hb]) | refine rD ?_ | refine rA ?_ | fail) <;> try simp only [go_sem, simprocAttr, hwi]))
     rw [hv, hB]; rfl
    | false =>
     rw [hB] at hv
     (refine rO ?_; repeat' ((with_reducible first | refine rG ?_ | (refine rS ?_ ?_ <;> intro hp) | (refine rB ?_ ?_ <;> intro hb <;> try rw [hb]) | refine rD ?_ | refine rA ?_ | fail) <;> try simp only [go_sem, simprocAttr, hwi]))
     (refine ⟨i + 1, ?_, ?_, ⟨hil, by simpa using hv⟩, by dsimp only; omega⟩ <;> simp only [go_sem, simprocAttr, hwi])
  ·rw [List.drop_eq_nil_of_le (show g.length ≤ i by omega)] at hv
   (refine rO ?_; repeat' ((with_reducible first | refine rG ?_ | (refine rS ?_ ?_ <;> intro hp) | (refine rB ?_ ?_ <;> intro hb <;> try rw [hb]) | refine rD ?_ | refine rA ?_ | fail) <;> try simp only [go_sem, simprocAttr, hw]))
   (refine ⟨k + 1, ?_, ?_, ⟨hkl, by simpa using hv⟩, by dsimp only; omega⟩ <;> simp only [go_sem, simprocAttr])
 ·rw [hq, keeps_n (by omega)]
end Go.VC
end
section
set_option maxRecDepth 100000
namespace Go.VC
open Go.RowKit Go.Proofs Go.IntWalk
def firstB (p : Nat → Bool) (n : Nat) : Nat := ((List.range n).find? p).getD n
theorem firstB_hit {p : Nat → Bool} {n k : Nat} (hk : k < n) (hl : ∀ i, i < k → p i = false) (hb : p k = true) : firstB p n = k := by
 have : (List.range n).find? p = some k := by
  rw [List.find?_range_eq_some]
  exact ⟨hb, List.mem_range.2 hk, fun j hj => by simp [hl j hj]⟩
 simp [firstB, this]
theorem firstB_none {p : Nat → Bool} {n : Nat} (hl : ∀ i, i < n → p i = false) : firstB p n = n := by
 have : (List.range n).find? p = none := by
  rw [List.find?_range_eq_none]
  intro i hi; simp [hl i hi]
 simp [firstB, this]
def wrt (ms : List Int) (o : Op) : List Int := if o.w then ms.set o.var.toNat o.val else ms
def withF (ms : List Int) (ops : List Op) : List Int := ops.foldl wrt ms
theorem wrt_len (ms : List Int) (o : Op) : (wrt ms o).length = ms.length := by unfold wrt; split <;> simp
theorem withF_len : ∀ (ops : List Op) (ms : List Int), (withF ms ops).length = ms.length
 | [], ms => rfl
 | o :: ops, ms => by show (withF (wrt ms o) ops).length = _; rw [withF_len ops, wrt_len]
theorem withF_s {ms : List Int} {ops : List Op} {k : Nat} (hk : k < ops.length) : withF ms (ops.take (k + 1)) = wrt (withF ms (ops.take k)) ops[k] := by
 rw [List.take_succ_eq_append_getElem hk, withF, List.foldl_append]; rfl
def OpsIn (ops : List Op) : Prop := ops.length ≤ 1000000 ∧ ∀ o ∈ ops, 0 ≤ o.var ∧ o.var < 8
def badOp (ms : List Int) (ops : List Op) (i : Nat) : Bool := match ops[i]? with
 | some o => !o.w && !decide ((withF ms (ops.take i)).getD o.var.toNat 0 = o.val)
 | none => false
def ownF (ops : List Op) (ms : List Int) : Nat := firstB (badOp ms ops) ops.length
abbrev memA (ms : List Int) : A := .ag (ms.map fun n => dI n)
def memC (ms : List Int) : List R := (ms.map fun n => dI n).map fun d => R.a (.d d)
theorem memC_fold {ms : List Int} : List.map (fun d => R.a (.d d)) (ms.map fun n => dI n) = memC ms := rfl
theorem memC_kill {ms : List Int} {d : Nat} : (memC ms).map (R.kill d) = memC ms := by
 simp only [memC, List.map_map]; rfl
theorem memC_get {ms : List Int} {i : Nat} : (memC ms)[i]? = (ms[i]?).map fun n => R.a (I n) := by
 rw [memC, List.getElem?_map, List.getElem?_map]; cases ms[i]? <;> rfl
theorem memC_set {ms : List Int} {i : Nat} {x : Int} : (memC ms).set i (.a (I x)) = memC (ms.set i x) := by
 simp only [memC, List.map_set]
theorem memC_len {ms : List Int} : (memC ms).length = ms.length := by simp [memC]
theorem memC_take {ms : List Int} (h : ms.length = 8) : List.take 8 (memC ms) = memC ms := List.take_of_length_le (by rw [memC_len]; omega)
theorem memC_all {ms : List Int} : allD (memC ms) = some (ms.map fun n => dI n) := allD_map _
theorem memC_ends {ms : List Int} {σ : S} : endDs σ (memC ms) = some (ms.map fun n => dI n) := by
 induction ms with
 | nil => rfl
 | cons n ms ih =>
  have : memC (n :: ms) = .a (I n) :: memC ms := rfl
  rw [this, es_cons, ih]; rfl
theorem memC_spl {Z M : List Int} (hz : Z.length = 8) (hm : M.length = 8) : spl (memC Z) (memC M) 0 = some (memC M) := by
 have h1 : (memC Z).length = 8 := by rw [memC_len, hz]
 have h2 : (memC M).length = 8 := by rw [memC_len, hm]
 unfold spl
 rw [h1, h2]
 simp only [Nat.zero_add, Nat.le_refl, decide_true, cond_true, List.take_zero, List.nil_append]
 generalize memC M = L at h2
 match L, h2 with
 | [], h2 => cases h2
 | [_], h2 => simp at h2
 | a :: b :: L, h2 => rw [List.drop_eq_nil_of_le (by omega), List.append_nil]
theorem nx_none {p : Nat → Bool} {k : Nat} (hl : ∀ i, i < k → p i = false) (hb : p k = false) : ∀ i, i < k + 1 → p i = false := fun i hi => by
 by_cases h : i = k
 ·subst h; exact hb
 ·exact hl i (by omega)
theorem t84 (ops : List Op) (ms : List Int) (ho : OpsIn ops) (hm : ms.length = 8) : Holds Tryz.prog GL 86 [opsA' ops, memA ms] [.a (I (ownF ops ms))] := by
 refine fn_holds (vs := [.tmp 4]) (by kernel_rfl) Tryz.func86 rfl rfl (by kernel_rfl) (by kernel_rfl) rfl ?_
 have hlo := ho.1
 (refine rO ?_; repeat' ((with_reducible first | refine rG ?_ | (refine rS ?_ ?_ <;> intro hp) | (refine rB ?_ ?_ <;> intro hb <;> try rw [hb]) | refine rD ?_ | refine rA ?_ | fail) <;> try simp only [go_sem, simprocAttr, List.length_map, memC_fold, memC_kill]))
 refine awp_loopA (fun k : Nat => [(0, .a (opsA' ops)), (3, .ref 3 0), (7, .a (opsA' ops)), (8, .a (I ops.length)), (9, .a (I k))]) (fun k => [(3, .box (memC (withF ms (ops.take k))))]) (fun k => k ≤ ops.length ∧ ∀ i, i < k → badOp ms ops i = false) (ops.length - ·) 0 ?_ ?_ ⟨Nat.zero_le _, fun i hi => by omega⟩ ?_
 ·simp only [go_sem, simprocAttr, List.length_map, memC_fold, memC_kill]
 ·simp only [go_sem, simprocAttr, List.take_zero, memC_fold, memC_kill]; try rfl
 intro k j ⟨hk, hl⟩
 (refine rO ?_; repeat' ((with_reducible first | refine rG ?_ | (refine rS ?_ ?_ <;> intro hp) | (refine rB ?_ ?_ <;> intro hb <;> try rw [hb]) | refine rD ?_ | refine rA ?_ | fail) <;> try simp only [go_sem, simprocAttr, List.length_map]))
 ·have hkl : k < ops.length := by omega
  have hx : ops[k]? = some ops[k] := List.getElem?_eq_getElem hkl
  have hw := wrap_succ (n := ops.length) hkl (by simp only [maxLen]; omega)
  have hs := withF_s (ms := ms) hkl
  have hv := ho.2 _ (List.getElem_mem hkl)
  have hb : badOp ms ops k = (!ops[k].w && !decide ((withF ms (ops.take k)).getD ops[k].var.toNat 0 = ops[k].val)) := by simp only [badOp, hx]
  have hml : (withF ms (ops.take k)).length = 8 := by rw [withF_len, hm]
  generalize ops[k] = o at hx hs hv hb
  generalize withF ms (ops.take k) = M at hs hb hml
  obtain ⟨v0, v8⟩ := hv
  have v8' : o.var < ((8 : Nat) : Int) := by omega
  have hvn : o.var.toNat + 1 ≤ M.length := by omega
  have hy : M[o.var.toNat]? = some M[o.var.toNat] := List.getElem?_eq_getElem (by omega)
  have hgd : M.getD o.var.toNat 0 = M[o.var.toNat] := by rw [List.getD_eq_getElem?_getD, hy]; rfl
  rw [hgd] at hb
  generalize M[o.var.toNat] = y at hy hb
  cases how : o.w with
  | true =>
   simp only [wrt, how, if_true] at hs
   (refine rO ?_; repeat' ((with_reducible first | refine rG ?_ | (refine rS ?_ ?_ <;> intro hp) | (refine rB ?_ ?_ <;> intro hb <;> try rw [hb]) | refine rD ?_ | refine rA ?_ | fail) <;> try simp only [go_sem, simprocAttr, hx, Op.enc_eq, how, hw, v0, v8', memC_kill, memC_get, memC_len, Nat.mul_one, Nat.zero_add, hvn, memC_set]))
   rw [how, Bool.not_true, Bool.false_and] at hb
   (refine ⟨k + 1, ?_, ?_, ⟨hkl, nx_none hl hb⟩, by dsimp only; omega⟩ <;> simp only [go_sem, simprocAttr, hw, hs, memC_kill])
  | false =>
   simp only [wrt, how, Bool.false_eq_true, if_false] at hs
   (refine rO ?_; repeat' ((with_reducible first | refine rG ?_ | (refine rS ?_ ?_ <;> intro hp) | (refine rB ?_ ?_ <;> intro hb <;> try rw [hb]) | refine rD ?_ | refine rA ?_ | fail) <;> try simp only [go_sem, simprocAttr, hx, Op.enc_eq, how, hw, v0, v8', memC_kill, memC_get, memC_len, Nat.mul_one, Nat.zero_add, hvn, hy]))
   ·rw [how, decide_eq_true ‹y = o.val›] at hb
    (refine ⟨k + 1, ?_, ?_, ⟨hkl, nx_none hl hb⟩, by dsimp only; omega⟩ <;> simp only [go_sem, simprocAttr, hw, hs, memC_kill])
   ·rw [how, decide_eq_false ‹¬ y = o.val›] at hb
    rw [ownF, firstB_hit hkl hl hb]
 ·rw [ownF, firstB_none (p := badOp ms ops) (n := ops.length) (fun i hi => hl i (by omega))]
theorem t85 (ops : List Op) (ms : List Int) (ho : OpsIn ops) (hm : ms.length = 8) : Holds Tryz.prog GL 87 [memA ms, opsA' ops] [.a (memA (withF ms ops))] := by
 refine fn_holds (vs := [.cell 4 141]) (by kernel_rfl) Tryz.func87 rfl rfl (by kernel_rfl) (by kernel_rfl) rfl ?_
 have hlo := ho.1
 (refine rO ?_; repeat' ((with_reducible first | refine rG ?_ | (refine rS ?_ ?_ <;> intro hp) | (refine rB ?_ ?_ <;> intro hb <;> try rw [hb]) | refine rD ?_ | refine rA ?_ | fail) <;> try simp only [go_sem, simprocAttr, List.length_map, memC_fold, memC_kill]))
 refine awp_loopA (fun k : Nat => [(2, .ref 2 0), (4, .ref 4 0), (7, .a (opsA' ops)), (8, .a (I ops.length)), (9, .a (I k))]) (fun k => [(2, .box (memC (withF ms (ops.take k)))), (4, .box (memC (List.replicate 8 0)))]) (fun k => k ≤ ops.length) (ops.length - ·) 0 ?_ ?_ (Nat.zero_le _) ?_
 ·simp only [go_sem, simprocAttr, List.length_map, memC_fold, memC_kill]
 ·simp only [go_sem, simprocAttr, List.take_zero, memC_fold, memC_kill]; try (exact ⟨rfl, rfl⟩)
 intro k j hk
 (refine rO ?_; repeat' ((with_reducible first | refine rG ?_ | (refine rS ?_ ?_ <;> intro hp) | (refine rB ?_ ?_ <;> intro hb <;> try rw [hb]) | refine rD ?_ | refine rA ?_ | fail) <;> try simp only [go_sem, simprocAttr, List.length_map]))
 ·have hkl : k < ops.length := by omega
  have hx : ops[k]? = some ops[k] := List.getElem?_eq_getElem hkl
  have hw := wrap_succ (n := ops.length) hkl (by simp only [maxLen]; omega)
  have hs := withF_s (ms := ms) hkl
  have hv := ho.2 _ (List.getElem_mem hkl)
  have hml : (withF ms (ops.take k)).length = 8 := by rw [withF_len, hm]
  generalize ops[k] = o at hx hs hv
  generalize withF ms (ops.take k) = M at hs hml
  obtain ⟨v0, v8⟩ := hv
  have v8' : o.var < ((8 : Nat) : Int) := by omega
  have hvn : o.var.toNat + 1 ≤ M.length := by omega
  cases how : o.w with
  | true =>
   simp only [wrt, how, if_true] at hs
   (refine rO ?_; repeat' ((with_reducible first | refine rG ?_ | (refine rS ?_ ?_ <;> intro hp) | (refine rB ?_ ?_ <;> intro hb <;> try rw [hb]) | refine rD ?_ | refine rA ?_ | fail) <;> try simp only [go_sem, simprocAttr, hx, Op.enc_eq, how, hw, v0, v8', memC_kill, memC_get, memC_len, Nat.mul_one, Nat.zero_add, hvn, memC_set]))
   (refine ⟨k + 1, ?_, ?_, hkl, by dsimp only; omega⟩ <;> simp only [go_sem, simprocAttr, hw, hs, memC_kill])
  | false =>
   simp only [wrt, how, Bool.false_eq_true, if_false] at hs
   (refine rO ?_; repeat' ((with_reducible first | refine rG ?_ | (refine rS ?_ ?_ <;> intro hp) | (refine rB ?_ ?_ <;> intro hb <;> try rw [hb]) | refine rD ?_ | refine rA ?_ | fail) <;> try simp only [go_sem, simprocAttr, hx, Op.enc_eq, how, hw, v0, v8', memC_kill, memC_get, memC_len, Nat.mul_one, Nat.zero_add, hvn]))
   (refine ⟨k + 1, ?_, ?_, hkl, by dsimp only; omega⟩ <;> simp only [go_sem, simprocAttr, hw, hs, memC_kill])
 ·rw [List.take_of_length_le (by omega)]
  have hml : (withF ms ops).length = 8 := by rw [withF_len, hm]
  generalize withF ms ops = M at hml
  have hz := memC_spl (Z := [0, 0, 0, 0, 0, 0, 0, 0]) rfl hml
  (refine rO ?_; repeat' ((with_reducible first | refine rG ?_ | (refine rS ?_ ?_ <;> intro hp) | (refine rB ?_ ?_ <;> intro hb <;> try rw [hb]) | refine rD ?_ | refine rA ?_ | fail) <;> try simp only [go_sem, simprocAttr, List.drop_zero, memC_len, hml, memC_take hml, memC_all, Nat.zero_add, memC_fold, hz, memC_ends]))
end Go.VC
end
section
set_option maxRecDepth 100000
namespace Go.VC
open Go.RowKit Go.Proofs Go.IntWalk
theorem t_0 {σ : S} {K : S → Prop} {d : Tmp} (h : decide (1000 + 16 * d + 0 ≤ 1000000000) = true) : S.ret σ (some d) [] K = K (σ.put (some d) (.tp [])) := by
 have h' : 1000 + 16 * d ≤ 1000000000 := by simpa using h
 simp [S.ret, baseId, freshOf, regsOf, one, h']
theorem al_nil : aloneRs [] = True := by simp [aloneRs]
attribute [go_sem ↓] t_0
attribute [go_sem] al_nil
def SrtN (l : List Nat) : Prop := ∀ (i x y : Nat), l[i]? = some x → l[i + 1]? = some y → x ≤ y
theorem SrtN.le {l : List Nat} (hs : SrtN l) : ∀ (d i x y : Nat), l[i]? = some x → l[i + d]? = some y → x ≤ y
 | 0, i, x, y, hx, hy => by rw [Nat.add_zero, hx] at hy; cases hy; exact Nat.le_refl _
 | d + 1, i, x, y, hx, hy => by
  have hl := (List.getElem?_eq_some_iff.1 hy).1
  have hz : l[i + d]? = some l[i + d] := List.getElem?_eq_getElem (by omega)
  exact Nat.le_trans (hs.le d i x _ hx hz) (hs _ _ _ hz (by rw [show i + d + 1 = i + (d + 1) by omega]; exact hy))
end Go.VC
end
section
set_option maxRecDepth 100000
namespace Go.VC
open Go.RowKit Go.Proofs Go.IntWalk
def isSt (l : List Txn) (s : Int) (i : Nat) : Bool := match l[i]? with
 | some t => decide (t.st = s)
 | none => false
theorem st64 (l : List Txn) (s : Int) (hl : l.length ≤ 6) : bitsN (isSt l s) l.length < 64 :=
 Nat.lt_of_lt_of_le (bitsN_lt _ _) (Nat.pow_le_pow_right (show 0 < 2 by omega) hl)
end Go.VC
end
section
set_option maxRecDepth 100000
namespace Go.VC
open Go.RowKit Go.Proofs Go.IntWalk
def endK (t : Txn) (last : Int) (c : Bool) : List Int := if t.st ≥ 2 then [] else if t.st = 1 ∧ c = true then [7] else if last = 1 ∨ last = 3 ∨ last = 5 then [8, 9] else [9]
def endEv (t : Txn) (last : Int) (c : Bool) : List Ev := (endK t last c).map fun k => ⟨k, t.name, 0, 0⟩
end Go.VC
end
section
set_option maxRecDepth 100000
namespace Go.VC
open Go.RowKit Go.Proofs Go.IntWalk
def kindAt (h : List Ev) (n : Int) : Int := match h[n.toNat]? with
 | some e => e.kind
 | none => 0
def endAt (h : List Ev) (l : List Txn) (C i : Nat) : List Ev := match l[i]? with
 | some t => endEv t (kindAt h t.last) (C.testBit i)
 | none => []
def endsTo (h : List Ev) (l : List Txn) (C k : Nat) : List Ev := ((List.range k).map (endAt h l C)).flatten
end Go.VC
end
section
set_option maxRecDepth 100000
namespace Go.VC
open Go.RowKit Go.Proofs Go.IntWalk
section
variable {P : Program} {gl : Nat → Option (List D)} {σ : S} {K : S → Prop} {dst : Option Tmp} {ty : TypeId} {pos : String} {after : Array Edge} {g : Option (Nat × Bool)}
theorem sem_clo {f : FuncId} {l : List Operand} {caps : List (Nat × Nat)} (he : l.map (σ.eval gl) = caps.map fun c => .ref c.1 c.2) (hk : K (σ.put dst (.clo f caps))) : SemOp P gl ⟨dst, .makeFunc (.func f) #[] l.toArray, ty, pos, after, g⟩ σ K := by
 intro c β a w hP hgl hs hd
 subst hP; subst hgl
 refine Run.val (v := .func (.func f) #[] (l.map a.eval).toArray) (w' := w) (fun _ e => by cases e) ?_ ⟨_, β, hk, hs.put hd (.clo ⟨?_, fun i v cp hv hc => ?_⟩)⟩
 ·simp [execOp, Instr.makeFunc]
 ·have := congrArg List.length he
  simpa using this
 ·rw [List.getElem?_map] at hv
  obtain ⟨x, hx, rfl⟩ := Option.map_eq_some_iff.1 hv
  have h1 := congrArg (·[i]?) he
  simp only [List.getElem?_map, hx, hc, Option.map_some, Option.some.injEq] at h1
  have h2 := hs.eval x
  rw [h1] at h2
  obtain ⟨b, hb, e⟩ := h2.inv_ref
  exact ⟨b, hb, e⟩
end
structure KeepsC (vs : List Value) (n : Nat) (σ0 σ : S) : Prop where
 fr : σ.mem 999999 = some (.frame vs (upF σ0.regs))
 ob : ∀ o x, (o == n) = false → decide (o < 900000000) = true → σ0.mem o = some x → σ.mem (upId o) = some x.up
structure LeftC (n : Nat) (σ σ' : S) : Prop where
 r : ∀ {t : Nat} {r : R}, σ.regs t = r → r.up.down = r → σ'.regs t = r
 m : ∀ {o : Nat} {x : Ob}, (o == n) = false → decide (o < 900000000) = true → σ.mem o = some x → x.up.down = x → σ'.mem o = some x
theorem up_ref1 {a i : Nat} : R.down (R.up (.ref a i)) = .ref a i := by simp [R.up, R.down, upId_sub, upId_le]
end Go.VC
end
section
set_option maxRecDepth 100000
namespace Go.VC
open Go.RowKit Go.Proofs
structure PairT (P : Program) (k : TypeId) : Prop where
 ex : ∃ (f0 f1 : Field) (t : TypeId) (i : TypeInfo), P.underlying k = some (.struct #[f0, f1]) ∧ f0.name ≠ "_" ∧ f1.name ≠ "_" ∧ f0.offset = 0 ∧ f1.offset = 1 ∧ f0.type = t ∧ f1.type = t ∧ P.underlying t = some (.int .i64) ∧ P.stoodInHeld k = false
def pairV (p : Int × Int) : Value := .agg #[.int .i64 p.1, .int .i64 p.2]
section
variable {P : Program} {k : TypeId} {w : World}
def pGet : List ((Int × Int) × Int) → Int × Int → Option Int
 | [], _ => none
 | (k, x) :: kv, n => if k = n then some x else pGet kv n
def pSet : List ((Int × Int) × Int) → Int × Int → Int → List ((Int × Int) × Int)
 | [], n, x => [(n, x)]
 | (k, y) :: kv, n, x => if k = n then (n, x) :: kv else (k, y) :: pSet kv n x
end
def PmIs (kv : List ((Int × Int) × Int)) (w : World) (bv : Value) : Prop :=
 ∃ (r clock : Nat) (es : Array MapEntry), bv = .map (some r) ∧ w.heap[r]? = some (.map es clock) ∧ es.size = kv.length ∧ MapKept.Stamped es clock ∧
  ∀ (i : Nat) (e : MapEntry) (p : (Int × Int) × Int), es[i]? = some e → kv[i]? = some p → e.key = pairV p.1 ∧ e.val = .int .i64 p.2
def pmap (kv : List ((Int × Int) × Int)) : SemOb where
 os := []
 p := fun _ _ w bv => PmIs kv w bv
 lt := fun h b hb => by
  obtain ⟨r, clock, es, rfl, hh, _⟩ := h
  cases hb
  exact (Array.getElem?_eq_some_iff.1 hh).1
 mono := fun H h k => by
  obtain ⟨r, clock, es, rfl, hh, hr⟩ := h
  exact ⟨r, clock, es, rfl, (k r rfl).trans hh, hr⟩
 dep := fun _ h => h
end Go.VC
end
section
set_option maxRecDepth 100000
namespace Go.VC
open Go.RowKit Go.Proofs Go.IntWalk
def rowsA (rs : List Kp) : A := .d (.sl (rs.map Kp.row))
abbrev PKv := List ((Int × Int) × Int)
def wrOp (i : Int) (kv : PKv) (o : Op) : Option PKv :=
 if o.w = false then some kv else
 if (∃ v, pGet kv (o.var, o.val) = some v ∧ v ≠ i) ∨ o.val = 0 then none else some (pSet kv (o.var, o.val) i)
def wrOps (i : Int) : List Op → PKv → Option PKv
 | [], kv => some kv
 | o :: os, kv => (wrOp i kv o).bind (wrOps i os)
def wrAll : List Kp → Int → PKv → Option PKv
 | [], _, kv => some kv
 | r :: rs, i, kv => (wrOps i r.ops kv).bind (wrAll rs (i + 1))
structure Keeps (vs : List Value) (σ0 σ : S) : Prop where
 fr : σ.mem 999999 = some (.frame vs (upF σ0.regs))
 ob : ∀ o x, decide (o < 999000000) = true → σ0.mem o = some x → σ.mem (upId o) = some x.up
structure WrI (vs : List Value) (σ0 : S) (rs : List Kp) (k : Nat) (kv : PKv) (σ : S) : Prop where
 le : k ≤ rs.length
 eq : wrAll rs 0 [] = wrAll (rs.drop k) k kv
 r13 : σ.regs 13 = .a (rowsA rs)
 r14 : σ.regs 14 = .a (I rs.length)
 r15 : σ.regs 15 = .a (I k)
 r4 : σ.regs 4 = .omp 12
 m12 : σ.mem 12 = some (.sem (pmap kv))
 kp : Keeps vs σ0 σ
structure WrJ (vs : List Value) (σ0 : S) (rs : List Kp) (r : Kp) (k j : Nat) (kv : PKv) (σ : S) : Prop where
 le : j ≤ r.ops.length
 eq : wrAll rs 0 [] = (wrOps k (r.ops.drop j) kv).bind (wrAll (rs.drop (k + 1)) (k + 1))
 r13 : σ.regs 13 = .a (rowsA rs)
 r14 : σ.regs 14 = .a (I rs.length)
 r15 : σ.regs 15 = .a (I k)
 r5 : σ.regs 5 = .a (I k)
 r4 : σ.regs 4 = .omp 12
 r21 : σ.regs 21 = .a (.d (.sl (r.ops.map Op.enc)))
 r22 : σ.regs 22 = .a (I r.ops.length)
 r23 : σ.regs 23 = .a (I j)
 m12 : σ.mem 12 = some (.sem (pmap kv))
 kp : Keeps vs σ0 σ
end Go.VC
end
section
set_option maxRecDepth 100000
namespace Go.VC
open Go.RowKit Go.Proofs Go.IntWalk
theorem g_frz {σ : S} {t o : Nat} {e : TypeId} {z : Nat} {xs : List (List D)} (hr : σ.regs t = .own o) (hm : σ.mem o = some (.log e z xs)) (ho : o < 1000000000) : Ghost σ (σ.frz o fun _ => .sl xs) := fun c β a w hs => ⟨β, by
 have := (rest1_sound hs (r := .own o) (x := .d (.sl xs)) (by rw [← hr]; exact hs.reg t) (by simp [argA, hm]) ho).1
 rwa [show σ.rest1 (.own o) = σ.frz o fun _ => .sl xs by simp [S.rest1, hm]] at this⟩
structure KeepsL (vs : List Value) (σ0 σ : S) : Prop where
 fr : σ.mem 999999 = some (.frame vs (upF σ0.regs))
 ob : ∀ o x, decide (o < 900000000) = true → σ0.mem o = some x → σ.mem (upId o) = some x.up
theorem up_up_down (r : R) : r.up.up.down = r.up := by
 cases r with
 | any => rfl
 | a x => rfl
 | cs x => rfl
 | ref o f => simp [R.up, R.down, upId_le, upId_sub]
 | eref o i s j => simp [R.up, R.down, upId_le, upId_sub]
 | own o => simp [R.up, R.down, upId_le, upId_sub]
 | omp o => simp [R.up, R.down, upId_le, upId_sub]
 | clo g caps => simp [R.up, R.down, upId_le, upId_sub, List.map_map, Function.comp_def]
 | tp xs => cases xs <;> rfl
 | agr xs => rfl
 | sem os p => simp [R.up, R.down, upId_le, upId_sub, List.map_map, Function.comp_def]
theorem mv_up_up {q a : Nat} (h : q < 1000000) (ha : a < 1000000) (r : R) : r.up.up.mv a (upId q) = r.up.up := by
 have hk : r.up.up.kill (upId q) = r.up.up := by rw [kill_up_hi, kill_up_lo h]
 unfold R.mv
 split
 ·rename_i hs
  unfold R.kill at hk
  rw [if_pos hs] at hk
  exact hk
 ·exact mv0_up ha
theorem fineO_up {q : Nat} (h : q < 1000000) (x : Ob) : FineO q x.up := by
 cases x with
 | box cs =>
  refine ⟨?_, ?_, fun a ha => ?_⟩
  ·simp only [Ob.up, Ob.down, List.map_map]; congr 1; exact List.map_congr_left fun r _ => up_up_down r
  ·simp only [Ob.up, Ob.kill, Ob.down, List.map_map]; congr 1; exact List.map_congr_left fun r _ => by
    show (r.up.up.kill (upId q)).down = r.up
    rw [kill_up_hi, kill_up_lo h]; exact up_up_down r
  ·simp only [Ob.up, Ob.mv, Ob.down, List.map_map]; congr 1; exact List.map_congr_left fun r _ => by
    show (r.up.up.mv a (upId q)).down = r.up
    rw [mv_up_up h ha]; exact up_up_down r
 | log e z xs => exact fineO_log
 | mpo kv => exact ⟨rfl, rfl, fun _ _ => rfl⟩
 | iter kv seen => exact ⟨rfl, rfl, fun _ _ => rfl⟩
 | frame vs rs =>
  refine ⟨?_, ?_, fun a ha => ?_⟩
  ·simp only [Ob.up, Ob.down]; congr 1; funext t; exact up_up_down _
  ·simp only [Ob.up, Ob.kill, Ob.down]; congr 1; funext t
   rw [kill_up_hi, kill_up_lo h]; exact up_up_down _
  ·simp only [Ob.up, Ob.mv, Ob.down]; congr 1; funext t
   rw [mv_up_up h ha]; exact up_up_down _
 | sem x =>
  refine fineO_sem (x := x.up) fun hq => ?_
  obtain ⟨o, _, e⟩ := List.mem_map.1 hq
  have := upId_le o
  omega
 | lost => exact ⟨rfl, rfl, fun _ _ => rfl⟩
theorem fineO_fr {q : Nat} (h : q < 1000000) (vs : List Value) (rg : Nat → R) : FineO q (.frame vs (upF rg)) := fineO_up h (.frame vs rg)
end Go.VC
end
section
set_option maxRecDepth 100000
namespace Go.VC
open Go.RowKit Go.Proofs Go.IntWalk
def srcOf (kv : PKv) (i : Int) (o : Op) : Int := if o.val = 0 then -1 else match pGet kv (o.var, o.val) with
 | some v => if v = i then -2 else v
 | none => -2
end Go.VC
end
section
set_option maxRecDepth 100000
namespace Go.VC
open Go.RowKit Go.Proofs Go.IntWalk
def encB (l : List (Int × Bool)) : List (Int × D) := l.map fun p => (p.1, dB p.2)
def srcRow (kv : PKv) (i : Int) : List Op → List (Int × Bool) → List Int
 | [], _ => []
 | o :: os, own => (if (assoc own o.var).getD false || o.w then i else srcOf kv i o) :: srcRow kv i os (assocSet own o.var ((assoc own o.var).getD false || o.w))
def srcRows (kv : PKv) : List Kp → Int → List (List Int)
 | [], _ => []
 | r :: rs, i => srcRow kv i r.ops [] :: srcRows kv rs (i + 1)
def intRow (l : List Int) : List D := [.sl (l.map fun n => [dI n])]
structure SoI (rs : List Kp) (kv : PKv) (k : Nat) (σ : S) : Prop where
 le : k ≤ rs.length
 r5 : σ.regs 5 = .omp 800000
 r7 : σ.regs 7 = .own 7
 r23 : σ.regs 23 = .a (rowsA rs)
 r24 : σ.regs 24 = .a (I rs.length)
 r25 : σ.regs 25 = .a (I k)
 m8 : σ.mem 800000 = some (.sem (pmap kv))
 m7 : ∃ done : List (List Int), σ.mem 7 = some (.log 35 1 (done.map intRow)) ∧ done.length = k ∧ srcRows kv rs 0 = done ++ srcRows kv (rs.drop k) k
structure SoJ (rs : List Kp) (kv : PKv) (r : Kp) (k j : Nat) (done : List (List Int)) (σ : S) : Prop where
 le : j ≤ r.ops.length
 r5 : σ.regs 5 = .omp 800000
 r7 : σ.regs 7 = .own 7
 r23 : σ.regs 23 = .a (rowsA rs)
 r24 : σ.regs 24 = .a (I rs.length)
 r25 : σ.regs 25 = .a (I k)
 r8 : σ.regs 8 = .a (I k)
 r10 : σ.regs 10 = .own 10
 r11 : σ.regs 11 = .omp 30
 r32 : σ.regs 32 = .a (.d (.sl (r.ops.map Op.enc)))
 r33 : σ.regs 33 = .a (I r.ops.length)
 r34 : σ.regs 34 = .a (I j)
 m8 : σ.mem 800000 = some (.sem (pmap kv))
 m7 : σ.mem 7 = some (.log 35 1 (done.map intRow))
 m : ∃ (own : List (Int × Bool)) (out : List Int), σ.mem 30 = some (.mpo (encB own)) ∧ σ.mem 10 = some (.log 3 1 (out.map fun n => [dI n])) ∧ out.length = j ∧ srcRow kv k r.ops [] = out ++ srcRow kv k (r.ops.drop j) own
end Go.VC
end
section
namespace Go.VC
open Go.RowKit Go.Proofs Go.IntWalk
def BadW (W : Nat → Int × Int → Prop) : Prop := (∃ j p, W j p ∧ p.2 = 0) ∨ ∃ j j' p, W j p ∧ W j' p ∧ j ≠ j'
theorem BadW.mono {W W' : Nat → Int × Int → Prop} (h : BadW W) (k : ∀ j p, W j p → W' j p) : BadW W' := by
 rcases h with ⟨j, p, h1, h2⟩ | ⟨j, j', p, h1, h2, h3⟩
 ·exact .inl ⟨j, p, k _ _ h1, h2⟩
 ·exact .inr ⟨j, j', p, k _ _ h1, k _ _ h2, h3⟩
end Go.VC
end
section
set_option maxRecDepth 100000
namespace Go.VC
open Go.RowKit Go.Proofs Go.IntWalk
structure SrcT (l : List Txn) (sr : List (List Int)) : Prop where
 len : sr.length = l.length
 row : ∀ (t : Nat) (x : Txn) (r : List Int), l[t]? = some x → sr[t]? = some r → r.length = x.ops.length
 src : ∀ (t : Nat) (r : List Int) (s : Int), sr[t]? = some r → s ∈ r → s = -1 ∨ s = -2 ∨ ∃ k : Nat, s = k ∧ k < l.length
end Go.VC
namespace Go.VC
open Go.RowKit Go.Proofs Go.IntWalk
structure KeepsB (B : Nat) (vs : List Value) (n : Nat) (σ0 σ : S) : Prop where
 fr : σ.mem 999999 = some (.frame vs (upF σ0.regs))
 ob : ∀ o x, (o == n) = false → decide (o < B) = true → σ0.mem o = some x → σ.mem (upId o) = some x.up
structure LeftB (B : Nat) (n : Nat) (σ σ' : S) : Prop where
 r : ∀ {t : Nat} {r : R}, σ.regs t = r → r.up.down = r → σ'.regs t = r
 m : ∀ {o : Nat} {x : Ob}, (o == n) = false → decide (o < B) = true → σ.mem o = some x → x.up.down = x → σ'.mem o = some x
theorem loB {o B : Nat} (hB : B ≤ 900000000) (h : decide (o < B) = true) : decide (o < 999000000) = true := by have := of_decide_eq_true h; exact decide_eq_true (by omega)
end Go.VC
namespace Go.VC
open Go.RowKit Go.Proofs Go.IntWalk
def addE (rows : List Nat) (i k : Nat) : List Nat := match rows[i]? with
 | some b => rows.set i (b ||| 2 ^ k)
 | none => rows
structure RowsOk (n : Nat) (rows : List Nat) : Prop where
 len : rows.length = n
 lt : ∀ b ∈ rows, b < 2 ^ 32
section
variable {vs : List Value} {σ0 τ : S} {l : List Txn} {sr : List (List Int)} {C : Nat} {place : List Int} {rows : List Nat}
theorem up_frame {rg : Nat → R} : Ob.down (Ob.up (.frame vs (upF rg))) = .frame vs (upF rg) := by
 show Ob.frame vs (fun t => ((upF rg t).up).down) = _
 congr 1
 funext t
 exact up_up_down (rg t)
theorem up_obj (x : Ob) : Ob.down (Ob.up x.up) = x.up := (fineO_up (q := 0) (by omega) x).1
end
end Go.VC
end
section
set_option maxRecDepth 100000
namespace Go.VC
open Go.RowKit Go.Proofs Go.IntWalk
structure LeR (a b : List Nat) : Prop where
 len : a.length = b.length
 bit : ∀ (i x y : Nat), a[i]? = some x → b[i]? = some y → ∀ q, x.testBit q = true → y.testBit q = true
theorem LeR.refl (a : List Nat) : LeR a a := ⟨rfl, fun i x y h1 h2 q h => by rw [h1] at h2; cases h2; exact h⟩
theorem or_bit {x k q : Nat} : (x ||| 2 ^ k).testBit q = (x.testBit q || decide (k = q)) := by
 rw [Nat.testBit_or, Nat.testBit_two_pow]
theorem addE_get {a : List Nat} {i k j x : Nat} (h : (addE a i k)[j]? = some x) : ∃ x0, a[j]? = some x0 ∧ ∀ q, x.testBit q = (x0.testBit q || (decide (i = j) && decide (k = q))) := by
 unfold addE at h
 split at h
 ·rename_i b hb
  rw [List.getElem?_set] at h
  split at h
  ·rename_i e
   subst e
   rw [if_pos (List.getElem?_eq_some_iff.1 hb).1] at h
   cases h
   exact ⟨b, hb, fun q => by rw [or_bit]; simp⟩
  ·rename_i e
   exact ⟨x, h, fun q => by simp [e]⟩
 ·rename_i hn
  exact ⟨x, h, fun q => by
   have : ¬ i = j := fun e => by subst e; rw [hn] at h; cases h
   simp [this]⟩
theorem addE_len {a : List Nat} {i k : Nat} : (addE a i k).length = a.length := by
 unfold addE; split <;> simp
theorem LeR.add {a b : List Nat} (h : LeR a b) (i k : Nat) : LeR (addE a i k) (addE b i k) := by
 refine ⟨by rw [addE_len, addE_len]; exact h.len, fun j x y hx hy q hq => ?_⟩
 obtain ⟨x0, hx0, ex⟩ := addE_get hx
 obtain ⟨y0, hy0, ey⟩ := addE_get hy
 rw [ex] at hq
 rw [ey]
 cases hx : x0.testBit q with
 | true => rw [h.bit j x0 y0 hx0 hy0 q hx]; rfl
 | false => rw [hx, Bool.false_or] at hq; rw [hq, Bool.or_true]
end Go.VC
end
section
set_option maxRecDepth 100000
namespace Go.VC
open Go.RowKit Go.Proofs Go.IntWalk
theorem u32_half {c : Nat} (hc : c < 2 ^ 32) : IntKind.u32.wrap ((c : Int).tdiv 2) = ((c / 2 : Nat) : Int) := by
 have : (c : Int).tdiv 2 = ((c / 2 : Nat) : Int) := by rw [Int.tdiv_eq_ediv_of_nonneg (by omega)]; omega
 rw [this, u32_in _ (by omega)]
theorem t74 (l : List Txn) (hl : l.length ≤ 1000) (C : Nat) (hC : C < 2 ^ 32) : Holds Tryz.prog GL 14 [txnsA l, U C] [.a (B (decide (C / 2 ^ l.length = 0)))] := by
 refine fn_holds (vs := [.tmp 4]) (by kernel_rfl) Tryz.func14 rfl rfl (by kernel_rfl) (by kernel_rfl) rfl ?_
 (refine rO ?_; repeat' ((with_reducible first | refine rG ?_ | (refine rS ?_ ?_ <;> intro hp) | (refine rB ?_ ?_ <;> intro hb <;> try rw [hb]) | refine rD ?_ | refine rA ?_ | fail) <;> try simp only [go_sem, simprocAttr, List.length_map]))
 refine awp_loopA (fun k : Nat => [(1, .a (U (C / 2 ^ k))), (6, .a (I l.length)), (7, .a (I k))]) (fun _ => []) (fun k => k ≤ l.length) (l.length - ·) 0 ?_ ?_ (Nat.zero_le _) ?_
 ·simp only [go_sem, simprocAttr, List.length_map, Nat.pow_zero, Nat.div_one]
 ·simp only [go_sem, simprocAttr]
 intro k j hk
 (refine rO ?_; repeat' ((with_reducible first | refine rG ?_ | (refine rS ?_ ?_ <;> intro hp) | (refine rB ?_ ?_ <;> intro hb <;> try rw [hb]) | refine rD ?_ | refine rA ?_ | fail) <;> try simp only [go_sem, simprocAttr]))
 ·have hkl : k < l.length := by omega
  have hw := wrap_succ (n := l.length) hkl (by simp only [maxLen]; omega)
  have hh := u32_half (c := C / 2 ^ k) (Nat.lt_of_le_of_lt (Nat.div_le_self _ _) hC)
  have hs : C / 2 ^ (k + 1) = C / 2 ^ k / 2 := by rw [Nat.div_div_eq_div_mul, Nat.pow_succ]
  (refine rO ?_; repeat' ((with_reducible first | refine rG ?_ | (refine rS ?_ ?_ <;> intro hp) | (refine rB ?_ ?_ <;> intro hb <;> try rw [hb]) | refine rD ?_ | refine rA ?_ | fail) <;> try simp only [go_sem, simprocAttr, hw, hh]))
  (refine ⟨k + 1, ?_, ?_, hkl, by dsimp only; omega⟩ <;> simp only [go_sem, simprocAttr, hw, hh, hs])
 ·obtain rfl : k = l.length := by omega
  rw [decide_eq_true (by omega)]
 ·obtain rfl : k = l.length := by omega
  rw [decide_eq_false (by omega)]
theorem t100 (C k : Nat) (hC : C < 2 ^ 32) (hk : k ≤ 1000) : Holds Tryz.prog GL 37 [U C, I k] [.a (B (C.testBit k))] := by
 refine fn_holds (vs := [.tmp 4]) (by kernel_rfl) Tryz.func37 rfl rfl (by kernel_rfl) (by kernel_rfl) rfl ?_
 (refine rO ?_; repeat' ((with_reducible first | refine rG ?_ | (refine rS ?_ ?_ <;> intro hp) | (refine rB ?_ ?_ <;> intro hb <;> try rw [hb]) | refine rD ?_ | refine rA ?_ | fail) <;> try simp only [go_sem, simprocAttr]))
 refine awp_loopA (fun j : Nat => [(0, .a (U (C / 2 ^ j))), (1, .a (I k)), (5, .a (I j))]) (fun _ => []) (fun j => j ≤ k) (k - ·) 0 ?_ ?_ (Nat.zero_le _) ?_
 ·simp only [go_sem, simprocAttr, Nat.pow_zero, Nat.div_one]
 ·simp only [go_sem, simprocAttr]
 intro j j2 hj
 have hm : ((C / 2 ^ j : Nat) : Int).tmod 2 = ((C / 2 ^ j % 2 : Nat) : Int) := by
  generalize C / 2 ^ j = q
  rw [Int.tmod_eq_emod_of_nonneg (by omega)]; omega
 (refine rO ?_; repeat' ((with_reducible first | refine rG ?_ | (refine rS ?_ ?_ <;> intro hp) | (refine rB ?_ ?_ <;> intro hb <;> try rw [hb]) | refine rD ?_ | refine rA ?_ | fail) <;> try simp only [go_sem, simprocAttr, hm]))
 ·have hjl : j < k := by omega
  have hw := wrap_succ (n := k) hjl (by simp only [maxLen]; omega)
  have hh := u32_half (c := C / 2 ^ j) (Nat.lt_of_le_of_lt (Nat.div_le_self _ _) hC)
  have hs : C / 2 ^ (j + 1) = C / 2 ^ j / 2 := by rw [Nat.div_div_eq_div_mul, Nat.pow_succ]
  (refine rO ?_; repeat' ((with_reducible first | refine rG ?_ | (refine rS ?_ ?_ <;> intro hp) | (refine rB ?_ ?_ <;> intro hb <;> try rw [hb]) | refine rD ?_ | refine rA ?_ | fail) <;> try simp only [go_sem, simprocAttr, hw, hh]))
  (refine ⟨j + 1, ?_, ?_, hjl, by dsimp only; omega⟩ <;> simp only [go_sem, simprocAttr, hw, hh, hs])
 ·obtain rfl : j = k := by omega
  rw [Nat.testBit_eq_decide_div_mod_eq, decide_eq_true (by omega)]
 ·obtain rfl : j = k := by omega
  rw [Nat.testBit_eq_decide_div_mod_eq, decide_eq_false (by omega)]
theorem q100 {C k : Nat} (hC : C < 2 ^ 32) (hk : k ≤ 1000) {σ : S} {KR : R → Prop} (hK : KR (retR [B (C.testBit k)])) : callVQ Tryz.prog GL 37 [.a (U C), .a (I k)] σ KR :=
 callQ_dat (res := [B (C.testBit k)]) (t100 C k hC hk) hK
end Go.VC
end
section
set_option maxRecDepth 100000
namespace Go.VC
open Go.RowKit Go.Proofs Go.IntWalk
def flF (h : List Ev) (n : Int) : Int × Int := flTo h n h.length
theorem mem_names : ∀ (h : List Ev) (n : Int), n ∈ namesE h → ∃ e ∈ h, e.tx = n := by
 have : ∀ (h : List Ev) (acc : List Int) (n : Int), n ∈ h.foldl nameStep acc → n ∈ acc ∨ ∃ e ∈ h, e.tx = n := by
  intro h
  induction h with
  | nil => intro acc n hn; exact .inl hn
  | cons e h ih =>
   intro acc n hn
   rcases ih _ _ hn with h1 | ⟨x, hx, hx2⟩
   ·unfold nameStep at h1
    split at h1
    ·exact .inl h1
    ·rcases List.mem_append.1 h1 with h2 | h2
     ·exact .inl h2
     ·simp only [List.mem_singleton] at h2
      exact .inr ⟨e, by simp, h2.symm⟩
   ·exact .inr ⟨x, by simp [hx], hx2⟩
 intro h n hn
 rcases this h [] n hn with h1 | h1
 ·cases h1
 ·exact h1
theorem fl_fit (h : List Ev) (n : Int) : ∀ k, k ≤ h.length → ((flTo h n k).1 < 0 ∧ lastK (h.take k) n = -1) ∨ (0 ≤ (flTo h n k).1 ∧ (flTo h n k).1 < k ∧ 0 ≤ (flTo h n k).2 ∧ (flTo h n k).2 < k ∧ kindAt h (flTo h n k).2 = lastK (h.take k) n ∧ ∃ e ∈ h.take k, e.tx = n)
 | 0, _ => .inl ⟨by simp [flTo], by simp [lastK]⟩
 | k + 1, hk => by
  have hkl : k < h.length := by omega
  have hx : h[k]? = some h[k] := List.getElem?_eq_getElem hkl
  have hl : lastK (h.take (k + 1)) n = if h[k].tx = n then h[k].kind else lastK (h.take k) n := last_s hkl
  have hts : h.take (k + 1) = h.take k ++ [h[k]] := List.take_succ_eq_append_getElem hkl
  have ih := fl_fit h n k (by omega)
  simp only [flTo, hx]
  by_cases ht : h[k].tx = n
  ·rw [if_pos ht] at hl ⊢
   refine .inr ⟨?_, ?_, by simp only []; omega, by simp only []; omega, ?_, ?_⟩
   ·simp only []; split <;> omega
   ·simp only []
    rcases ih with ih | ih
    ·rw [if_pos ih.1]; omega
    ·rw [if_neg (by omega)]; omega
   ·simp only [kindAt, Int.toNat_natCast, hx]; exact hl.symm
   ·exact ⟨h[k], by rw [hts]; exact List.mem_append.2 (.inr (List.mem_singleton.2 rfl)), ht⟩
  ·rw [if_neg ht] at hl ⊢
   rcases ih with ih | ih
   ·exact .inl ⟨ih.1, hl.trans ih.2⟩
   ·refine .inr ⟨ih.1, by omega, ih.2.2.1, by omega, by rw [hl]; exact ih.2.2.2.2.1, ?_⟩
    obtain ⟨e, he, h2⟩ := ih.2.2.2.2.2
    exact ⟨e, by rw [hts]; exact List.mem_append.2 (.inl he), h2⟩
theorem last_none {h : List Ev} {n : Int} : (∀ e ∈ h, e.kind ≠ -1) → lastK h n = -1 → ∀ e ∈ h, e.tx ≠ n := by
 intro hk hl e he ht
 obtain ⟨i, hi, rfl⟩ := List.mem_iff_getElem.1 he
 have : ∀ k, i < k → k ≤ h.length → ¬ lastK (h.take k) n = -1 := by
  intro k
  induction k with
  | zero => intro h1; omega
  | succ k ih =>
   intro h1 h2 h3
   have hkl : k < h.length := by omega
   have hl : lastK (h.take (k + 1)) n = if h[k].tx = n then h[k].kind else lastK (h.take k) n := last_s hkl
   rw [hl] at h3
   by_cases h4 : h[k].tx = n
   ·rw [if_pos h4] at h3; exact hk _ (List.getElem_mem hkl) h3
   ·rw [if_neg h4] at h3
    by_cases h5 : i = k
    ·subst h5; exact h4 ht
    ·exact ih (by omega) (by omega) h3
 exact this h.length hi (Nat.le_refl _) (by rw [List.take_length]; exact hl)
structure TxnOk (h : List Ev) (t : Txn) : Prop where
 fst : t.first = (flF h t.name).1
 lst : t.last = (flF h t.name).2
 st : t.st = stateOf (lastK h t.name)
 f0 : 0 ≤ t.first ∧ t.first < h.length
 l0 : 0 ≤ t.last ∧ t.last < h.length
 kd : kindAt h t.last = lastK h t.name
 k9 : 0 ≤ lastK h t.name ∧ lastK h t.name ≤ 9
 mem : t.name ∈ namesE h
 nm : 0 ≤ t.name ∧ t.name ≤ 9999
theorem right_at {h : List Ev} (hr : rightH h = true) : ∀ e ∈ h, (0 ≤ e.kind ∧ e.kind ≤ 9) ∧ 0 ≤ e.tx ∧ e.tx ≤ 9999 := by
 intro e he
 simp only [rightH, Bool.and_eq_true, List.all_eq_true] at hr
 have := hr.1.2 e he
 simp only [rightE, Bool.and_eq_true, decide_eq_true_eq] at this
 omega
theorem right_of {h : List Ev} (h0 : checkE h = 0) : rightH h = true := by
 cases hr : rightH h with
 | true => rfl
 | false => rw [check_arg.2 hr] at h0; cases h0
theorem txn_ok {h : List Ev} (h0 : checkE h = 0) {t : Txn} (ht : t ∈ txns h) : TxnOk h t := by
 rw [← table_eq h0] at ht
 obtain ⟨n, hn, rfl⟩ := List.mem_map.1 ht
 obtain ⟨e, he, rfl⟩ := mem_names h n hn
 have hr := right_at (right_of h0)
 have hf := fl_fit h e.tx h.length (Nat.le_refl _)
 rw [List.take_length] at hf
 rcases hf with ⟨_, h2⟩ | ⟨a, b, c, d, f, x, hx, hx2⟩
 ·exact absurd rfl (last_none (fun y hy => by have := hr y hy; omega) h2 e he)
 ·have hk : 0 ≤ lastK h e.tx ∧ lastK h e.tx ≤ 9 := by
   rw [← f, kindAt]
   have hl : (flTo h e.tx h.length).2.toNat < h.length := by omega
   rw [List.getElem?_eq_getElem hl]
   exact (hr _ (List.getElem_mem hl)).1
  exact ⟨rfl, rfl, rfl, ⟨a, b⟩, ⟨c, d⟩, f, hk, hn, (hr e he).2⟩
structure EndsI (h : List Ev) (T : List Txn) (C k : Nat) : Prop where
 wf : WFl (h ++ endsTo h T C k)
 nms : ∀ e ∈ endsTo h T C k, e.tx ∈ namesE h
 old : ∀ (i : Nat) (t : Txn), k ≤ i → T[i]? = some t → lastK (h ++ endsTo h T C k) t.name = lastK h t.name ∧ flF (h ++ endsTo h T C k) t.name = flF h t.name
 new : ∀ (i : Nat) (t : Txn), i < k → T[i]? = some t → 2 ≤ stateOf (lastK (h ++ endsTo h T C k) t.name) ∧ (stateOf (lastK (h ++ endsTo h T C k) t.name) = 2 ↔ C.testBit i = true) ∧ (flF (h ++ endsTo h T C k) t.name).1 = t.first ∧
  (t.st ≥ 2 → (flF (h ++ endsTo h T C k) t.name).2 = t.last) ∧ (¬ t.st ≥ 2 → (h.length : Int) ≤ (flF (h ++ endsTo h T C k) t.name).2)
end Go.VC
end
section
set_option maxRecDepth 100000
namespace Go.VC
open Go.RowKit Go.Proofs Go.IntWalk
theorem t112 (i : Int) (l : List Txn) : Holds Tryz.prog GL 114 [I i, .d (.pt [.sl (l.map Txn.enc)])] [.a (B (!inT l.length i))] := by
 refine fn_holds (vs := [.tmp 3]) (by kernel_rfl) Tryz.func114 rfl rfl (by kernel_rfl) (by kernel_rfl) rfl ?_
 (refine rO ?_; repeat' ((with_reducible first | refine rG ?_ | (refine rS ?_ ?_ <;> intro hp) | (refine rB ?_ ?_ <;> intro hb <;> try rw [hb]) | refine rD ?_ | refine rA ?_ | fail) <;> try simp only [go_sem, simprocAttr, List.length_map]))
 all_goals (simp [inT]; omega)
def dupAt (r : List Int) (i : Nat) : Bool := match r[i]? with
 | some x => (r.take i).any fun y => x == y
 | none => false
def noDup (r : List Int) (k : Nat) : Bool := ((List.range r.length).drop k).all fun i => !dupAt r i
theorem noDup_s {r : List Int} {k : Nat} (hk : k < r.length) : noDup r k = (!dupAt r k && noDup r (k + 1)) := by
 simp only [noDup, range_dropO hk, List.all_cons]
theorem noDup_n {r : List Int} {k : Nat} (hk : r.length ≤ k) : noDup r k = true := by
 rw [noDup, List.drop_eq_nil_of_le (by simpa using hk)]; rfl
def mayE (h : List Ev) (r : List Int) : Int := if checkE h = 0 then (if r.all (inT (txns h).length) = true then (if noDup r 0 = true then 0 else 1) else 7) else checkE h
def mayV (h : List Ev) (r : List Int) : List Txn := if mayE h r = 0 then txns h else []
theorem t83 (h : List Ev) (r : List Int) : Holds Tryz.prog GL 85 [evsA h, intsA r] [.a (txnsA (mayV h r)), .a (I (mayE h r))] := by
 refine fn_holds_is (vs := [.tmp 4, .tmp 5]) (by kernel_rfl) Tryz.func85 rfl rfl (by kernel_rfl) (by kernel_rfl) rfl fun his => ?_
 have hlen := his.2.1.len
 rw [List.length_map] at hlen
 have h56 := t56 h
 rw [tabD_txns] at h56
 by_cases hE : checkE h = 0
 ·have hl6 := txns_len6 h
  have e1 : mayE h r = if r.all (inT (txns h).length) = true then (if noDup r 0 = true then 0 else 1) else 7 := by rw [mayE, if_pos hE]
  have e2 : mayV h r = if mayE h r = 0 then txns h else [] := rfl
  rw [hE] at h56
  rw [e2, e1]
  generalize txns h = l at *
  have hany : (r.any fun i => !inT l.length i) = !r.all (inT l.length) := by simp [List.any_eq_not_all_not]
  (refine rO ?_; repeat' ((with_reducible first | refine rG ?_ | (refine rS ?_ ?_ <;> intro hp) | (refine rB ?_ ?_ <;> intro hb <;> try rw [hb]) | refine rD ?_ | refine rA ?_ | fail) <;> try simp only [go_sem, simprocAttr]))
  refine call_dat h56 ?_
  (refine rO ?_; repeat' ((with_reducible first | refine rG ?_ | (refine rS ?_ ?_ <;> intro hp) | (refine rB ?_ ?_ <;> intro hb <;> try rw [hb]) | refine rD ?_ | refine rA ?_ | fail) <;> try simp only [go_sem, simprocAttr]))
  refine call_dat (t58 r 114 (.pt [.sl (l.map Txn.enc)]) (fun i => !inT l.length i) fun i _ => t112 i l) ?_
  rw [hany]
  (refine rO ?_; repeat' ((with_reducible first | refine rG ?_ | (refine rS ?_ ?_ <;> intro hp) | (refine rB ?_ ?_ <;> intro hb <;> try rw [hb]) | refine rD ?_ | refine rA ?_ | fail) <;> try simp only [go_sem, simprocAttr]))
  ·have hr : r.all (inT l.length) = false := by simpa using hb
   rw [hr]; exact ⟨rfl, rfl⟩
  ·have hr : r.all (inT l.length) = true := by simpa using hb
   simp only [hr, if_true]
   (refine rO ?_; repeat' ((with_reducible first | refine rG ?_ | (refine rS ?_ ?_ <;> intro hp) | (refine rB ?_ ?_ <;> intro hb <;> try rw [hb]) | refine rD ?_ | refine rA ?_ | fail) <;> try simp only [go_sem, simprocAttr, List.length_map]))
   refine awp_loopA (fun k : Nat => [(1, .a (intsA r)), (6, .a (.d (.pt [.sl (l.map Txn.enc)]))), (23, .a (intsA r)), (24, .a (I r.length)), (25, .a (I k))]) (fun _ => []) (fun k => k ≤ r.length ∧ noDup r 0 = noDup r k) (r.length - ·) 0 ?_ ?_ ⟨Nat.zero_le _, rfl⟩ ?_
   ·simp only [go_sem, simprocAttr, List.length_map]
   ·simp only [go_sem, simprocAttr]
   intro k j ⟨hk, hq⟩
   (refine rO ?_; repeat' ((with_reducible first | refine rG ?_ | (refine rS ?_ ?_ <;> intro hp) | (refine rB ?_ ?_ <;> intro hb <;> try rw [hb]) | refine rD ?_ | refine rA ?_ | fail) <;> try simp only [go_sem, simprocAttr]))
   ·have hkl : k < r.length := by omega
    have hw := wrap_succ hkl hlen
    have hy : r[k]? = some r[k] := List.getElem?_eq_getElem hkl
    have hd : dupAt r k = (r.take k).any fun y => r[k] == y := by simp only [dupAt, hy]
    have htk : List.take k (r.map ienc) = (r.take k).map ienc := by rw [List.map_take]
    have hkI : (k : Int) ≤ (r.length : Int) := by omega
    rw [noDup_s hkl] at hq
    generalize r[k] = x at hy hd
    (refine rO ?_; repeat' ((with_reducible first | refine rG ?_ | (refine rS ?_ ?_ <;> intro hp) | (refine rB ?_ ?_ <;> intro hb <;> try rw [hb]) | refine rD ?_ | apply c55 | refine rA ?_ | fail) <;> try simp only [go_sem, simprocAttr, hy, ienc_eq, hw, htk, hkI, List.length_map, Int.toNat_zero, List.drop_zero]))
    ·have hd2 : dupAt r k = true := by rw [hd]; assumption
     rw [hq, hd2]; exact ⟨rfl, rfl⟩
    ·have hd2 : dupAt r k = false := by rw [hd]; assumption
     rw [hd2] at hq
     (refine ⟨k + 1, ?_, ?_, ⟨hkl, hq⟩, by dsimp only; omega⟩ <;> simp only [go_sem, simprocAttr, hw])
   ·rw [hq, noDup_n (by omega)]
    (refine rO ?_; repeat' ((with_reducible first | refine rG ?_ | (refine rS ?_ ?_ <;> intro hp) | (refine rB ?_ ?_ <;> intro hb <;> try rw [hb]) | refine rD ?_ | refine rA ?_ | fail) <;> try simp only [go_sem, simprocAttr]))
 ·have e1 : mayE h r = checkE h := by rw [mayE, if_neg hE]
  have e2 : mayV h r = [] := by rw [mayV, e1, if_neg hE]
  rw [e1, e2]
  generalize checkE h = c at *
  generalize txns h = T at *
  (refine rO ?_; repeat' ((with_reducible first | refine rG ?_ | (refine rS ?_ ?_ <;> intro hp) | (refine rB ?_ ?_ <;> intro hb <;> try rw [hb]) | refine rD ?_ | refine rA ?_ | fail) <;> try simp only [go_sem, simprocAttr]))
  refine call_dat h56 ?_
  (refine rO ?_; repeat' ((with_reducible first | refine rG ?_ | (refine rS ?_ ?_ <;> intro hp) | (refine rB ?_ ?_ <;> intro hb <;> try rw [hb]) | refine rD ?_ | refine rA ?_ | fail) <;> try simp only [go_sem, simprocAttr, hE]))
theorem right_var {h : List Ev} (hr : rightH h = true) : ∀ e ∈ h, 0 ≤ e.var ∧ e.var < 8 := by
 intro e he
 simp only [rightH, Bool.and_eq_true, List.all_eq_true] at hr
 have := hr.1.2 e he
 simp only [rightE, Bool.and_eq_true, decide_eq_true_eq, Bool.or_eq_true, beq_iff_eq] at this
 omega
theorem lastEv_mem (tx : Int) : ∀ (h : List Ev), lastEv h tx = ⟨0, 0, 0, 0⟩ ∨ lastEv h tx ∈ h := by
 have : ∀ (h : List Ev) (a : Ev), h.foldl (fun out e => if e.tx = tx then e else out) a = a ∨ h.foldl (fun out e => if e.tx = tx then e else out) a ∈ h := by
  intro h
  induction h with
  | nil => intro a; exact .inl rfl
  | cons e h ih =>
   intro a
   rw [List.foldl_cons]
   rcases ih (if e.tx = tx then e else a) with h1 | h1
   ·rw [h1]
    split
    ·exact .inr (by simp)
    ·exact .inl rfl
   ·exact .inr (List.mem_cons_of_mem _ h1)
 exact fun h => this h _
theorem opsTo_var {h : List Ev} (hr : rightH h = true) (tx : Int) : ∀ k, ∀ o ∈ opsTo h tx k, 0 ≤ o.var ∧ o.var < 8
 | 0, o, ho => by simp [opsTo] at ho
 | k + 1, o, ho => by
  have hv : 0 ≤ (lastEv (h.take k) tx).var ∧ (lastEv (h.take k) tx).var < 8 := by
   rcases lastEv_mem tx (h.take k) with h1 | h1
   ·rw [h1]; simp
   ·exact right_var hr _ (List.mem_of_mem_take h1)
  simp only [opsTo, List.mem_append] at ho
  rcases ho with h1 | h1
  ·exact opsTo_var hr tx k o h1
  ·split at h1
   ·split at h1
    ·rcases List.mem_append.1 h1 with h2 | h2
     ·split at h2
      ·simp only [List.mem_singleton] at h2; subst h2; exact hv
      ·cases h2
     ·split at h2
      ·simp only [List.mem_singleton] at h2; subst h2; exact hv
      ·cases h2
    ·cases h1
   ·cases h1
theorem txns_ops {h : List Ev} (h0 : checkE h = 0) : ∀ t ∈ txns h, OpsIn t.ops := by
 intro t ht
 have hr := right_of h0
 have h60 := check60 h0
 rw [← table_eq h0] at ht
 obtain ⟨n, hn, rfl⟩ := List.mem_map.1 ht
 have := opsTo_le h n h.length
 exact ⟨by simp only [refTxn]; omega, opsTo_var hr n h.length⟩
end Go.VC
end
section
set_option maxRecDepth 100000
namespace Go.VC
open Go.RowKit Go.Proofs Go.IntWalk
def opsAt (l : List Txn) (i : Int) : List Op := match l[i.toNat]? with
 | some t => t.ops
 | none => []
def memTo (l : List Txn) (C : Nat) (r : List Int) : Nat → List Int
 | 0 => [0, 0, 0, 0, 0, 0, 0, 0]
 | k + 1 => match r[k]? with
  | some i => if C.testBit i.toNat = true then withF (memTo l C r k) (opsAt l i) else memTo l C r k
  | none => memTo l C r k
theorem memTo_len (l : List Txn) (C : Nat) (r : List Int) : ∀ k, (memTo l C r k).length = 8
 | 0 => rfl
 | k + 1 => by
  have ih := memTo_len l C r k
  simp only [memTo]
  split
  ·split
   ·rw [withF_len, ih]
   ·exact ih
  ·exact ih
def legBad (l : List Txn) (C : Nat) (r : List Int) (k : Nat) : Bool := match r[k]? with
 | some i => decide (ownF (opsAt l i) (memTo l C r k) < (opsAt l i).length)
 | none => false
def legalN (l : List Txn) (C : Nat) (r : List Int) : Nat := firstB (legBad l C r) r.length
def legV (h : List Ev) (r : List Int) (C : Nat) : Int := if mayE h r = 0 then (legalN (txns h) C r : Int) else 0
theorem may_in {h : List Ev} {r : List Int} (h0 : mayE h r = 0) : checkE h = 0 ∧ r.all (inT (txns h).length) = true ∧ noDup r 0 = true := by
 unfold mayE at h0
 split at h0
 ·split at h0
  ·split at h0
   ·exact ⟨‹_›, ‹_›, ‹_›⟩
   ·cases h0
  ·cases h0
 ·exact absurd h0 ‹_›
theorem t48 (h : List Ev) (r : List Int) (C : Nat) (hC : C < 2 ^ 32) : Holds Tryz.prog GL 54 [evsA h, intsA r, U C] [.a (I (legV h r C)), .a (I (mayE h r))] := by
 refine fn_holds_is (vs := [.tmp 6, .tmp 7]) (by kernel_rfl) Tryz.func54 rfl rfl (by kernel_rfl) (by kernel_rfl) rfl fun his => ?_
 have hlen := his.2.1.len
 rw [List.length_map] at hlen
 have h83 := t83 h r
 have hm0 : memTo (txns h) C r 0 = [0, 0, 0, 0, 0, 0, 0, 0] := rfl
 by_cases hM : mayE h r = 0
 ·obtain ⟨hE, hin, _⟩ := may_in hM
  have hops := txns_ops hE
  have hl6 := txns_len6 h
  rw [hM, mayV, if_pos hM] at h83
  rw [hM, legV, if_pos hM]
  generalize txns h = l at *
  (refine rO ?_; repeat' ((with_reducible first | refine rG ?_ | (refine rS ?_ ?_ <;> intro hp) | (refine rB ?_ ?_ <;> intro hb <;> try rw [hb]) | refine rD ?_ | refine rA ?_ | fail) <;> try simp only [go_sem, simprocAttr]))
  refine call_dat h83 ?_
  (refine rO ?_; repeat' ((with_reducible first | refine rG ?_ | (refine rS ?_ ?_ <;> intro hp) | (refine rB ?_ ?_ <;> intro hb <;> try rw [hb]) | refine rD ?_ | refine rA ?_ | fail) <;> try simp only [go_sem, simprocAttr, List.length_map]))
  have hz : (List.map (fun d => R.a (.d d)) [dI 0, dI 0, dI 0, dI 0, dI 0, dI 0, dI 0, dI 0]) = memC (memTo l C r 0) := rfl
  refine awp_loopA (fun k : Nat => [(1, .a (intsA r)), (2, .a (U C)), (8, .a (txnsA l)), (10, .ref 10 0), (23, .a (intsA r)), (24, .a (I r.length)), (25, .a (I k))]) (fun k => [(10, .box (memC (memTo l C r k)))]) (fun k => k ≤ r.length ∧ ∀ i, i < k → legBad l C r i = false) (r.length - ·) 0 ?_ ?_ ⟨Nat.zero_le _, fun i hi => by omega⟩ ?_
  ·simp only [go_sem, simprocAttr, List.length_map]
  ·simp only [go_sem, simprocAttr, hm0]; try rfl
  intro k j ⟨hk, hq⟩
  (refine rO ?_; repeat' ((with_reducible first | refine rG ?_ | (refine rS ?_ ?_ <;> intro hp) | (refine rB ?_ ?_ <;> intro hb <;> try rw [hb]) | refine rD ?_ | refine rA ?_ | fail) <;> try simp only [go_sem, simprocAttr]))
  ·have hkl : k < r.length := by omega
   have hw := wrap_succ hkl hlen
   obtain ⟨x, hx, hxl⟩ := inT_iff.1 (List.all_eq_true.1 hin r[k] (List.getElem_mem hkl))
   have hy : r[k]? = some (x : Int) := by rw [List.getElem?_eq_getElem hkl, hx]
   have ht : l[x]? = some l[x] := List.getElem?_eq_getElem hxl
   have ho := hops _ (List.getElem_mem hxl)
   have hoa : opsAt l (x : Int) = l[x].ops := by simp only [opsAt, Int.toNat_natCast, ht]
   have hml := memTo_len l C r k
   have hb : legBad l C r k = decide (ownF l[x].ops (memTo l C r k) < l[x].ops.length) := by simp only [legBad, hy, hoa]
   have hs : memTo l C r (k + 1) = if C.testBit x = true then withF (memTo l C r k) l[x].ops else memTo l C r k := by simp only [memTo, hy, hoa, Int.toNat_natCast]
   generalize l[x] = t at ht ho hb hs
   generalize memTo l C r k = M at hml hb hs
   have hwl : (withF M t.ops).length = 8 := by rw [withF_len, hml]
   have hbit := u32_bit (k := x) hC
   have hspl := memC_spl (Z := M) (M := withF M t.ops) hml hwl
   generalize C.testBit x = cb at hbit hs
   cases cb with
   | true =>
    simp only [if_true] at hbit hs
    (refine rO ?_; repeat' ((with_reducible first | refine rG ?_ | (refine rS ?_ ?_ <;> intro hp) | (refine rB ?_ ?_ <;> intro hb <;> try rw [hb]) | refine rD ?_ | refine rA ?_ | fail) <;> try simp only [go_sem, simprocAttr, hy, ienc_eq, ht, Txn.enc_eq, hw, memC_kill, memC_len, hml, memC_take hml, memC_all, Nat.zero_add, List.drop_zero]))
    refine call_dat (t84 t.ops M ho hml) ?_
    (refine rO ?_; repeat' ((with_reducible first | refine rG ?_ | (refine rS ?_ ?_ <;> intro hp) | (refine rB ?_ ?_ <;> intro hb <;> try rw [hb]) | refine rD ?_ | refine rA ?_ | fail) <;> try simp only [go_sem, simprocAttr, List.length_map, u32_shr (b := C) (k := x) (by omega), hbit, memC_len, hml, memC_take hml, memC_all, Nat.zero_add, List.drop_zero]))
    ·rw [decide_eq_true (by omega)] at hb
     rw [legalN, firstB_hit hkl hq hb]
    ·rw [decide_eq_false (by omega)] at hb
     refine call_dat (t85 t.ops M ho hml) ?_
     (refine rO ?_; repeat' ((with_reducible first | refine rG ?_ | (refine rS ?_ ?_ <;> intro hp) | (refine rB ?_ ?_ <;> intro hb <;> try rw [hb]) | refine rD ?_ | refine rA ?_ | fail) <;> try simp only [go_sem, simprocAttr, memC_len, hml, hwl, memC_fold, hspl]))
     (refine ⟨k + 1, ?_, ?_, ⟨hkl, nx_none hq hb⟩, by dsimp only; omega⟩ <;> simp only [go_sem, simprocAttr, hw, hs, memC_kill])
   | false =>
    simp only [Bool.false_eq_true, if_false] at hbit hs
    (refine rO ?_; repeat' ((with_reducible first | refine rG ?_ | (refine rS ?_ ?_ <;> intro hp) | (refine rB ?_ ?_ <;> intro hb <;> try rw [hb]) | refine rD ?_ | refine rA ?_ | fail) <;> try simp only [go_sem, simprocAttr, hy, ienc_eq, ht, Txn.enc_eq, hw, memC_kill, memC_len, hml, memC_take hml, memC_all, Nat.zero_add, List.drop_zero]))
    refine call_dat (t84 t.ops M ho hml) ?_
    (refine rO ?_; repeat' ((with_reducible first | refine rG ?_ | (refine rS ?_ ?_ <;> intro hp) | (refine rB ?_ ?_ <;> intro hb <;> try rw [hb]) | refine rD ?_ | refine rA ?_ | fail) <;> try simp only [go_sem, simprocAttr, List.length_map, u32_shr (b := C) (k := x) (by omega), hbit, memC_len, hml, memC_take hml, memC_all, Nat.zero_add, List.drop_zero]))
    ·rw [decide_eq_true (by omega)] at hb
     rw [legalN, firstB_hit hkl hq hb]
    ·rw [decide_eq_false (by omega)] at hb
     (refine ⟨k + 1, ?_, ?_, ⟨hkl, nx_none hq hb⟩, by dsimp only; omega⟩ <;> simp only [go_sem, simprocAttr, hw, hs, memC_kill])
  ·have hN : legalN l C r = r.length := firstB_none (p := legBad l C r) (n := r.length) (fun i hi => hq i (by omega))
   rw [hN]
   (refine rO ?_; repeat' ((with_reducible first | refine rG ?_ | (refine rS ?_ ?_ <;> intro hp) | (refine rB ?_ ?_ <;> intro hb <;> try rw [hb]) | refine rD ?_ | refine rA ?_ | fail) <;> try simp only [go_sem, simprocAttr, List.length_map]))
 ·rw [mayV, if_neg hM] at h83
  rw [legV, if_neg hM]
  generalize mayE h r = c at *
  generalize txns h = T at *
  (refine rO ?_; repeat' ((with_reducible first | refine rG ?_ | (refine rS ?_ ?_ <;> intro hp) | (refine rB ?_ ?_ <;> intro hb <;> try rw [hb]) | refine rD ?_ | refine rA ?_ | fail) <;> try simp only [go_sem, simprocAttr]))
  refine call_dat h83 ?_
  (refine rO ?_; repeat' ((with_reducible first | refine rG ?_ | (refine rS ?_ ?_ <;> intro hp) | (refine rB ?_ ?_ <;> intro hb <;> try rw [hb]) | refine rD ?_ | refine rA ?_ | fail) <;> try simp only [go_sem, simprocAttr, hM]))
end Go.VC
end
