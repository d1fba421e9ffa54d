/- keeper.take: a transaction's keeper goes on with an event. -/
import Derived.Test.YtjmbgnncokeliaaDoorVTb
import Derived.Test.YtjmbgnncokeliaaDoorVG
import Derived.Test.YtjmbgnncokeliaaDoorVTl
set_option maxRecDepth 100000
set_option linter.unusedSimpArgs false
set_option linter.unusedVariables false
namespace Go.VC
open Go.RowKit Go.Proofs Go.IntWalk
structure Op where
  w : Bool
  var : Int
  val : Int
def Op.enc (o : Op) : List D := [dB o.w, dI o.var, dI o.val]
theorem Op.enc_eq (o : Op) : o.enc = [dB o.w, dI o.var, dI o.val] := rfl
theorem ops_len {l : List Op} : ∀ c ∈ l.map Op.enc, c.length = 3 := fun c hc => by
  obtain ⟨e, _, rfl⟩ := List.mem_map.1 hc; rfl
theorem ops_lenT {l : List Op} : (∀ c ∈ l.map Op.enc, c.length = 3) = True := eq_true ops_len
structure Kp where
  name : Int
  first : Int
  last : Int
  st : Int
  ops : List Op
  ask : Ev
def opsR (q : Nat) : List Op → R
  | [] => .cs []
  | _ :: _ => .own q
def Kp.cells (kp : Kp) (q : Nat) : List R := [.a (I kp.name), .a (I kp.first), .a (I kp.last), .a (I kp.st), opsR q kp.ops, .a (I kp.ask.kind), .a (I kp.ask.tx), .a (I kp.ask.var), .a (I kp.ask.val)]
/-- What an event does to a keeper. -/
def takeK (kp : Kp) (i : Int) (e : Ev) : Kp :=
  if e.kind = 2 ∨ e.kind = 4 then { kp with last := i, st := 0, ask := e }
  else if e.kind = 3 then { kp with last := i, st := 0, ops := kp.ops ++ [⟨false, kp.ask.var, e.val⟩] }
  else if e.kind = 5 then { kp with last := i, st := 0, ops := kp.ops ++ [⟨true, kp.ask.var, kp.ask.val⟩] }
  else { kp with last := i, st := if e.kind = 6 then 1 else if e.kind = 7 then 2 else if e.kind = 9 then 3 else 0 }
/-- Registers, objects that a call of take leaves as they are. -/
def FineR (q : Nat) (r : R) : Prop := r.up.down = r ∧ (r.kill q).up.down = r
def FineO (q : Nat) (x : Ob) : Prop := x.up.down = x ∧ (x.up.kill (upId q)).down = x ∧ ∀ a, a < 1000000 → (x.up.mv a (upId q)).down = x
theorem okill_lo {x : Ob} {d : Nat} (h : d < 1000000) : x.up.kill d = x.up := by
  cases x with
  | box cs =>
    simp only [Ob.up, Ob.kill, List.map_map]
    congr 1
    exact List.map_congr_left fun r _ => kill_up_lo h
  | log e z xs => rfl
  | mpo kv => rfl
  | iter kv seen => rfl
  | frame vs rs => simp only [Ob.up, Ob.kill]; congr 1; funext t; exact kill_up_lo h
  | sem x =>
    simp only [Ob.up, Ob.kill, SemOb.up]
    rw [any_up1 h]; rfl
  | lost => rfl
theorem okill_loT {x : Ob} {d : Nat} (h : decide (d < 1000000) = true) : x.up.kill d = x.up := okill_lo (of_decide_eq_true h)
def Ftk : List (List Nat) := [[0, 1, 2, 3, 4, 5], [0, 1, 2, 3, 4, 5], [0], []]
/-- What a call of take leaves behind. -/
structure TkEnd (vs : List Value) (σ τ : S) (o q : Nat) (kp : Kp) : Prop where
  fr : ∃ reg, τ.mem 999999 = some (.frame vs (upF reg)) ∧ ∀ t, FineR q (σ.regs t) → (reg t).up.down = σ.regs t
  bx : (τ.mem (upId o)).map Ob.down = some (.box (kp.cells q))
  rw_ : kp.ops ≠ [] → (τ.mem (upId q)).map Ob.down = some (.log 89 3 (kp.ops.map Op.enc))
  oth : ∀ o' x, (o' == o) = false → (o' == q) = false → decide (o' < 999000000) = true → σ.mem o' = some x → FineO q x → (τ.mem (upId o')).map Ob.down = some x
def TkK (σ : S) (o q : Nat) (kp : Kp) (K : S → List R → Prop) : Prop :=
  ∀ σ' : S, (∀ t, FineR q (σ.regs t) → σ'.regs t = σ.regs t) → σ'.mem o = some (.box (kp.cells q)) → (kp.ops ≠ [] → σ'.mem q = some (.log 89 3 (kp.ops.map Op.enc))) →
      (∀ o' x, (o' == o) = false → (o' == q) = false → decide (o' < 999000000) = true → σ.mem o' = some x → FineO q x → σ'.mem o' = some x) → K σ' []
theorem take_fin {vs : List Value} {σ τ τ' : S} {o q : Nat} {kp : Kp} {K : S → List R → Prop} (ho : decide (o < 999000000) = true) (hq : decide (q < 999000000) = true) (hg : Ghost τ τ') (h : TkEnd vs σ τ' o q kp) (hk : TkK σ o q kp K) : postG vs [] K .normal τ := by
  obtain ⟨reg, hf, hr⟩ := h.fr
  refine ⟨τ', hg, by rw [hf]; rfl, hk τ'.leave (fun t ht => ?_) ?_ (fun hn => ?_) fun o' x h1 h2 h3 hx hfx => ?_⟩
  · rw [lv_r, hf]; exact hr t ht
  · rw [lv_m ho]; exact h.bx
  · rw [lv_m hq]; exact h.rw_ hn
  · rw [lv_m h3]; exact h.oth o' x h1 h2 h3 hx hfx
theorem take_inl {σ : S} {o q : Nat} {i : Int} {e : Ev} {kp : Kp} {K : S → List R → Prop} (ho : decide (o < 999000000) = true) (hq : decide (q < 999000000) = true) (hoq : (o == q) = false) (hqo : (q == o) = false)
    (hm : σ.mem o = some (.box (kp.cells q))) (hm2 : kp.ops ≠ [] → σ.mem q = some (.log 89 3 (kp.ops.map Op.enc))) (hlen : kp.ops.length ≤ 1000)
    (hk : TkK σ o q (takeK kp i e) K) : Inl Tryd.prog GL 90 [.ref o 0, .a (I i), .a e.a] σ K := by
  refine inl_bodyG (by kernel_rfl) Tryd.func90 rfl rfl (by kernel_rfl) (by kernel_rfl) rfl fun vs => ?_
  have hO : decide (upId o < 1000000000) = true := up_lt ho
  have hQ : decide (upId q < 1000000000) = true := up_lt hq
  rcases hops : kp.ops with _ | ⟨op0, ops⟩
  · simp only [Kp.cells, hops, opsR] at hm
    (refine of_gate ?_; repeat' ((first | (with_reducible refine gate_in ?_) | (with_reducible refine spK_intro ?_ ?_ <;> intro hp) | (with_reducible refine brK_intro ?_ ?_ <;> intro hb <;> try rw [hb]) | (with_reducible refine draw_in (by unfold DrawOk; decide +kernel) ?_) | (with_reducible refine draw_F Ftk (by decide +kernel) ?_)) <;> try simp only [↓PR, PO, PC, PX, tyI, tyF, tyX, tyL, tyK, tyB, tyE, tyM, tyP, tyQ, Nat.reduceBEq, Nat.reduceAdd, Nat.reduceMul, Nat.reduceSub, Nat.reduceLeDiff, Nat.reduceEqDiff, Nat.reduceLT, Nat.reducePow, Nat.reduceBneDiff, Nat.reduceBNe, Int.reduceBEq, Int.reduceEq, Int.reduceLT, Int.reduceLE, Int.reduceToNat, String.reduceBEq, PI, PG, Ftk, ho, hq, hO, hQ, hoq, hqo, hm]))
    all_goals first
      | (refine take_fin ho hq (Ghost.refl _) ⟨⟨σ.regs, ?_, fun t h => h.1⟩, ?_, ?_, ?_⟩ hk
         · simp only [↓PR, PO, PC, PX, tyI, tyF, tyX, tyL, tyK, tyB, tyE, tyM, tyP, tyQ, Nat.reduceBEq, Nat.reduceAdd, Nat.reduceMul, Nat.reduceSub, Nat.reduceLeDiff, Nat.reduceEqDiff, Nat.reduceLT, Nat.reducePow, Nat.reduceBneDiff, Nat.reduceBNe, Int.reduceBEq, Int.reduceEq, Int.reduceLT, Int.reduceLE, Int.reduceToNat, String.reduceBEq, PI, ho, hq, hO, hQ, hoq, hqo, hm]
         · have hT : (takeK kp i e).ops = [] := by unfold takeK; simp [*]
           simp only [↓PR, PO, PC, PX, tyI, tyF, tyX, tyL, tyK, tyB, tyE, tyM, tyP, tyQ, Nat.reduceBEq, Nat.reduceAdd, Nat.reduceMul, Nat.reduceSub, Nat.reduceLeDiff, Nat.reduceEqDiff, Nat.reduceLT, Nat.reducePow, Nat.reduceBneDiff, Nat.reduceBNe, Int.reduceBEq, Int.reduceEq, Int.reduceLT, Int.reduceLE, Int.reduceToNat, String.reduceBEq, PI, ho, hq, hO, hQ, hoq, hqo, hm, Ob.down, R.down, Kp.cells, hT, opsR]
           unfold takeK; simp [*, upId_le, upId_sub]; try rfl
         · intro hn
           exact absurd (show (takeK kp i e).ops = [] by unfold takeK; simp [*]) hn
         · intro o' x h1 h2 h3 hx hf
           have hu : (upId o == upId o') = false := by rw [up_up, BEq.comm]; exact h1
           have hv : (upId q == upId o') = false := by rw [up_up, BEq.comm]; exact h2
           simp only [↓PR, PO, PC, PX, tyI, tyF, tyX, tyL, tyK, tyB, tyE, tyM, tyP, tyQ, Nat.reduceBEq, Nat.reduceAdd, Nat.reduceMul, Nat.reduceSub, Nat.reduceLeDiff, Nat.reduceEqDiff, Nat.reduceLT, Nat.reducePow, Nat.reduceBneDiff, Nat.reduceBNe, Int.reduceBEq, Int.reduceEq, Int.reduceLT, Int.reduceLE, Int.reduceToNat, String.reduceBEq, PI, ho, hq, hO, hQ, hoq, hqo, hm, hu, hv, h3, hx, okill_loT]
           exact hf.1)
      | skip
    · have hT : (takeK kp i e).ops = [⟨false, kp.ask.var, e.val⟩] := by unfold takeK; simp [*]
      refine ⟨by simp, ?_⟩
      refine take_fin ho hq (g_mv (a := 41) (b := upId q) (by omega) (by have := upId_le q; omega)) ⟨⟨killR q σ.regs, ?_, fun t h => h.2⟩, ?_, ?_, ?_⟩ hk
      · simp only [↓PR, PO, PC, PX, tyI, tyF, tyX, tyL, tyK, tyB, tyE, tyM, tyP, tyQ, Nat.reduceBEq, Nat.reduceAdd, Nat.reduceMul, Nat.reduceSub, Nat.reduceLeDiff, Nat.reduceEqDiff, Nat.reduceLT, Nat.reducePow, Nat.reduceBneDiff, Nat.reduceBNe, Int.reduceBEq, Int.reduceEq, Int.reduceLT, Int.reduceLE, Int.reduceToNat, String.reduceBEq, PI, PM, ho, hq, hO, hQ, hoq, hqo, hm]
      · simp only [↓PR, PO, PC, PX, tyI, tyF, tyX, tyL, tyK, tyB, tyE, tyM, tyP, tyQ, Nat.reduceBEq, Nat.reduceAdd, Nat.reduceMul, Nat.reduceSub, Nat.reduceLeDiff, Nat.reduceEqDiff, Nat.reduceLT, Nat.reducePow, Nat.reduceBneDiff, Nat.reduceBNe, Int.reduceBEq, Int.reduceEq, Int.reduceLT, Int.reduceLE, Int.reduceToNat, String.reduceBEq, PI, PM, ho, hq, hO, hQ, hoq, hqo, hm, Ob.down, R.down, Kp.cells, hT, opsR]
        unfold takeK; simp [*, upId_le, upId_sub]; try rfl
      · intro hn
        rw [hT]
        simp only [↓PR, PO, PC, PX, tyI, tyF, tyX, tyL, tyK, tyB, tyE, tyM, tyP, tyQ, Nat.reduceBEq, Nat.reduceAdd, Nat.reduceMul, Nat.reduceSub, Nat.reduceLeDiff, Nat.reduceEqDiff, Nat.reduceLT, Nat.reducePow, Nat.reduceBneDiff, Nat.reduceBNe, Int.reduceBEq, Int.reduceEq, Int.reduceLT, Int.reduceLE, Int.reduceToNat, String.reduceBEq, PI, PM, ho, hq, hO, hQ, hoq, hqo, hm, Ob.down, R.down, Kp.cells, hT, opsR]
        try rfl
      · intro o' x h1 h2 h3 hx hf
        have hu : (upId o == upId o') = false := by rw [up_up, BEq.comm]; exact h1
        have hv : (upId q == upId o') = false := by rw [up_up, BEq.comm]; exact h2
        have hv' : (upId o' == upId q) = false := by rw [up_up]; exact h2
        simp only [↓PR, PO, PC, PX, tyI, tyF, tyX, tyL, tyK, tyB, tyE, tyM, tyP, tyQ, Nat.reduceBEq, Nat.reduceAdd, Nat.reduceMul, Nat.reduceSub, Nat.reduceLeDiff, Nat.reduceEqDiff, Nat.reduceLT, Nat.reducePow, Nat.reduceBneDiff, Nat.reduceBNe, Int.reduceBEq, Int.reduceEq, Int.reduceLT, Int.reduceLE, Int.reduceToNat, String.reduceBEq, PI, PM, ho, hq, hO, hQ, hoq, hqo, hm, hu, hv, hv', h3, hx, okill_loT]
        exact (hf.2.2 41 (by omega))
    · have hT : (takeK kp i e).ops = [⟨true, kp.ask.var, kp.ask.val⟩] := by unfold takeK; simp [*]
      refine ⟨by simp, ?_⟩
      refine take_fin ho hq (g_mv (a := 65) (b := upId q) (by omega) (by have := upId_le q; omega)) ⟨⟨killR q σ.regs, ?_, fun t h => h.2⟩, ?_, ?_, ?_⟩ hk
      · simp only [↓PR, PO, PC, PX, tyI, tyF, tyX, tyL, tyK, tyB, tyE, tyM, tyP, tyQ, Nat.reduceBEq, Nat.reduceAdd, Nat.reduceMul, Nat.reduceSub, Nat.reduceLeDiff, Nat.reduceEqDiff, Nat.reduceLT, Nat.reducePow, Nat.reduceBneDiff, Nat.reduceBNe, Int.reduceBEq, Int.reduceEq, Int.reduceLT, Int.reduceLE, Int.reduceToNat, String.reduceBEq, PI, PM, ho, hq, hO, hQ, hoq, hqo, hm]
      · simp only [↓PR, PO, PC, PX, tyI, tyF, tyX, tyL, tyK, tyB, tyE, tyM, tyP, tyQ, Nat.reduceBEq, Nat.reduceAdd, Nat.reduceMul, Nat.reduceSub, Nat.reduceLeDiff, Nat.reduceEqDiff, Nat.reduceLT, Nat.reducePow, Nat.reduceBneDiff, Nat.reduceBNe, Int.reduceBEq, Int.reduceEq, Int.reduceLT, Int.reduceLE, Int.reduceToNat, String.reduceBEq, PI, PM, ho, hq, hO, hQ, hoq, hqo, hm, Ob.down, R.down, Kp.cells, hT, opsR]
        unfold takeK; simp [*, upId_le, upId_sub]; try rfl
      · intro hn
        rw [hT]
        simp only [↓PR, PO, PC, PX, tyI, tyF, tyX, tyL, tyK, tyB, tyE, tyM, tyP, tyQ, Nat.reduceBEq, Nat.reduceAdd, Nat.reduceMul, Nat.reduceSub, Nat.reduceLeDiff, Nat.reduceEqDiff, Nat.reduceLT, Nat.reducePow, Nat.reduceBneDiff, Nat.reduceBNe, Int.reduceBEq, Int.reduceEq, Int.reduceLT, Int.reduceLE, Int.reduceToNat, String.reduceBEq, PI, PM, ho, hq, hO, hQ, hoq, hqo, hm, Ob.down, R.down, Kp.cells, hT, opsR]
        try rfl
      · intro o' x h1 h2 h3 hx hf
        have hu : (upId o == upId o') = false := by rw [up_up, BEq.comm]; exact h1
        have hv : (upId q == upId o') = false := by rw [up_up, BEq.comm]; exact h2
        have hv' : (upId o' == upId q) = false := by rw [up_up]; exact h2
        simp only [↓PR, PO, PC, PX, tyI, tyF, tyX, tyL, tyK, tyB, tyE, tyM, tyP, tyQ, Nat.reduceBEq, Nat.reduceAdd, Nat.reduceMul, Nat.reduceSub, Nat.reduceLeDiff, Nat.reduceEqDiff, Nat.reduceLT, Nat.reducePow, Nat.reduceBneDiff, Nat.reduceBNe, Int.reduceBEq, Int.reduceEq, Int.reduceLT, Int.reduceLE, Int.reduceToNat, String.reduceBEq, PI, PM, ho, hq, hO, hQ, hoq, hqo, hm, hu, hv, hv', h3, hx, okill_loT]
        exact (hf.2.2 65 (by omega))
  · have hm2 := hm2 (by rw [hops]; simp)
    simp only [Kp.cells, hops, opsR] at hm hm2 hlen
    have hl3 : ∀ c ∈ op0.enc :: ops.map Op.enc, c.length = 3 := ops_len (l := op0 :: ops)
    have hlb : (ops.length + 1 + 1) * 24 ≤ 140737488355328 := by simp at hlen; omega
    (refine of_gate ?_; repeat' ((first | (with_reducible refine gate_in ?_) | (with_reducible refine spK_intro ?_ ?_ <;> intro hp) | (with_reducible refine brK_intro ?_ ?_ <;> intro hb <;> try rw [hb]) | (with_reducible refine draw_in (by unfold DrawOk; decide +kernel) ?_) | (with_reducible refine draw_F Ftk (by decide +kernel) ?_)) <;> try simp only [↓PR, PO, PC, PX, tyI, tyF, tyX, tyL, tyK, tyB, tyE, tyM, tyP, tyQ, Nat.reduceBEq, Nat.reduceAdd, Nat.reduceMul, Nat.reduceSub, Nat.reduceLeDiff, Nat.reduceEqDiff, Nat.reduceLT, Nat.reducePow, Nat.reduceBneDiff, Nat.reduceBNe, Int.reduceBEq, Int.reduceEq, Int.reduceLT, Int.reduceLE, Int.reduceToNat, String.reduceBEq, PI, PG, Ftk, ho, hq, hO, hQ, hoq, hqo, hm, hm2, ops_lenT]))
    all_goals first
      | (refine take_fin ho hq (Ghost.refl _) ⟨⟨σ.regs, ?_, fun t h => h.1⟩, ?_, ?_, ?_⟩ hk
         · simp only [↓PR, PO, PC, PX, tyI, tyF, tyX, tyL, tyK, tyB, tyE, tyM, tyP, tyQ, Nat.reduceBEq, Nat.reduceAdd, Nat.reduceMul, Nat.reduceSub, Nat.reduceLeDiff, Nat.reduceEqDiff, Nat.reduceLT, Nat.reducePow, Nat.reduceBneDiff, Nat.reduceBNe, Int.reduceBEq, Int.reduceEq, Int.reduceLT, Int.reduceLE, Int.reduceToNat, String.reduceBEq, PI, ho, hq, hO, hQ, hoq, hqo, hm]
         · have hT : (takeK kp i e).ops = op0 :: ops := by unfold takeK; simp [*]
           simp only [↓PR, PO, PC, PX, tyI, tyF, tyX, tyL, tyK, tyB, tyE, tyM, tyP, tyQ, Nat.reduceBEq, Nat.reduceAdd, Nat.reduceMul, Nat.reduceSub, Nat.reduceLeDiff, Nat.reduceEqDiff, Nat.reduceLT, Nat.reducePow, Nat.reduceBneDiff, Nat.reduceBNe, Int.reduceBEq, Int.reduceEq, Int.reduceLT, Int.reduceLE, Int.reduceToNat, String.reduceBEq, PI, ho, hq, hO, hQ, hoq, hqo, hm, Ob.down, R.down, Kp.cells, hT, opsR]
           unfold takeK; simp [*, upId_le, upId_sub]; try rfl
         · intro hn
           rw [show (takeK kp i e).ops = op0 :: ops by unfold takeK; simp [*]]
           simp only [↓PR, PO, PC, PX, tyI, tyF, tyX, tyL, tyK, tyB, tyE, tyM, tyP, tyQ, Nat.reduceBEq, Nat.reduceAdd, Nat.reduceMul, Nat.reduceSub, Nat.reduceLeDiff, Nat.reduceEqDiff, Nat.reduceLT, Nat.reducePow, Nat.reduceBneDiff, Nat.reduceBNe, Int.reduceBEq, Int.reduceEq, Int.reduceLT, Int.reduceLE, Int.reduceToNat, String.reduceBEq, PI, ho, hq, hO, hQ, hoq, hqo, hm, hm2, Ob.down]
         · intro o' x h1 h2 h3 hx hf
           have hu : (upId o == upId o') = false := by rw [up_up, BEq.comm]; exact h1
           have hv : (upId q == upId o') = false := by rw [up_up, BEq.comm]; exact h2
           simp only [↓PR, PO, PC, PX, tyI, tyF, tyX, tyL, tyK, tyB, tyE, tyM, tyP, tyQ, Nat.reduceBEq, Nat.reduceAdd, Nat.reduceMul, Nat.reduceSub, Nat.reduceLeDiff, Nat.reduceEqDiff, Nat.reduceLT, Nat.reducePow, Nat.reduceBneDiff, Nat.reduceBNe, Int.reduceBEq, Int.reduceEq, Int.reduceLT, Int.reduceLE, Int.reduceToNat, String.reduceBEq, PI, ho, hq, hO, hQ, hoq, hqo, hm, hu, hv, h3, hx, okill_loT]
           exact hf.1)
      | skip
    · have hT : (takeK kp i e).ops = op0 :: ops ++ [⟨false, kp.ask.var, e.val⟩] := by unfold takeK; simp [*]
      refine ⟨by rw [List.length_map]; exact hlb, ?_⟩
      refine take_fin ho hq (Ghost.refl _) ⟨⟨killR q σ.regs, ?_, fun t h => h.2⟩, ?_, ?_, ?_⟩ hk
      · simp only [↓PR, PO, PC, PX, tyI, tyF, tyX, tyL, tyK, tyB, tyE, tyM, tyP, tyQ, Nat.reduceBEq, Nat.reduceAdd, Nat.reduceMul, Nat.reduceSub, Nat.reduceLeDiff, Nat.reduceEqDiff, Nat.reduceLT, Nat.reducePow, Nat.reduceBneDiff, Nat.reduceBNe, Int.reduceBEq, Int.reduceEq, Int.reduceLT, Int.reduceLE, Int.reduceToNat, String.reduceBEq, PI, ho, hq, hO, hQ, hoq, hqo, hm, hm2]
      · simp only [↓PR, PO, PC, PX, tyI, tyF, tyX, tyL, tyK, tyB, tyE, tyM, tyP, tyQ, Nat.reduceBEq, Nat.reduceAdd, Nat.reduceMul, Nat.reduceSub, Nat.reduceLeDiff, Nat.reduceEqDiff, Nat.reduceLT, Nat.reducePow, Nat.reduceBneDiff, Nat.reduceBNe, Int.reduceBEq, Int.reduceEq, Int.reduceLT, Int.reduceLE, Int.reduceToNat, String.reduceBEq, PI, ho, hq, hO, hQ, hoq, hqo, hm, hm2, Ob.down, R.down, Kp.cells, hT, opsR]
        unfold takeK; simp [*, upId_le, upId_sub]; try rfl
      · intro hn
        rw [hT]
        simp only [↓PR, PO, PC, PX, tyI, tyF, tyX, tyL, tyK, tyB, tyE, tyM, tyP, tyQ, Nat.reduceBEq, Nat.reduceAdd, Nat.reduceMul, Nat.reduceSub, Nat.reduceLeDiff, Nat.reduceEqDiff, Nat.reduceLT, Nat.reducePow, Nat.reduceBneDiff, Nat.reduceBNe, Int.reduceBEq, Int.reduceEq, Int.reduceLT, Int.reduceLE, Int.reduceToNat, String.reduceBEq, PI, ho, hq, hO, hQ, hoq, hqo, hm, hm2, Ob.down]
        rw [List.map_append]
        rfl
      · intro o' x h1 h2 h3 hx hf
        have hu : (upId o == upId o') = false := by rw [up_up, BEq.comm]; exact h1
        have hv : (upId q == upId o') = false := by rw [up_up, BEq.comm]; exact h2
        have hv' : (upId o' == upId q) = false := by rw [up_up]; exact h2
        simp only [↓PR, PO, PC, PX, tyI, tyF, tyX, tyL, tyK, tyB, tyE, tyM, tyP, tyQ, Nat.reduceBEq, Nat.reduceAdd, Nat.reduceMul, Nat.reduceSub, Nat.reduceLeDiff, Nat.reduceEqDiff, Nat.reduceLT, Nat.reducePow, Nat.reduceBneDiff, Nat.reduceBNe, Int.reduceBEq, Int.reduceEq, Int.reduceLT, Int.reduceLE, Int.reduceToNat, String.reduceBEq, PI, ho, hq, hO, hQ, hoq, hqo, hm, hm2, hu, hv, hv', h3, hx, okill_loT]
        exact hf.2.1
    · have hT : (takeK kp i e).ops = op0 :: ops ++ [⟨true, kp.ask.var, kp.ask.val⟩] := by unfold takeK; simp [*]
      refine ⟨by rw [List.length_map]; exact hlb, ?_⟩
      refine take_fin ho hq (Ghost.refl _) ⟨⟨killR q σ.regs, ?_, fun t h => h.2⟩, ?_, ?_, ?_⟩ hk
      · simp only [↓PR, PO, PC, PX, tyI, tyF, tyX, tyL, tyK, tyB, tyE, tyM, tyP, tyQ, Nat.reduceBEq, Nat.reduceAdd, Nat.reduceMul, Nat.reduceSub, Nat.reduceLeDiff, Nat.reduceEqDiff, Nat.reduceLT, Nat.reducePow, Nat.reduceBneDiff, Nat.reduceBNe, Int.reduceBEq, Int.reduceEq, Int.reduceLT, Int.reduceLE, Int.reduceToNat, String.reduceBEq, PI, ho, hq, hO, hQ, hoq, hqo, hm, hm2]
      · simp only [↓PR, PO, PC, PX, tyI, tyF, tyX, tyL, tyK, tyB, tyE, tyM, tyP, tyQ, Nat.reduceBEq, Nat.reduceAdd, Nat.reduceMul, Nat.reduceSub, Nat.reduceLeDiff, Nat.reduceEqDiff, Nat.reduceLT, Nat.reducePow, Nat.reduceBneDiff, Nat.reduceBNe, Int.reduceBEq, Int.reduceEq, Int.reduceLT, Int.reduceLE, Int.reduceToNat, String.reduceBEq, PI, ho, hq, hO, hQ, hoq, hqo, hm, hm2, Ob.down, R.down, Kp.cells, hT, opsR]
        unfold takeK; simp [*, upId_le, upId_sub]; try rfl
      · intro hn
        rw [hT]
        simp only [↓PR, PO, PC, PX, tyI, tyF, tyX, tyL, tyK, tyB, tyE, tyM, tyP, tyQ, Nat.reduceBEq, Nat.reduceAdd, Nat.reduceMul, Nat.reduceSub, Nat.reduceLeDiff, Nat.reduceEqDiff, Nat.reduceLT, Nat.reducePow, Nat.reduceBneDiff, Nat.reduceBNe, Int.reduceBEq, Int.reduceEq, Int.reduceLT, Int.reduceLE, Int.reduceToNat, String.reduceBEq, PI, ho, hq, hO, hQ, hoq, hqo, hm, hm2, Ob.down]
        rw [List.map_append]
        rfl
      · intro o' x h1 h2 h3 hx hf
        have hu : (upId o == upId o') = false := by rw [up_up, BEq.comm]; exact h1
        have hv : (upId q == upId o') = false := by rw [up_up, BEq.comm]; exact h2
        have hv' : (upId o' == upId q) = false := by rw [up_up]; exact h2
        simp only [↓PR, PO, PC, PX, tyI, tyF, tyX, tyL, tyK, tyB, tyE, tyM, tyP, tyQ, Nat.reduceBEq, Nat.reduceAdd, Nat.reduceMul, Nat.reduceSub, Nat.reduceLeDiff, Nat.reduceEqDiff, Nat.reduceLT, Nat.reducePow, Nat.reduceBneDiff, Nat.reduceBNe, Int.reduceBEq, Int.reduceEq, Int.reduceLT, Int.reduceLE, Int.reduceToNat, String.reduceBEq, PI, ho, hq, hO, hQ, hoq, hqo, hm, hm2, hu, hv, hv', h3, hx, okill_loT]
        exact hf.2.1
end Go.VC
