/- Rules that run the abstract machine by 'simp only': every one tells one step, and nothing of the code that is still to come is looked at. -/
import Derived.Test.YtjmbgnncokeliaaDoorVV
set_option linter.unusedVariables false
set_option linter.unusedSimpArgs false
set_option linter.defProp false
namespace Go.VC
open Go.RowKit

/-- A word that every look rewrites: so 'simp' holds a step to be taken where nothing has changed, and stays out of what is still to come. -/
def tick : Bool := true
theorem tick_eq : tick = true := by unfold tick; exact Eq.trans rfl rfl
def mat {α : Type} (x : Option α) (K : α → Prop) : Prop := match x with
  | some y => K y
  | none => False
theorem mat_congr {α : Type} {x x' : Option α} {K : α → Prop} {tk0 : Bool} (hT : tick = tk0) (h : x = x') : mat x K = mat x' K := by rw [h]
theorem mat_some {α : Type} {x : α} {K : α → Prop} : mat (some x) K = K x := rfl
theorem mat_none {α : Type} {K : α → Prop} : mat none K = False := rfl
theorem fc_go {r : R} {K : R → Prop} : fc r K = K r := rfl
theorem fc_congr {r r' : R} {K : R → Prop} {tk0 : Bool} (hT : tick = tk0) (h : r = r') : fc r K = fc r' K := by rw [h]
theorem brK_congr {b b' : Bool} {X Y : Prop} {tk0 : Bool} (hT : tick = tk0) (h : b = b') : brK b X Y = brK b' X Y := by rw [h]
theorem brK_true {X Y : Prop} : brK true X Y = X := by simp [brK]
theorem brK_false {X Y : Prop} : brK false X Y = Y := by simp [brK]
/-- A question that parts the ways. -/
def spK (p : Prop) (K : Bool → Prop) : Prop := (p → K true) ∧ (¬ p → K false)
theorem spK_intro {p : Prop} {K : Bool → Prop} (h : p → K true) (k : ¬ p → K false) : spK p K := ⟨h, k⟩
theorem spK_eq {p : Prop} [Decidable p] {K : Bool → Prop} : K (decide p) = spK p K := by
  by_cases h : p <;> simp [spK, h]
theorem spK_congr {p p' : Prop} {K : Bool → Prop} {tk0 : Bool} (hT : tick = tk0) (h : p = p') : spK p K = spK p' K := by rw [h]
theorem spK_true {K : Bool → Prop} : spK True K = K true := by simp [spK]
theorem spK_false {K : Bool → Prop} : spK False K = K false := by simp [spK]
theorem brK_intro {b : Bool} {X Y : Prop} (h : b = true → X) (k : b = false → Y) : brK b X Y := ⟨h, k⟩
/-- Stops at loops, with what is behind them left alone. -/
theorem awp_congr {P : Program} {gl : Nat → Option (List D)} {c : Code} {Q : Ex → S → Prop} {σ : S} {tk0 : Bool} (hT : tick = tk0) : awp P gl c Q σ = awp P gl c Q σ := rfl
attribute [congr] spK_congr mat_congr fc_congr brK_congr awp_congr
/-- A choice by a closed fact. -/
def inG (q : Bool) (X Y : Prop) : Prop := cond q X Y
theorem inG_congr {q q' : Bool} {X Y : Prop} {tk0 : Bool} (hT : tick = tk0) (h : q = q') : inG q X Y = inG q' X Y := by rw [h]
attribute [congr] inG_congr
theorem in_t {X Y : Prop} : inG true X Y = X := rfl
theorem in_f {X Y : Prop} : inG false X Y = Y := rfl
def pair2 {α β : Type} (x : Option α) (y : Option β) : Option (α × β) := match x, y with
  | some a, some b => some (a, b)
  | _, _ => none

section
variable {P : Program} {gl : Nat → Option (List D)} {σ : S} {Q : Ex → S → Prop} {K : S → Prop} {KR : R → Prop}

/-! ### Code -/
theorem w_skip : awp P gl .skip Q σ = Q .normal σ := rfl
theorem w_label {l : Nat} : awp P gl (.label l) Q σ = Q .normal σ := rfl
theorem w_exit {id : Nat} : awp P gl (.exit id) Q σ = Q (.exit id) σ := rfl
theorem w_ret : awp P gl .ret Q σ = Q .ret σ := rfl
theorem w_seq {a b : Code} : awp P gl (.seq a b) Q σ = awp P gl a (Ex.then (awp P gl b Q) Q) σ := rfl
def condK (r : R) (X Y : Prop) : Prop := match r with
  | .a (.d (.v (.bool b))) => brK b X Y
  | _ => False
theorem condK_congr {r r' : R} {X Y : Prop} {tk0 : Bool} (hT : tick = tk0) (h : r = r') : condK r X Y = condK r' X Y := by rw [h]
attribute [congr] condK_congr
theorem condK_bool {b : Bool} {X Y : Prop} : condK (.a (.d (.v (.bool b)))) X Y = brK b X Y := rfl
theorem w_cond {c : Operand} {x y : Code} : awp P gl (.cond c x y) Q σ = condK (σ.eval gl c) (awp P gl x Q σ) (awp P gl y Q σ) := by
  simp only [awp, condK]
  generalize σ.eval gl c = r
  rcases r with _ | ((v | _ | _ | _ | _) | _) | _ | _ | _ | _ | _ | _ | _ <;> try rfl
theorem w_block {id : Nat} {c : Code} : awp P gl (.block id c) Q σ = awp P gl c (Ex.inBlock id Q) σ := rfl
theorem w_scope {c : Code} : awp P gl (.scope c) Q σ = awp P gl c Q σ := rfl
theorem w_region {id : Nat} {l : List Oper} : awp P gl (.region id l.toArray false) Q σ = opsA P gl l.toArray l σ (Q .normal) := rfl
/-- A region that draws its order: quiet operations first; or told otherwise. -/
def drawK (ops : Array Oper) (X Y : Prop) : Prop := (DrawOk ops ∧ X) ∨ Y
theorem draw_in {ops : Array Oper} {X Y : Prop} (h : DrawOk ops) (x : X) : drawK ops X Y := .inl ⟨h, x⟩
theorem draw_sem {ops : Array Oper} {X Y : Prop} (y : Y) : drawK ops X Y := .inr y
theorem drawK_congr {ops : Array Oper} {X Y : Prop} {tk0 : Bool} (hT : tick = tk0) : drawK ops X Y = drawK ops X Y := rfl
attribute [congr] drawK_congr
theorem w_draw {id : Nat} {l : List Oper} : awp P gl (.region id l.toArray true) Q σ = drawK l.toArray (opsQ P gl l.toArray l σ (Q .normal)) (SemCode P gl (.region id l.toArray true) Q σ) := rfl
theorem e_then_n {next : S → Prop} : Ex.then next Q .normal σ = next σ := rfl
theorem e_then_e {next : S → Prop} {id : Nat} : Ex.then next Q (.exit id) σ = Q (.exit id) σ := rfl
theorem e_then_r {next : S → Prop} : Ex.then next Q .ret σ = Q .ret σ := rfl
theorem e_blk_n {id : Nat} : Ex.inBlock id Q .normal σ = Q .normal σ := rfl
theorem e_blk_r {id : Nat} : Ex.inBlock id Q .ret σ = Q .ret σ := rfl
theorem e_blk_same {id : Nat} : Ex.inBlock id Q (.exit id) σ = Q .normal σ := by simp [Ex.inBlock]
theorem e_blk_ne {id id' : Nat} (h : (id' == id) = false) : Ex.inBlock id Q (.exit id') σ = Q (.exit id') σ := by
  have : id' ≠ id := by simpa using h
  simp [Ex.inBlock, this]

/-! ### Registers and objects -/
theorem r_put_eq {d : Nat} {r : R} : (S.put σ (some d) r).regs d = r := by simp [S.put, upd]
theorem r_put_ne {d t : Nat} {r : R} (h : (d == t) = false) : (S.put σ (some d) r).regs t = σ.regs t := by
  have : t ≠ d := fun e => by simp [e] at h
  simp [S.put, upd, this]
theorem r_put_none {r : R} : S.put σ none r = σ := rfl
theorem m_put {d : Option Nat} {r : R} {o : Nat} : (S.put σ d r).mem o = σ.mem o := by cases d <;> rfl
theorem r_new {o t : Nat} {x : Ob} : (S.newOb σ o x).regs t = (σ.regs t).kill o := rfl
theorem m_new_eq {o : Nat} {x : Ob} : (S.newOb σ o x).mem o = some x := by simp [S.newOb, upd]
theorem m_new_ne {o o' : Nat} {x : Ob} (h : (o == o') = false) : (S.newOb σ o x).mem o' = (σ.mem o').map (Ob.kill o) := by
  have : o' ≠ o := fun e => by simp [e] at h
  simp [S.newOb, upd, this]
theorem r_set {o t : Nat} {x : Ob} : (S.setOb σ o x).regs t = σ.regs t := rfl
theorem m_set_eq {o : Nat} {x : Ob} : (S.setOb σ o x).mem o = some x := by simp [S.setOb, upd]
theorem m_set_ne {o o' : Nat} {x : Ob} (h : (o == o') = false) : (S.setOb σ o x).mem o' = σ.mem o' := by
  have : o' ≠ o := fun e => by simp [e] at h
  simp [S.setOb, upd, this]
theorem r_frz {o t : Nat} {f : Nat → D} : (S.frz σ o f).regs t = (σ.regs t).frz o f := rfl
theorem m_frz_ne {o o' : Nat} {f : Nat → D} (h : (o == o') = false) : (S.frz σ o f).mem o' = (σ.mem o').map (Ob.frz o f) := by
  have : o' ≠ o := fun e => by simp [e] at h
  simp [S.frz, this]
theorem m_frz_eq {o : Nat} {f : Nat → D} : (S.frz σ o f).mem o = none := by simp [S.frz]
theorem r_init {as : List A} {t : Nat} : (S.init as).regs t = initR as t := rfl
theorem m_init {as : List A} {o : Nat} : (S.init as).mem o = none := rfl
theorem r_init_0 {x : A} {as : List A} : initR (x :: as) 0 = .a x := rfl
theorem r_init_s {x : A} {as : List A} {t : Nat} : initR (x :: as) (t + 1) = initR as t := rfl
theorem r_init_nil {t : Nat} : initR [] t = .any := by simp [initR]

theorem k_a {o : Nat} {x : A} : (R.a x).kill o = .a x := rfl
theorem k_any {o : Nat} : R.any.kill o = .any := rfl
theorem k_cs {o : Nat} {xs : List (List D)} : (R.cs xs).kill o = .cs xs := rfl
theorem k_ref_ne {o o' f : Nat} (h : (o' == o) = false) : (R.ref o' f).kill o = .ref o' f := by simp [R.kill, R.says, R.says0, h]
theorem k_ref_eq {o f : Nat} : (R.ref o f).kill o = .any := by simp [R.kill, R.says, R.says0]
theorem k_eref_ne {o o' i s f : Nat} (h : (o' == o) = false) : (R.eref o' i s f).kill o = .eref o' i s f := by simp [R.kill, R.says, R.says0, h]
theorem k_eref_eq {o i s f : Nat} : (R.eref o i s f).kill o = .any := by simp [R.kill, R.says, R.says0]
theorem k_own_ne {o o' : Nat} (h : (o' == o) = false) : (R.own o').kill o = .own o' := by simp [R.kill, R.says, R.says0, h]
theorem k_own_eq {o : Nat} : (R.own o).kill o = .any := by simp [R.kill, R.says, R.says0]
theorem k_omp_ne {o o' : Nat} (h : (o' == o) = false) : (R.omp o').kill o = .omp o' := by simp [R.kill, R.says, R.says0, h]
theorem k_omp_eq {o : Nat} : (R.omp o).kill o = .any := by simp [R.kill, R.says, R.says0]
theorem k_tp {o : Nat} {xs : List R} (h : xs.any (R.says0 o) = false) : (R.tp xs).kill o = .tp xs := by simp only [R.kill, R.says, h]; rfl
theorem f_tp {o : Nat} {f : Nat → D} {xs : List R} (h : xs.any (R.says0 o) = false) : (R.tp xs).frz o f = .tp xs := by simp only [R.frz, R.says, h]; rfl
theorem sy_a {o : Nat} {x : A} : (R.a x).says0 o = false := rfl
theorem sy_cs {o : Nat} {x : List (List D)} : (R.cs x).says0 o = false := rfl
theorem an_nil {p : R → Bool} : [].any p = false := rfl
theorem an_cons {p : R → Bool} {x : R} {xs : List R} : (x :: xs).any p = (p x || xs.any p) := rfl
theorem or_ff : (false || false) = false := rfl
theorem ok_box {o : Nat} {cs : List R} : (Ob.box cs).kill o = .box (cs.map (R.kill o)) := rfl
theorem ok_log {o : Nat} {e : TypeId} {z : Nat} {xs : List (List D)} : (Ob.log e z xs).kill o = .log e z xs := rfl
theorem ok_mpo {o : Nat} {kv : List (Int × D)} : (Ob.mpo kv).kill o = .mpo kv := rfl
theorem f_a {o : Nat} {f : Nat → D} {x : A} : (R.a x).frz o f = .a x := rfl
theorem f_any {o : Nat} {f : Nat → D} : R.any.frz o f = .any := rfl
theorem f_cs {o : Nat} {f : Nat → D} {xs : List (List D)} : (R.cs xs).frz o f = .cs xs := rfl
theorem f_own_eq {o : Nat} {f : Nat → D} : (R.own o).frz o f = .a (.d (f 0)) := by simp [R.frz]
theorem f_own_ne {o o' : Nat} {f : Nat → D} (h : (o' == o) = false) : (R.own o').frz o f = .own o' := by
  have : o' ≠ o := by simpa using h
  simp [R.frz, this]
theorem f_omp_eq {o : Nat} {f : Nat → D} : (R.omp o).frz o f = .a (.d (f 0)) := by simp [R.frz]
theorem f_omp_ne {o o' : Nat} {f : Nat → D} (h : (o' == o) = false) : (R.omp o').frz o f = .omp o' := by
  have : o' ≠ o := by simpa using h
  simp [R.frz, this]
theorem f_ref_eq {o g : Nat} {f : Nat → D} : (R.ref o g).frz o f = .a (.d (f g)) := by simp [R.frz]
theorem f_ref_ne {o o' g : Nat} {f : Nat → D} (h : (o' == o) = false) : (R.ref o' g).frz o f = .ref o' g := by
  have : o' ≠ o := by simpa using h
  simp [R.frz, this]
theorem f_eref_eq {o i s g : Nat} {f : Nat → D} : (R.eref o i s g).frz o f = .any := by simp [R.frz, R.says, R.says0]
theorem f_eref_ne {o o' i s g : Nat} {f : Nat → D} (h : (o' == o) = false) : (R.eref o' i s g).frz o f = .eref o' i s g := by
  simp [R.frz, R.says, R.says0, h]
theorem of_box {o : Nat} {f : Nat → D} {cs : List R} : (Ob.box cs).frz o f = .box (cs.map (R.frz o f)) := rfl
theorem of_log {o : Nat} {f : Nat → D} {e : TypeId} {z : Nat} {xs : List (List D)} : (Ob.log e z xs).frz o f = .log e z xs := rfl
theorem of_mpo {o : Nat} {f : Nat → D} {kv : List (Int × D)} : (Ob.mpo kv).frz o f = .mpo kv := rfl

/-- A state that is known at these registers and objects. -/
def S.of (L : List (Nat × R)) (M : List (Nat × Ob)) (j : S) : S where
  regs t := match L.find? (fun p => p.1 == t) with
    | some p => p.2
    | none => j.regs t
  mem o := match M.find? (fun p => p.1 == o) with
    | some p => some p.2
    | none => j.mem o
theorem r_of_eq {t : Nat} {r : R} {L : List (Nat × R)} {M : List (Nat × Ob)} : (S.of ((t, r) :: L) M σ).regs t = r := by simp [S.of]
theorem r_of_ne {d t : Nat} {r : R} {L : List (Nat × R)} {M : List (Nat × Ob)} (h : (d == t) = false) : (S.of ((d, r) :: L) M σ).regs t = (S.of L M σ).regs t := by simp only [S.of, List.find?_cons, h]
theorem m_of_eq {o : Nat} {x : Ob} {L : List (Nat × R)} {M : List (Nat × Ob)} : (S.of L ((o, x) :: M) σ).mem o = some x := by simp [S.of]
theorem m_of_ne {o o' : Nat} {x : Ob} {L : List (Nat × R)} {M : List (Nat × Ob)} (h : (o == o') = false) : (S.of L ((o, x) :: M) σ).mem o' = (S.of L M σ).mem o' := by simp only [S.of, List.find?_cons, h]
/-- What a state is known to hold. -/
def hasR (σ : S) : List (Nat × R) → Prop
  | [] => True
  | (t, r) :: L => σ.regs t = r ∧ hasR σ L
def hasM (σ : S) : List (Nat × Ob) → Prop
  | [] => True
  | (o, x) :: M => σ.mem o = some x ∧ hasM σ M
theorem S.of_self {L : List (Nat × R)} {M : List (Nat × Ob)} (h : hasR σ L) (k : hasM σ M) : σ = S.of L M σ := by
  have h1 : ∀ L, hasR σ L → ∀ t, (match L.find? (fun p => p.1 == t) with
    | some p => p.2
    | none => σ.regs t) = σ.regs t := by
    intro L
    induction L with
    | nil => intro _ t; rfl
    | cons p L ih =>
      intro h t
      obtain ⟨t', r⟩ := p
      simp only [List.find?_cons]
      cases e : t' == t with
      | true => obtain rfl : t' = t := by simpa using e
                exact h.1.symm
      | false => exact ih h.2 t
  have h2 : ∀ M, hasM σ M → ∀ o, (match M.find? (fun p => p.1 == o) with
    | some p => some p.2
    | none => σ.mem o) = σ.mem o := by
    intro M
    induction M with
    | nil => intro _ t; rfl
    | cons p M ih =>
      intro h t
      obtain ⟨t', r⟩ := p
      simp only [List.find?_cons]
      cases e : t' == t with
      | true => obtain rfl : t' = t := by simpa using e
                exact h.1.symm
      | false => exact ih h.2 t
  show σ = ⟨_, _⟩
  rw [show (fun t => match L.find? (fun p => p.1 == t) with
    | some p => p.2
    | none => σ.regs t) = σ.regs from funext (h1 L h), show (fun o => match M.find? (fun p => p.1 == o) with
    | some p => some p.2
    | none => σ.mem o) = σ.mem from funext (h2 M k)]

/-! ### Operands -/
theorem v_tmp {t : Tmp} : σ.eval gl (.tmp t) = σ.regs t := rfl
theorem v_int {k : IntKind} {n : Int} : σ.eval gl (.const (.int k n)) = .a (.d (.v (.int k n))) := rfl
theorem v_bool {b : Bool} : σ.eval gl (.const (.bool b)) = .a (.d (.v (.bool b))) := rfl
theorem v_str {s : ByteArray} : σ.eval gl (.const (.string s)) = .a (.d (.v (.string s))) := rfl
theorem v_nil : σ.eval gl (.const (.slice none 0 0)) = .cs [] := rfl
theorem v_map : σ.eval gl (.const (.map none)) = .a (.d (.mp [])) := rfl
theorem v_ptr : σ.eval gl (.const (.pointer none)) = .a (.d (.v (.pointer none))) := rfl
theorem v_func {f : FuncId} : σ.eval gl (.func f) = .a (.d (.fn f [])) := rfl
theorem v_glob {g : Nat} : σ.eval gl (.global g) = (match gl g with
    | some cs => .a (.d (.pt cs))
    | none => .any) := rfl

/-! ### Operations -/
section
variable {dst : Option Tmp} {ty : TypeId} {pos : String} {after : Array Edge} {g : Option (Nat × Bool)}
theorem opA_X {o : Oper} : opA P gl o σ K = inG (isX P o) (SemOp P gl o σ K) (opA0 P gl o σ K) := by
  unfold opA inG; cases isX P o <;> rfl
theorem y_move {x : Operand} : opA P gl ⟨dst, .move x, ty, pos, after, g⟩ σ K = fc (σ.eval gl x) fun r => K (σ.put dst r) := rfl
theorem y_assign_t {t : Tmp} : opA P gl ⟨dst, .assign (.tmp t), ty, pos, after, g⟩ σ K = fc (σ.regs t) fun r => K (σ.put dst r) := by cases dst <;> rfl
theorem y_assign_i {k : IntKind} {n : Int} : opA P gl ⟨dst, .assign (.const (.int k n)), ty, pos, after, g⟩ σ K = K (σ.put dst (.a (.d (.v (.int k n))))) := by cases dst <;> rfl
theorem y_assign_b {b : Bool} : opA P gl ⟨dst, .assign (.const (.bool b)), ty, pos, after, g⟩ σ K = K (σ.put dst (.a (.d (.v (.bool b))))) := by cases dst <;> rfl
theorem y_assign_s {s : ByteArray} : opA P gl ⟨dst, .assign (.const (.string s)), ty, pos, after, g⟩ σ K = K (σ.put dst (.a (.d (.v (.string s))))) := by cases dst <;> rfl
theorem y_assign_m : opA P gl ⟨dst, .assign (.const (.map none)), ty, pos, after, g⟩ σ K = K (σ.put dst (.a (.d (.mp [])))) := by cases dst <;> rfl
theorem y_assign_p : opA P gl ⟨dst, .assign (.const (.pointer none)), ty, pos, after, g⟩ σ K = K (σ.put dst (.a (.d (.v (.pointer none))))) := by cases dst <;> rfl
def tkSlice (P : Program) (t : TypeId) : Option TI := match tk P t with
  | .slice e => tinf P e
  | _ => none
def tkElem (P : Program) (t : TypeId) : Option (TypeId × TI) := match tk P t with
  | .slice e => (tinf P e).map fun ti => (e, ti)
  | _ => none
def tkStruct (P : Program) (t : TypeId) : Option (List (Nat × Nat × Bool)) := match tk P t with
  | .struct offs => some offs
  | _ => none
theorem y_assign_n {d : Tmp} : opA P gl ⟨some d, .assign (.const (.slice none 0 0)), ty, pos, after, g⟩ σ K = mat (tkElem P ty) fun e => K ((σ.newOb d (.log e.1 e.2.sz [])).put (some d) (.own d)) := by
  simp only [opA, isX, opA0, mat, tkElem]
  cases tk P ty <;> try rfl
  rename_i e; cases h : tinf P e <;> simp [h]
theorem y_pick {c a b : Operand} : opA P gl ⟨dst, .pick c a b, ty, pos, after, g⟩ σ K = condK (σ.eval gl c) (fc (σ.eval gl a) fun r => K (σ.put dst r)) (fc (σ.eval gl b) fun r => K (σ.put dst r)) := by
  simp only [opA, isX, opA0, opQ, condK]
  generalize σ.eval gl c = x
  rcases x with _ | ((v | _ | _ | _ | _) | _) | _ | _ | _ | _ | _ | _ | _ <;> try rfl
  cases v <;> try rfl
  rename_i b; cases b <;> simp [brK]
theorem y_load0 {t : TypeId} {p : Operand} : opA0 P gl ⟨dst, .load t p, ty, pos, after, g⟩ σ K = mat (loadR P σ t (σ.eval gl p)) fun r => K (σ.put dst r) := by
  simp only [opA0, opQ, mat, fc]
  cases loadR P σ t (σ.eval gl p) <;> rfl
theorem y_load {t : TypeId} {p : Operand} : opA P gl ⟨dst, .load t p, ty, pos, after, g⟩ σ K = inG (isXT P t) (SemOp P gl ⟨dst, .load t p, ty, pos, after, g⟩ σ K) (mat (loadR P σ t (σ.eval gl p)) fun r => K (σ.put dst r)) := by
  rw [opA_X, y_load0]; rfl
theorem y_store {t : TypeId} {p x : Operand} : opA P gl ⟨dst, .store t p x, ty, pos, after, g⟩ σ K = mat (storeR P σ t (σ.eval gl p) (σ.eval gl x)) fun σ' => K (σ'.put dst .any) := by
  simp only [opA, isX, opA0, mat]
  cases storeR P σ t (σ.eval gl p) (σ.eval gl x) <;> rfl
def zR (ti : TI) : Option (List R) := if ti.z.all Value.oneCell' then some (ti.z.map fun v => .a (.d (cellD v))) else none
theorem y_alloc {t : TypeId} {d : Tmp} : opA P gl ⟨some d, .alloc t, ty, pos, after, g⟩ σ K = mat ((tinf P t).bind zR) fun cs => K ((σ.newOb d (.box cs)).put (some d) (.ref d 0)) := by
  simp only [opA, isX, opA0, mat]
  cases tinf P t with
  | none => rfl
  | some ti =>
    simp only [Option.bind_some, zR]
    by_cases h : ti.z.all Value.oneCell' = true <;> simp [h]
theorem y_box {t : TypeId} {x : Operand} {d : Tmp} : opA P gl ⟨some d, .box t x, ty, pos, after, g⟩ σ K = mat (cellsR (σ.eval gl x)) fun cs => K ((σ.newOb d (.box (cs.map (R.kill d)))).put (some d) (.ref d 0)) := by
  simp only [opA, isX, opA0, mat]
  cases cellsR (σ.eval gl x) <;> rfl
def fieldG (f : Option (Nat × Nat × Bool)) (r : R) : Option R :=
  match f with
  | some (fo, 0, _) => none
  | some (fo, _ + 1, _) => match r with
      | .ref ob off => some (.ref ob (off + fo))
      | .a (.d (.pt cs)) => some (.a (.d (.pt (cs.drop fo))))
      | .eref ob i sz j => some (.eref ob i sz (j + fo))
      | _ => none
  | none => none
theorem fg_ref {fo n o off : Nat} {b : Bool} (h : (n == 0) = false) : fieldG (some (fo, n, b)) (.ref o off) = some (.ref o (off + fo)) := by
  cases n <;> first | rfl | simp at h
theorem fg_pt {fo n : Nat} {b : Bool} {cs : List D} (h : (n == 0) = false) : fieldG (some (fo, n, b)) (.a (.d (.pt cs))) = some (.a (.d (.pt (cs.drop fo)))) := by
  cases n <;> first | rfl | simp at h
theorem fg_eref {fo n o i z j : Nat} {b : Bool} (h : (n == 0) = false) : fieldG (some (fo, n, b)) (.eref o i z j) = some (.eref o i z (j + fo)) := by
  cases n <;> first | rfl | simp at h
def fieldT (P : Program) (t : TypeId) (f : Nat) : Option (Nat × Nat × Bool) := match tk P t with
  | .struct offs => offs[f]?
  | _ => none
theorem fieldG_congr {f f' : Option (Nat × Nat × Bool)} {r r' : R} {tk0 : Bool} (hT : tick = tk0) (h : f = f') (k : r = r') : fieldG f r = fieldG f' r' := by rw [h, k]
theorem z_field {t : TypeId} {p : Operand} {f : Nat} : opQ P gl ⟨dst, .fieldAddr t p f, ty, pos, after, g⟩ σ KR = mat (fieldG (fieldT P t f) (σ.eval gl p)) KR := by
  simp only [opQ, mat, fieldG, fieldT]
  cases tk P t <;> try rfl
  rename_i offs
  simp only []
  cases offs[f]? with
  | none => rfl
  | some x =>
    obtain ⟨fo, fs, b⟩ := x
    cases fs with
    | zero => simp
    | succ n =>
      simp only [ne_eq, Nat.add_one_ne_zero, not_false_eq_true, true_and]
      rcases σ.eval gl p with _ | ((v | _ | _ | _ | _) | _) | _ | _ | _ | _ | _ | _ | _ <;> rfl
/-- What is indexed: a row's place, or an array's. -/
inductive IK where
  | slice (sz : Nat)
  | arr (n sz : Nat)
def indexT (P : Program) (t : TypeId) : Option IK := match tk P t with
  | .slice e => (tinf P e).map fun ti => .slice ti.sz
  | .arr n e => (tinf P e).map fun ti => .arr n ti.sz
  | _ => none
def asInt : R → Option Int
  | .a (.d (.v (.int _ n))) => some n
  | _ => none
theorem ai_int {k : IntKind} {n : Int} : asInt (.a (.d (.v (.int k n)))) = some n := rfl
def indexG (σ : S) (k : Option IK) (x : R) (n : Option Int) (K : R → Prop) : Prop := match k, n with
  | some (.slice sz), some n => (match x with
    | .a (.d (.sl xs)) => idxK n xs sz fun c => K (.a (.d (.pt c)))
    | .cs xs => idxK n xs sz fun c => K (.a (.d (.pt c)))
    | .own ob => match σ.mem ob with
      | some (.log _ _ xs) => idxK n xs sz fun c => K (.eref ob n.toNat sz 0)
      | _ => False
    | _ => False)
  | some (.arr len sz), some n => 0 ≤ n ∧ n < len ∧ (match x with
    | .ref ob off => K (.ref ob (off + n.toNat * sz))
    | .a (.d (.pt cs)) => K (.a (.d (.pt (cs.drop (n.toNat * sz)))))
    | _ => False)
  | _, _ => False
theorem indexG_congr {k k' : Option IK} {x x' : R} {n n' : Option Int} {K : R → Prop} {tk0 : Bool} (hT : tick = tk0) (h : k = k') (h1 : x = x') (h2 : n = n') : indexG σ k x n K = indexG σ k' x' n' K := by rw [h, h1, h2]
theorem ig_sl {sz : Nat} {xs : List (List D)} {n : Int} : indexG σ (some (.slice sz)) (.a (.d (.sl xs))) (some n) KR = idxK n xs sz fun c => KR (.a (.d (.pt c))) := rfl
theorem ig_cs {sz : Nat} {xs : List (List D)} {n : Int} : indexG σ (some (.slice sz)) (.cs xs) (some n) KR = idxK n xs sz fun c => KR (.a (.d (.pt c))) := rfl
def logOf : Option Ob → Option (List (List D))
  | some (.log _ _ xs) => some xs
  | _ => none
theorem lo_log {e : TypeId} {z : Nat} {xs : List (List D)} : logOf (some (.log e z xs)) = some xs := rfl
theorem ig_own {sz o : Nat} {n : Int} : indexG σ (some (.slice sz)) (.own o) (some n) KR = mat (logOf (σ.mem o)) fun xs => idxK n xs sz fun c => KR (.eref o n.toNat sz 0) := by
  simp only [indexG, mat, logOf]
  rcases σ.mem o with _ | (_ | _ | _) <;> rfl
theorem ig_aref {len sz o off : Nat} {n : Int} : indexG σ (some (.arr len sz)) (.ref o off) (some n) KR = (0 ≤ n ∧ n < len ∧ KR (.ref o (off + n.toNat * sz))) := rfl
theorem ig_apt {len sz : Nat} {cs : List D} {n : Int} : indexG σ (some (.arr len sz)) (.a (.d (.pt cs))) (some n) KR = (0 ≤ n ∧ n < len ∧ KR (.a (.d (.pt (cs.drop (n.toNat * sz)))))) := rfl
theorem ig_none {k : Option IK} {x : R} {K : R → Prop} : indexG σ k x none K = False := by rcases k with _ | (_ | _) <;> rfl
theorem z_index {t : TypeId} {x i : Operand} : opQ P gl ⟨dst, .indexAddr t x i, ty, pos, after, g⟩ σ KR = indexG σ (indexT P t) (σ.eval gl x) (asInt (σ.eval gl i)) KR := by
  simp only [opQ]
  generalize σ.eval gl i = r
  have hi : (∃ k n, r = .a (.d (.v (.int k n)))) ∨ asInt r = none := by
    rcases r with _ | ((v | _ | _ | _ | _) | _) | _ | _ | _ | _ | _ | _ | _ <;> first | exact .inr rfl | skip
    cases v <;> first | exact .inr rfl | exact .inl ⟨_, _, rfl⟩
  rcases hi with ⟨k, n, rfl⟩ | hn
  · simp only [asInt, indexG, indexT]
    cases tk P t <;> try rfl
    · rename_i e; dsimp only; cases tinf P e <;> dsimp only [Option.map] <;> try rfl
    · rename_i e; dsimp only; cases tinf P e <;> dsimp only [Option.map] <;> try rfl
  · rw [hn, ig_none]
    rcases r with _ | ((v | _ | _ | _ | _) | _) | _ | _ | _ | _ | _ | _ | _ <;> try rfl
    cases v <;> first | rfl | simp [asInt] at hn
theorem idxK_congr {n n' : Int} {xs xs' : List (List D)} {sz : Nat} {K : List D → Prop} {tk0 : Bool} (hT : tick = tk0) (h : n = n') (k : xs = xs') : idxK n xs sz K = idxK n' xs' sz K := by rw [h, k]
theorem ix_go {n : Int} {xs : List (List D)} {sz : Nat} {K : List D → Prop} : idxK n xs sz K = (0 ≤ n ∧ mat (xs[n.toNat]?) fun c => c.length = sz ∧ K c) := by
  simp only [idxK, mat]; cases xs[n.toNat]? <;> rfl
theorem idxK_of {n : Int} {xs : List (List D)} {sz : Nat} {K : List D → Prop} {c : List D} (h0 : 0 ≤ n) (h : xs[n.toNat]? = some c) (hl : c.length = sz) (hk : K c) : idxK n xs sz K := ⟨h0, by rw [h]; exact ⟨hl, hk⟩⟩
attribute [congr] fieldG_congr indexG_congr idxK_congr
theorem z_nil {x : Operand} : opQ P gl ⟨dst, .nilCheck x, ty, pos, after, g⟩ σ KR = mat (match σ.eval gl x with
    | .ref ob off => some (.ref ob off)
    | .a (.d (.pt cs)) => some (.a (.d (.pt cs)))
    | .eref ob i sz j => some (.eref ob i sz j)
    | _ => none) KR := by
  simp only [opQ]
  rcases σ.eval gl x with _ | ((v | _ | _ | _ | _) | _) | _ | _ | _ | _ | _ | _ | _ <;> rfl
/-- Two values, an operation between them: the condition, the value. -/
def binG (k : TK) (op : BinOp) (x y : R) (K : R → Prop) : Prop := match x, y with
    | .a (.d (.v (.bool a))), .a (.d (.v (.bool b))) => (match k, op with
      | .bool, .eql => K (.a (.d (.v (.bool (a == b)))))
      | .bool, .neq => K (.a (.d (.v (.bool (a != b)))))
      | _, _ => False)
    | .a (.d (.v a)), .a (.d (.v b)) => (match binR op a b with
      | some (c, v) => c ∧ K (.a (.d (.v v)))
      | none => False)
    | _, _ => False
theorem binG_congr {k k' : TK} {op : BinOp} {x x' y y' : R} {K : R → Prop} {tk0 : Bool} (hT : tick = tk0) (h0 : k = k') (h : x = x') (h1 : y = y') : binG k op x y K = binG k' op x' y' K := by rw [h0, h, h1]
attribute [congr] binG_congr
theorem z_bin {op : BinOp} {t u : TypeId} {x y : Operand} : opQ P gl ⟨dst, .binOp op t x y u, ty, pos, after, g⟩ σ KR = binG (tk P t) op (σ.eval gl x) (σ.eval gl y) KR := by
  simp only [opQ, binG]
  generalize σ.eval gl x = r
  generalize σ.eval gl y = r'
  rcases r with _ | ((v | _ | _ | _ | _) | _) | _ | _ | _ | _ | _ | _ | _ <;> try rfl
section
variable {k k' : IntKind} {a b : Int} {K : R → Prop} {T : TK}
theorem b_add : binG T .add (.a (.d (.v (.int k a)))) (.a (.d (.v (.int k b)))) K = K (.a (.d (.v (.int k (k.wrap (a + b)))))) := by simp [binG, binR]
theorem b_sub : binG T .sub (.a (.d (.v (.int k a)))) (.a (.d (.v (.int k b)))) K = K (.a (.d (.v (.int k (k.wrap (a - b)))))) := by simp [binG, binR]
theorem b_mul : binG T .mul (.a (.d (.v (.int k a)))) (.a (.d (.v (.int k b)))) K = K (.a (.d (.v (.int k (k.wrap (a * b)))))) := by simp [binG, binR]
theorem b_quo : binG T .quo (.a (.d (.v (.int k a)))) (.a (.d (.v (.int k b)))) K = (b ≠ 0 ∧ K (.a (.d (.v (.int k (k.wrap (a.tdiv b))))))) := by simp [binG, binR]
theorem b_rem : binG T .rem (.a (.d (.v (.int k a)))) (.a (.d (.v (.int k b)))) K = (b ≠ 0 ∧ K (.a (.d (.v (.int k (a.tmod b)))))) := by simp [binG, binR]
theorem b_eql : binG T .eql (.a (.d (.v (.int k a)))) (.a (.d (.v (.int k b)))) K = spK (a = b) fun b => K (.a (.d (.v (.bool b)))) := by simp only [binG, binR, true_and]; exact spK_eq (K := fun b => K (.a (.d (.v (.bool b)))))
theorem b_neq : binG T .neq (.a (.d (.v (.int k a)))) (.a (.d (.v (.int k b)))) K = spK (a = b) fun b => K (.a (.d (.v (.bool (!b))))) := by simp only [binG, binR, true_and]; exact spK_eq (K := fun b => K (.a (.d (.v (.bool (!b))))))
theorem b_lss : binG T .lss (.a (.d (.v (.int k a)))) (.a (.d (.v (.int k b)))) K = spK (a < b) fun b => K (.a (.d (.v (.bool b)))) := by simp only [binG, binR, true_and]; exact spK_eq (K := fun b => K (.a (.d (.v (.bool b)))))
theorem b_leq : binG T .leq (.a (.d (.v (.int k a)))) (.a (.d (.v (.int k b)))) K = spK (a ≤ b) fun b => K (.a (.d (.v (.bool b)))) := by simp only [binG, binR, true_and]; exact spK_eq (K := fun b => K (.a (.d (.v (.bool b)))))
theorem b_gtr : binG T .gtr (.a (.d (.v (.int k a)))) (.a (.d (.v (.int k b)))) K = spK (a > b) fun b => K (.a (.d (.v (.bool b)))) := by simp only [binG, binR, true_and]; exact spK_eq (K := fun b => K (.a (.d (.v (.bool b)))))
theorem b_geq : binG T .geq (.a (.d (.v (.int k a)))) (.a (.d (.v (.int k b)))) K = spK (a ≥ b) fun b => K (.a (.d (.v (.bool b)))) := by simp only [binG, binR, true_and]; exact spK_eq (K := fun b => K (.a (.d (.v (.bool b)))))
theorem b_shl : binG T .shl (.a (.d (.v (.int k a)))) (.a (.d (.v (.int k' b)))) K = (0 ≤ b ∧ K (.a (.d (.v (.int k (k.wrap (a * 2 ^ (min b.toNat k.bits)))))))) := by simp [binG, binR]
theorem b_shr : binG T .shr (.a (.d (.v (.int k a)))) (.a (.d (.v (.int k' b)))) K = (0 ≤ b ∧ K (.a (.d (.v (.int k (a.fdiv (2 ^ (min b.toNat k.bits)))))))) := by simp [binG, binR]
theorem b_and : binG T .and (.a (.d (.v (.int k a)))) (.a (.d (.v (.int k b)))) K = K (.a (.d (.v (.int k (k.wrap (BitVec.ofInt k.bits a &&& BitVec.ofInt k.bits b).toNat))))) := by simp [binG, binR]
theorem b_or : binG T .or (.a (.d (.v (.int k a)))) (.a (.d (.v (.int k b)))) K = K (.a (.d (.v (.int k (k.wrap (BitVec.ofInt k.bits a ||| BitVec.ofInt k.bits b).toNat))))) := by simp [binG, binR]
theorem b_xor : binG T .xor (.a (.d (.v (.int k a)))) (.a (.d (.v (.int k b)))) K = K (.a (.d (.v (.int k (k.wrap (BitVec.ofInt k.bits a ^^^ BitVec.ofInt k.bits b).toNat))))) := by simp [binG, binR]
theorem b_andn : binG T .andNot (.a (.d (.v (.int k a)))) (.a (.d (.v (.int k b)))) K = K (.a (.d (.v (.int k (k.wrap (BitVec.ofInt k.bits a &&& ~~~BitVec.ofInt k.bits b).toNat))))) := by simp [binG, binR]
theorem b_beq {a b : Bool} : binG .bool .eql (.a (.d (.v (.bool a)))) (.a (.d (.v (.bool b)))) K = K (.a (.d (.v (.bool (a == b))))) := rfl
theorem b_bne {a b : Bool} : binG .bool .neq (.a (.d (.v (.bool a)))) (.a (.d (.v (.bool b)))) K = K (.a (.d (.v (.bool (a != b))))) := rfl
theorem b_seq {a b : ByteArray} : binG T .eql (.a (.d (.v (.string a)))) (.a (.d (.v (.string b)))) K = K (.a (.d (.v (.bool (a.toList == b.toList))))) := by simp [binG, binR]
theorem b_sne {a b : ByteArray} : binG T .neq (.a (.d (.v (.string a)))) (.a (.d (.v (.string b)))) K = K (.a (.d (.v (.bool (!(a.toList == b.toList)))))) := by simp [binG, binR]
end
def unG (op : UnOp) (x : R) : Option R := match x with
  | .a (.d (.v a)) => (unR op a).map fun v => .a (.d (.v v))
  | _ => none
theorem u_not {b : Bool} : unG .not (.a (.d (.v (.bool b)))) = some (.a (.d (.v (.bool !b)))) := rfl
theorem u_neg {k : IntKind} {n : Int} : unG .neg (.a (.d (.v (.int k n)))) = some (.a (.d (.v (.int k (k.wrap (0 - n)))))) := rfl
theorem z_un {op : UnOp} {t : TypeId} {x : Operand} : opQ P gl ⟨dst, .unOp op t x, ty, pos, after, g⟩ σ KR = mat (unG op (σ.eval gl x)) KR := by
  simp only [opQ, unG]
  rcases σ.eval gl x with _ | ((v | _ | _ | _ | _) | _) | _ | _ | _ | _ | _ | _ | _ <;> try rfl
  simp only []
  cases unR op v <;> rfl
def intK (P : Program) (t : TypeId) : Option IntKind := match tk P t with
  | .int k => some k
  | _ => none
def convG (s k : Option IntKind) (x : R) : Option R := match s, k, x with
  | some _, some k, .a (.d (.v (.int _ n))) => some (.a (.d (.v (.int k (k.wrap n)))))
  | _, _, _ => none
theorem c_int {s k k' : IntKind} {n : Int} : convG (some s) (some k) (.a (.d (.v (.int k' n)))) = some (.a (.d (.v (.int k (k.wrap n))))) := rfl
theorem z_conv {s t : TypeId} {x : Operand} : opQ P gl ⟨dst, .convert s t x, ty, pos, after, g⟩ σ KR = mat (convG (intK P s) (intK P t) (σ.eval gl x)) KR := by
  simp only [opQ, convG, intK]
  cases tk P s <;> try rfl
  cases tk P t <;> try rfl
  rcases σ.eval gl x with _ | ((v | _ | _ | _ | _) | _) | _ | _ | _ | _ | _ | _ | _ <;> try rfl
  cases v <;> rfl
def extG (x : R) (i : Nat) : Option R := match x with
  | .tp rs => rs[i]?
  | _ => none
theorem x_tp {rs : List R} {i : Nat} : extG (.tp rs) i = rs[i]? := rfl
theorem z_ext {x : Operand} {i : Nat} : opQ P gl ⟨dst, .extract x i, ty, pos, after, g⟩ σ KR = mat (extG (σ.eval gl x) i) KR := by
  simp only [opQ, extG]
  rcases σ.eval gl x with _ | ((v | _ | _ | _ | _) | _) | _ | _ | _ | _ | _ | _ | _ <;> try rfl
  simp only []
  rename_i rs; cases rs[i]? <;> rfl
theorem z_move {x : Operand} : opQ P gl ⟨dst, .move x, ty, pos, after, g⟩ σ KR = fc (σ.eval gl x) KR := rfl
theorem z_assign {x : Operand} : opQ P gl ⟨dst, .assign x, ty, pos, after, g⟩ σ KR = fc (σ.eval gl x) KR := rfl
theorem z_pick {c a b : Operand} : opQ P gl ⟨dst, .pick c a b, ty, pos, after, g⟩ σ KR = condK (σ.eval gl c) (fc (σ.eval gl a) KR) (fc (σ.eval gl b) KR) := by
  simp only [opQ, condK]
  rcases σ.eval gl c with _ | ((v | _ | _ | _ | _) | _) | _ | _ | _ | _ | _ | _ | _ <;> try rfl
  cases v <;> try rfl
  rename_i b; cases b <;> simp [brK]
theorem z_load {t : TypeId} {p : Operand} : opQ P gl ⟨dst, .load t p, ty, pos, after, g⟩ σ KR = mat (loadR P σ t (σ.eval gl p)) KR := by
  simp only [opQ, fc]
  cases loadR P σ t (σ.eval gl p) <;> rfl
/-! ### Calls and the rest -/
def lenG (k : TK) (r : Option (Bool × Int)) : Option R := match r with
  | some (s, n) => match k, s with
    | .slice _, false => some (.a (.d (.v (.int .i64 n))))
    | .str, true => some (.a (.d (.v (.int .i64 n))))
    | _, _ => none
  | none => none
def lenT (P : Program) (t : TypeId) : Option Bool := match tk P t with
  | .slice _ => some false
  | .str => some true
  | _ => none
def lenH (k : Option Bool) (r : Option (Bool × Int)) : Option R := match k, r with
  | some false, some (false, n) => some (.a (.d (.v (.int .i64 n))))
  | some true, some (true, n) => some (.a (.d (.v (.int .i64 n))))
  | _, _ => none
theorem lh_sl {n : Int} : lenH (some false) (some (false, n)) = some (.a (.d (.v (.int .i64 n)))) := rfl
theorem lh_str {n : Int} : lenH (some true) (some (true, n)) = some (.a (.d (.v (.int .i64 n)))) := rfl
theorem lr_sl {xs : List (List D)} : lenR σ (.a (.d (.sl xs))) = some (false, (xs.length : Int)) := rfl
theorem lr_cs {xs : List (List D)} : lenR σ (.cs xs) = some (false, (xs.length : Int)) := rfl
theorem lr_str {s : ByteArray} : lenR σ (.a (.d (.v (.string s)))) = some (true, (s.size : Int)) := rfl
theorem lr_own {o : Nat} : lenR σ (.own o) = (logOf (σ.mem o)).map fun xs => (false, (xs.length : Int)) := by
  simp only [lenR, logOf]
  rcases σ.mem o with _ | (_ | _ | _) <;> rfl
theorem z_len {x : Operand} {t : TypeId} : opQ P gl ⟨dst, .call ⟨.builtin .len, #[x], #[t]⟩, ty, pos, after, g⟩ σ KR = mat (lenH (lenT P t) (lenR σ (σ.eval gl x))) KR := by
  simp only [opQ, lenH, lenT]
  rcases lenR σ (σ.eval gl x) with _ | ⟨s, n⟩
  · cases tk P t <;> rfl
  · cases tk P t <;> cases s <;> rfl
def minG (x y : R) : Option R := match x, y with
  | .a (.d (.v (.int k a))), .a (.d (.v (.int _ b))) => some (.a (.d (.v (.int k (if b < a then b else a)))))
  | _, _ => none
def maxG (x y : R) : Option R := match x, y with
  | .a (.d (.v (.int k a))), .a (.d (.v (.int _ b))) => some (.a (.d (.v (.int k (if b > a then b else a)))))
  | _, _ => none
theorem mg_min {k k' : IntKind} {a b : Int} : minG (.a (.d (.v (.int k a)))) (.a (.d (.v (.int k' b)))) = some (.a (.d (.v (.int k (min a b))))) := by
  have : (if b < a then b else a) = min a b := by split <;> omega
  simp [minG, this]
theorem mg_max {k k' : IntKind} {a b : Int} : maxG (.a (.d (.v (.int k a)))) (.a (.d (.v (.int k' b)))) = some (.a (.d (.v (.int k (max a b))))) := by
  have : (if b > a then b else a) = max a b := by split <;> omega
  simp [maxG, this]
theorem z_min {x y : Operand} {ts : Array TypeId} : opQ P gl ⟨dst, .call ⟨.builtin .min, #[x, y], ts⟩, ty, pos, after, g⟩ σ KR = mat (minG (σ.eval gl x) (σ.eval gl y)) KR := by
  simp only [opQ, minG]
  generalize σ.eval gl x = r
  generalize σ.eval gl y = r'
  rcases r with _ | ((v | _ | _ | _ | _) | _) | _ | _ | _ | _ | _ | _ | _ <;> try rfl
  cases v <;> try rfl
  rcases r' with _ | ((v' | _ | _ | _ | _) | _) | _ | _ | _ | _ | _ | _ | _ <;> try rfl
  cases v' <;> rfl
theorem z_max {x y : Operand} {ts : Array TypeId} : opQ P gl ⟨dst, .call ⟨.builtin .max, #[x, y], ts⟩, ty, pos, after, g⟩ σ KR = mat (maxG (σ.eval gl x) (σ.eval gl y)) KR := by
  simp only [opQ, maxG]
  generalize σ.eval gl x = r
  generalize σ.eval gl y = r'
  rcases r with _ | ((v | _ | _ | _ | _) | _) | _ | _ | _ | _ | _ | _ | _ <;> try rfl
  cases v <;> try rfl
  rcases r' with _ | ((v' | _ | _ | _ | _) | _) | _ | _ | _ | _ | _ | _ | _ <;> try rfl
  cases v' <;> rfl

/-- The registers that are handed to a call. -/
def evs (gl : Nat → Option (List D)) (σ : S) : List Operand → List R
  | [] => []
  | x :: xs => σ.eval gl x :: evs gl σ xs
theorem evs_nil : evs gl σ [] = [] := rfl
theorem evs_cons {x : Operand} {xs : List Operand} : evs gl σ (x :: xs) = σ.eval gl x :: evs gl σ xs := rfl
theorem evs_map : ∀ (l : List Operand), l.map (σ.eval gl) = evs gl σ l
  | [] => rfl
  | x :: l => by simp [evs, evs_map l]
def fnR : R → Option (FuncId × List D)
  | .a (.d (.fn f caps)) => some (f, caps)
  | _ => none
theorem fn_f {f : FuncId} {caps : List D} : fnR (.a (.d (.fn f caps))) = some (f, caps) := rfl
def capR : List D → List R
  | [] => []
  | d :: ds => .a (.d d) :: capR ds
theorem cr_nil : capR [] = [] := rfl
theorem cr_cons {d : D} {ds : List D} : capR (d :: ds) = .a (.d d) :: capR ds := rfl
theorem capR_eq : ∀ (l : List D), (l.map fun d => R.a (.d d)) = capR l
  | [] => rfl
  | x :: l => by simp [capR, capR_eq l]
/-- A call, with what is handed to it. -/
def callV (P : Program) (gl : Nat → Option (List D)) (f : FuncId) (rs : List R) (dst : Option Tmp) (σ : S) (K : S → Prop) : Prop := callK P gl f rs dst σ K
/-- A call of a closure over the caller's own variables. -/
def callC (P : Program) (gl : Nat → Option (List D)) (f : FuncId) (rs : List R) (dst : Option Tmp) (σ : S) (K : S → Prop) : Prop := Inl P gl f rs σ fun σ' rs' => K (σ'.put dst (one rs'))
def refR : List (Nat × Nat) → List R
  | [] => []
  | c :: cs => .ref c.1 c.2 :: refR cs
theorem rf_nil : refR [] = [] := rfl
theorem rf_cons {c : Nat × Nat} {cs : List (Nat × Nat)} : refR (c :: cs) = .ref c.1 c.2 :: refR cs := rfl
theorem refR_eq : ∀ (l : List (Nat × Nat)), (l.map fun x => R.ref x.1 x.2) = refR l
  | [] => rfl
  | x :: l => by simp [refR, refR_eq l]
def callF (P : Program) (gl : Nat → Option (List D)) (o : Oper) (f : R) (rs : List R) (dst : Option Tmp) (σ : S) (K : S → Prop) : Prop := match f with
  | .a (.d (.fn f caps)) => callV P gl f (rs ++ capR caps) dst σ K
  | .clo f caps => callC P gl f (rs ++ refR caps) dst σ K
  | .sem _ _ => SemOp P gl o σ K
  | _ => False
theorem callF_congr {o : Oper} {f f' : R} {rs : List R} {K : S → Prop} {tk0 : Bool} (hT : tick = tk0) (h : f = f') : callF P gl o f rs dst σ K = callF P gl o f' rs dst σ K := by rw [h]
theorem cf_some {o : Oper} {f : FuncId} {caps : List D} {rs : List R} : callF P gl o (.a (.d (.fn f caps))) rs dst σ K = callV P gl f (rs ++ capR caps) dst σ K := rfl
theorem cf_clo {o : Oper} {f : FuncId} {caps : List (Nat × Nat)} {rs : List R} : callF P gl o (.clo f caps) rs dst σ K = callC P gl f (rs ++ refR caps) dst σ K := rfl
theorem cf_sem {o : Oper} {os : List Nat} {p : (Nat → Value) → Value → Prop} {rs : List R} : callF P gl o (.sem os p) rs dst σ K = SemOp P gl o σ K := rfl
theorem callC_congr {f : FuncId} {rs rs' : List R} {K : S → Prop} {tk0 : Bool} (hT : tick = tk0) (h : rs = rs') : callC P gl f rs dst σ K = callC P gl f rs' dst σ K := by rw [h]
theorem callV_congr {f : FuncId} {rs rs' : List R} {K : S → Prop} {tk0 : Bool} (hT : tick = tk0) (h : rs = rs') : callV P gl f rs dst σ K = callV P gl f rs' dst σ K := by rw [h]
theorem z_call {f : Operand} {l : List Operand} {ts : Array TypeId} : opA P gl ⟨dst, .call ⟨.value f, l.toArray, ts⟩, ty, pos, after, g⟩ σ K = callF P gl ⟨dst, .call ⟨.value f, l.toArray, ts⟩, ty, pos, after, g⟩ (σ.eval gl f) (evs gl σ l) dst σ K := by
  simp only [opA, isX, opA0, callF, ← evs_map]
  rcases σ.eval gl f with _ | ((v | _ | _ | _ | _) | _) | _ | _ | _ | _ | _ | _ | _ <;> try rfl
  · simp [callV, capR_eq]
  · simp [callC, refR_eq]
def callVQ (P : Program) (gl : Nat → Option (List D)) (f : FuncId) (rs : List R) (σ : S) (K : R → Prop) : Prop := callQ P gl f rs σ K
def callFQ (P : Program) (gl : Nat → Option (List D)) (f : Option (FuncId × List D)) (rs : List R) (σ : S) (K : R → Prop) : Prop := match f with
  | some (f, caps) => callVQ P gl f (rs ++ capR caps) σ K
  | none => False
theorem callFQ_congr {f f' : Option (FuncId × List D)} {rs : List R} {K : R → Prop} {tk0 : Bool} (hT : tick = tk0) (h : f = f') : callFQ P gl f rs σ K = callFQ P gl f' rs σ K := by rw [h]
theorem callVQ_congr {f : FuncId} {rs rs' : List R} {K : R → Prop} {tk0 : Bool} (hT : tick = tk0) (h : rs = rs') : callVQ P gl f rs σ K = callVQ P gl f rs' σ K := by rw [h]
theorem cf_someQ {f : FuncId} {caps : List D} {rs : List R} : callFQ P gl (some (f, caps)) rs σ KR = callVQ P gl f (rs ++ capR caps) σ KR := rfl
theorem z_callQ {f : Operand} {l : List Operand} {ts : Array TypeId} : opQ P gl ⟨dst, .call ⟨.value f, l.toArray, ts⟩, ty, pos, after, g⟩ σ KR = callFQ P gl (fnR (σ.eval gl f)) (evs gl σ l) σ KR := by
  simp only [opQ, callFQ, ← evs_map]
  rcases σ.eval gl f with _ | ((v | _ | _ | _ | _) | _) | _ | _ | _ | _ | _ | _ | _ <;> try rfl
  simp [fnR, callVQ, capR_eq]
attribute [congr] callF_congr callV_congr callC_congr callFQ_congr callVQ_congr

/-- Operations of 'opA' that are as in 'opQ'. -/
theorem y_field {t : TypeId} {p : Operand} {f : Nat} : opA P gl ⟨dst, .fieldAddr t p f, ty, pos, after, g⟩ σ K = mat (fieldG (fieldT P t f) (σ.eval gl p)) fun r => K (σ.put dst r) := Eq.trans (b := opQ P gl ⟨dst, .fieldAddr t p f, ty, pos, after, g⟩ σ fun r => K (σ.put dst r)) rfl z_field
theorem y_index {t : TypeId} {x i : Operand} : opA P gl ⟨dst, .indexAddr t x i, ty, pos, after, g⟩ σ K = inG (isXT P t) (SemOp P gl ⟨dst, .indexAddr t x i, ty, pos, after, g⟩ σ K) (indexG σ (indexT P t) (σ.eval gl x) (asInt (σ.eval gl i)) fun r => K (σ.put dst r)) := by
  refine (opA_X).trans (Eq.trans (b := inG (isXT P t) (SemOp P gl ⟨dst, .indexAddr t x i, ty, pos, after, g⟩ σ K) (opQ P gl ⟨dst, .indexAddr t x i, ty, pos, after, g⟩ σ fun r => K (σ.put dst r))) rfl ?_)
  rw [z_index]
theorem y_bin_t {op : BinOp} {t u : TypeId} {x : Operand} {y : Tmp} : opA P gl ⟨dst, .binOp op t x (.tmp y) u, ty, pos, after, g⟩ σ K = binG (tk P t) op (σ.eval gl x) (σ.eval gl (.tmp y)) fun r => K (σ.put dst r) := Eq.trans (b := opQ P gl ⟨dst, .binOp op t x (.tmp y) u, ty, pos, after, g⟩ σ fun r => K (σ.put dst r)) rfl z_bin
theorem y_bin_i {op : BinOp} {t u : TypeId} {x : Operand} {ik : IntKind} {im : Int} : opA P gl ⟨dst, .binOp op t x (.const (.int ik im)) u, ty, pos, after, g⟩ σ K = binG (tk P t) op (σ.eval gl x) (σ.eval gl (.const (.int ik im))) fun r => K (σ.put dst r) := Eq.trans (b := opQ P gl ⟨dst, .binOp op t x (.const (.int ik im)) u, ty, pos, after, g⟩ σ fun r => K (σ.put dst r)) rfl z_bin
theorem y_bin_b {op : BinOp} {t u : TypeId} {x : Operand} {ib : Bool} : opA P gl ⟨dst, .binOp op t x (.const (.bool ib)) u, ty, pos, after, g⟩ σ K = binG (tk P t) op (σ.eval gl x) (σ.eval gl (.const (.bool ib))) fun r => K (σ.put dst r) := Eq.trans (b := opQ P gl ⟨dst, .binOp op t x (.const (.bool ib)) u, ty, pos, after, g⟩ σ fun r => K (σ.put dst r)) rfl z_bin
theorem y_bin_s {op : BinOp} {t u : TypeId} {x : Operand} {is : ByteArray} : opA P gl ⟨dst, .binOp op t x (.const (.string is)) u, ty, pos, after, g⟩ σ K = binG (tk P t) op (σ.eval gl x) (σ.eval gl (.const (.string is))) fun r => K (σ.put dst r) := Eq.trans (b := opQ P gl ⟨dst, .binOp op t x (.const (.string is)) u, ty, pos, after, g⟩ σ fun r => K (σ.put dst r)) rfl z_bin
theorem y_bin_ns {op : BinOp} {t u : TypeId} {x : Operand} : opA P gl ⟨dst, .binOp op t x (.const (.slice none 0 0)) u, ty, pos, after, g⟩ σ K = SemOp P gl ⟨dst, .binOp op t x (.const (.slice none 0 0)) u, ty, pos, after, g⟩ σ K := rfl
theorem y_bin_np {op : BinOp} {t u : TypeId} {x : Operand} : opA P gl ⟨dst, .binOp op t x (.const (.pointer none)) u, ty, pos, after, g⟩ σ K = SemOp P gl ⟨dst, .binOp op t x (.const (.pointer none)) u, ty, pos, after, g⟩ σ K := rfl
theorem y_bin_nm {op : BinOp} {t u : TypeId} {x : Operand} : opA P gl ⟨dst, .binOp op t x (.const (.map none)) u, ty, pos, after, g⟩ σ K = SemOp P gl ⟨dst, .binOp op t x (.const (.map none)) u, ty, pos, after, g⟩ σ K := rfl
theorem y_bin_nf {op : BinOp} {t u : TypeId} {x : Operand} : opA P gl ⟨dst, .binOp op t x (.const .nilFunc) u, ty, pos, after, g⟩ σ K = SemOp P gl ⟨dst, .binOp op t x (.const .nilFunc) u, ty, pos, after, g⟩ σ K := rfl
theorem y_bin_ni {op : BinOp} {t u : TypeId} {x : Operand} : opA P gl ⟨dst, .binOp op t x (.const .nilIface) u, ty, pos, after, g⟩ σ K = SemOp P gl ⟨dst, .binOp op t x (.const .nilIface) u, ty, pos, after, g⟩ σ K := rfl
theorem y_un {op : UnOp} {t : TypeId} {x : Operand} : opA P gl ⟨dst, .unOp op t x, ty, pos, after, g⟩ σ K = mat (unG op (σ.eval gl x)) fun r => K (σ.put dst r) := Eq.trans (b := opQ P gl ⟨dst, .unOp op t x, ty, pos, after, g⟩ σ fun r => K (σ.put dst r)) rfl z_un
theorem y_conv {s t : TypeId} {x : Operand} : opA P gl ⟨dst, .convert s t x, ty, pos, after, g⟩ σ K = mat (convG (intK P s) (intK P t) (σ.eval gl x)) fun r => K (σ.put dst r) := Eq.trans (b := opQ P gl ⟨dst, .convert s t x, ty, pos, after, g⟩ σ fun r => K (σ.put dst r)) rfl z_conv
theorem y_ext {x : Operand} {i : Nat} : opA P gl ⟨dst, .extract x i, ty, pos, after, g⟩ σ K = mat (extG (σ.eval gl x) i) fun r => K (σ.put dst r) := Eq.trans (b := opQ P gl ⟨dst, .extract x i, ty, pos, after, g⟩ σ fun r => K (σ.put dst r)) rfl z_ext
theorem y_len {x : Operand} {t : TypeId} : opA P gl ⟨dst, .call ⟨.builtin .len, #[x], #[t]⟩, ty, pos, after, g⟩ σ K = mat (lenH (lenT P t) (lenR σ (σ.eval gl x))) fun r => K (σ.put dst r) := Eq.trans (b := opQ P gl ⟨dst, .call ⟨.builtin .len, #[x], #[t]⟩, ty, pos, after, g⟩ σ fun r => K (σ.put dst r)) rfl z_len
theorem y_min {x y : Operand} {ts : Array TypeId} : opA P gl ⟨dst, .call ⟨.builtin .min, #[x, y], ts⟩, ty, pos, after, g⟩ σ K = mat (minG (σ.eval gl x) (σ.eval gl y)) fun r => K (σ.put dst r) := Eq.trans (b := opQ P gl ⟨dst, .call ⟨.builtin .min, #[x, y], ts⟩, ty, pos, after, g⟩ σ fun r => K (σ.put dst r)) rfl z_min
theorem y_max {x y : Operand} {ts : Array TypeId} : opA P gl ⟨dst, .call ⟨.builtin .max, #[x, y], ts⟩, ty, pos, after, g⟩ σ K = mat (maxG (σ.eval gl x) (σ.eval gl y)) fun r => K (σ.put dst r) := Eq.trans (b := opQ P gl ⟨dst, .call ⟨.builtin .max, #[x, y], ts⟩, ty, pos, after, g⟩ σ fun r => K (σ.put dst r)) rfl z_max
theorem y_nil {x : Operand} : opA P gl ⟨dst, .nilCheck x, ty, pos, after, g⟩ σ K = mat (match σ.eval gl x with
    | .ref ob off => some (.ref ob off)
    | .a (.d (.pt cs)) => some (.a (.d (.pt cs)))
    | .eref ob i sz j => some (.eref ob i sz j)
    | _ => none) fun r => K (σ.put dst r) := Eq.trans (b := opQ P gl ⟨dst, .nilCheck x, ty, pos, after, g⟩ σ fun r => K (σ.put dst r)) rfl z_nil
end

/-! ### Lists of operations -/
def gdK (o : Option (Option Bool)) (want : Bool) (X Y : Prop) : Prop := match o with
  | some (some b) => gK b want X Y
  | some none => Y
  | none => False
theorem gdK_congr {o o' : Option (Option Bool)} {want : Bool} {X Y : Prop} {tk0 : Bool} (hT : tick = tk0) (h : o = o') : gdK o want X Y = gdK o' want X Y := by rw [h]
attribute [congr] gdK_congr
theorem gd_t {b : Bool} {X Y : Prop} : gdK (some (some b)) true X Y = brK b X Y := rfl
theorem gd_f {b : Bool} {X Y : Prop} : gdK (some (some b)) false X Y = brK b Y X := rfl
theorem gd_n {want : Bool} {X Y : Prop} : gdK (some none) want X Y = Y := rfl
def boolR : R → Option (Option Bool)
  | .a (.d (.v (.bool b))) => some (some b)
  | .tp [] => some none
  | _ => none
theorem br_b {b : Bool} : boolR (.a (.d (.v (.bool b)))) = some (some b) := rfl
theorem br_n : boolR (.tp []) = some none := rfl
theorem l_nil {ops : Array Oper} : opsA P gl ops [] σ K = K σ := rfl
theorem l_cons {ops : Array Oper} {rest : List Oper} {d : Option Tmp} {op : Op} {ty : TypeId} {pos : String} {after : Array Edge} :
    opsA P gl ops (⟨d, op, ty, pos, after, none⟩ :: rest) σ K = opA P gl ⟨d, op, ty, pos, after, none⟩ σ fun σ' => opsA P gl ops rest σ' K := rfl
def dstAt (l : List Oper) (j : Nat) : Option Tmp := (l[j]?).bind Oper.dst
def regAt (σ : S) (d : Option Tmp) : Option (Option Bool) := match d with
  | some d => boolR (σ.regs d)
  | none => none
theorem ra_some {d : Tmp} : regAt σ (some d) = boolR (σ.regs d) := rfl
theorem da_0 {d : Option Tmp} {op : Op} {ty : TypeId} {pos : String} {after : Array Edge} {g : Option (Nat × Bool)} {l : List Oper} : dstAt (⟨d, op, ty, pos, after, g⟩ :: l) 0 = d := rfl
theorem da_s {o : Oper} {l : List Oper} {j : Nat} : dstAt (o :: l) (j + 1) = dstAt l j := rfl
theorem guardR_eq {l : List Oper} {j : Nat} : guardR l.toArray σ j = regAt σ (dstAt l j) := by
  simp only [guardR, regAt, dstAt, List.getElem?_toArray]
  cases (l[j]?).bind Oper.dst with
  | none => rfl
  | some d =>
    simp only [Option.map_some, boolR]
    rcases σ.regs d with _ | ((v | _ | _ | _ | _) | _) | _ | _ | _ | _ | _ | _ | _ <;> try rfl
    · cases v <;> rfl
    · rename_i xs; cases xs <;> rfl
theorem l_guard {l : List Oper} {rest : List Oper} {d : Option Tmp} {op : Op} {ty : TypeId} {pos : String} {after : Array Edge} {j : Nat} {want : Bool} :
    opsA P gl l.toArray (⟨d, op, ty, pos, after, some (j, want)⟩ :: rest) σ K =
    gdK (regAt σ (dstAt l j)) want (opA P gl ⟨d, op, ty, pos, after, some (j, want)⟩ σ fun σ' => opsA P gl l.toArray rest σ' K) (opsA P gl l.toArray rest (σ.put d (.tp [])) K) := by
  simp only [opsA, guardR_eq, gdK]
  rcases regAt σ (dstAt l j) with _ | _ | _ <;> rfl
theorem d_nil {ops : Array Oper} : opsQ P gl ops [] σ K = K σ := rfl
theorem d_cons {ops : Array Oper} {rest : List Oper} {d : Option Tmp} {op : Op} {ty : TypeId} {pos : String} {after : Array Edge} :
    opsQ P gl ops (⟨d, op, ty, pos, after, none⟩ :: rest) σ K = inD P gl ⟨d, op, ty, pos, after, none⟩ σ fun σ' => opsQ P gl ops rest σ' K := rfl
theorem d_guard {l : List Oper} {rest : List Oper} {d : Option Tmp} {op : Op} {ty : TypeId} {pos : String} {after : Array Edge} {j : Nat} {want : Bool} :
    opsQ P gl l.toArray (⟨d, op, ty, pos, after, some (j, want)⟩ :: rest) σ K =
    gdK (regAt σ (dstAt l j)) want (inD P gl ⟨d, op, ty, pos, after, some (j, want)⟩ σ fun σ' => opsQ P gl l.toArray rest σ' K) (opsQ P gl l.toArray rest (σ.put d (.tp [])) K) := by
  simp only [opsQ, guardR_eq, gdK]
  rcases regAt σ (dstAt l j) with _ | _ | _ <;> rfl
theorem in_D {o : Oper} : inD P gl o σ K = inG (quietO o) (opQ P gl o σ fun r => K (σ.put o.dst r)) (opA P gl o σ K) := by
  simp only [inD, inG]
  cases quietO o <;> rfl
theorem dst_mk {d : Option Tmp} {op : Op} {ty : TypeId} {pos : String} {after : Array Edge} {g : Option (Nat × Bool)} : (Oper.mk d op ty pos after g).dst = d := rfl

/-! ### Loads and stores -/
def ldB (ti : Option TI) (m : Option Ob) (off : Nat) : Option R := match ti, m with
  | some ⟨_, _, false, _⟩, some (.box cs) => cs[off]?
  | some ⟨sz, _, true, _⟩, some (.box cs) => cond (decide (off + sz ≤ cs.length)) ((allD ((cs.drop off).take sz)).map fun ds => .a (.ag ds)) none
  | _, _ => none
def ldP (ti : Option TI) (cs : List D) : Option R := match ti with
  | some ⟨_, _, false, _⟩ => (cs[0]?).map fun d => .a (.d d)
  | some ⟨sz, _, true, _⟩ => cond (decide (sz ≤ cs.length)) (some (.a (.ag (cs.take sz)))) none
  | _ => none
def ldE (ti : Option TI) (m : Option (List D)) (sz j : Nat) : Option R := match ti, m with
  | some ⟨_, _, false, _⟩, some x => cond (decide (x.length = sz)) ((x[j]?).map fun d => .a (.d d)) none
  | some ⟨s, _, true, _⟩, some x => cond (decide (x.length = sz)) (cond (decide (j + s ≤ x.length)) (some (.a (.ag ((x.drop j).take s)))) none) none
  | _, _ => none
theorem ld_ref {t : TypeId} {o off : Nat} : loadR P σ t (.ref o off) = ldB (tinf P t) (σ.mem o) off := by
  simp only [loadR, ldB]
  rcases tinf P t with _ | ⟨_, _, ag, _⟩
  · rcases σ.mem o with _ | (_ | _ | _) <;> rfl
  · rcases σ.mem o with _ | (_ | _ | _) <;> cases ag <;> try rfl
    simp only []
    split <;> simp [*]
theorem ld_pt {t : TypeId} {cs : List D} : loadR P σ t (.a (.d (.pt cs))) = ldP (tinf P t) cs := by
  simp only [loadR, ldP]
  rcases tinf P t with _ | ⟨_, _, ag, _⟩
  · rfl
  · cases ag <;> try rfl
    simp only []
    split <;> simp [*]
theorem ld_eref {t : TypeId} {o i sz j : Nat} : loadR P σ t (.eref o i sz j) = ldE (tinf P t) ((logOf (σ.mem o)).bind (·[i]?)) sz j := by
  simp only [loadR, ldE, logOf]
  rcases tinf P t with _ | ⟨_, _, ag, _⟩
  · rcases σ.mem o with _ | (_ | ⟨e, z, xs⟩ | _) <;> try rfl
  · rcases σ.mem o with _ | (_ | ⟨e, z, xs⟩ | _) <;> cases ag <;> try rfl
    · simp only [Option.bind_some]
      cases xs[i]? with
      | none => rfl
      | some x => simp only []; split <;> simp [*]
    · simp only [Option.bind_some]
      cases xs[i]? with
      | none => rfl
      | some x =>
        simp only []
        by_cases h1 : x.length = sz
        · subst h1; simp
        · simp [h1]
theorem lb_one {sz bs off : Nat} {z : List Value} {cs : List R} : ldB (some ⟨sz, bs, false, z⟩) (some (.box cs)) off = cs[off]? := rfl
theorem lb_ag {sz bs off : Nat} {z : List Value} {cs : List R} : ldB (some ⟨sz, bs, true, z⟩) (some (.box cs)) off = cond (decide (off + sz ≤ cs.length)) ((allD ((cs.drop off).take sz)).map fun ds => .a (.ag ds)) none := rfl
theorem lp_one {sz bs : Nat} {z : List Value} {cs : List D} : ldP (some ⟨sz, bs, false, z⟩) cs = (cs[0]?).map fun d => .a (.d d) := rfl
theorem lp_ag {sz bs : Nat} {z : List Value} {cs : List D} : ldP (some ⟨sz, bs, true, z⟩) cs = cond (decide (sz ≤ cs.length)) (some (.a (.ag (cs.take sz)))) none := rfl
theorem le_one {s bs sz j : Nat} {z : List Value} {x : List D} : ldE (some ⟨s, bs, false, z⟩) (some x) sz j = cond (decide (x.length = sz)) ((x[j]?).map fun d => .a (.d d)) none := rfl
theorem le_ag {s bs sz j : Nat} {z : List Value} {x : List D} : ldE (some ⟨s, bs, true, z⟩) (some x) sz j = cond (decide (x.length = sz)) (cond (decide (j + s ≤ x.length)) (some (.a (.ag ((x.drop j).take s)))) none) none := rfl
theorem ad_nil : allD [] = some [] := rfl
theorem ad_cons {x : D} {rs : List R} : allD (.a (.d x) :: rs) = (allD rs).map (x :: ·) := rfl
theorem cl_ag {ds : List D} : cellsR (.a (.ag ds)) = some (ds.map fun d => .a (.d d)) := rfl
theorem cl_d {x : D} : cellsR (.a (.d x)) = some [.a (.d x)] := rfl
theorem cl_cs {xs : List (List D)} : cellsR (.cs xs) = some [.a (.d (.sl xs))] := rfl
theorem cl_own {o : Nat} : cellsR (.own o) = some [.own o] := rfl
theorem cl_ref {o f : Nat} : cellsR (.ref o f) = some [.ref o f] := rfl
theorem cl_agr {xs : List R} : cellsR (.agr xs) = some xs := rfl
theorem k_agr {o : Nat} {xs : List R} (h : (xs.any (R.says0 o)) = false) : (R.agr xs).kill o = .agr xs := by
  unfold R.kill
  rw [show (R.agr xs).says o = false from h]; rfl
theorem cl_omp {o : Nat} : cellsR (.omp o) = some [.omp o] := rfl
/-- Cells are overwritten. -/
def spl (cs new : List R) (off : Nat) : Option (List R) := cond (decide (off + new.length ≤ cs.length)) (some (match new with
  | [r] => cs.set off r
  | _ => cs.take off ++ new ++ cs.drop (off + new.length))) none
def stB (σ : S) (ti : Option TI) (new : Option (List R)) (o off : Nat) (m : Option Ob) : Option S := match ti, new, m with
  | some ti, some new, some (.box cs) => cond (decide (new.length = ti.sz)) ((spl cs new off).map fun cs => σ.setOb o (.box cs)) none
  | _, _, _ => none
theorem stB_congr {ti ti' : Option TI} {new new' : Option (List R)} {o off : Nat} {m m' : Option Ob} {tk0 : Bool} (hT : tick = tk0) (h : ti = ti') (h1 : new = new') (h2 : m = m') : stB σ ti new o off m = stB σ ti' new' o off m' := by rw [h, h1, h2]
attribute [congr] stB_congr
theorem st_ref {t : TypeId} {o off : Nat} {x : R} : storeR P σ t (.ref o off) x = stB σ (tinf P t) (cellsR x) o off (σ.mem o) := by
  simp only [storeR, stB, spl]
  rcases tinf P t with _ | ti <;> rcases cellsR x with _ | new <;> try rfl
  rcases σ.mem o with _ | (cs | _ | _) <;> simp only [ite_self]
  by_cases h1 : new.length = ti.sz
  · simp only [h1]
    by_cases h2 : off + ti.sz ≤ cs.length
    · simp only [h2, decide_true, cond_true, if_true, Option.map_some]; rfl
    · simp [h2]
  · simp [h1]
theorem sb_one {sz bs o off : Nat} {ag : Bool} {z : List Value} {r : R} {cs : List R} (h : (sz == 1) = true) (h' : off + 1 ≤ cs.length) : stB σ (some ⟨sz, bs, ag, z⟩) (some [r]) o off (some (.box cs)) = some (σ.setOb o (.box (cs.set off r))) := by
  have : sz = 1 := by simpa using h
  subst this
  simp [stB, spl, h']
theorem sb_ag {sz bs o off : Nat} {z : List Value} {new : List R} {cs : List R} : stB σ (some ⟨sz, bs, true, z⟩) (some new) o off (some (.box cs)) = cond (decide (new.length = sz)) ((spl cs new off).map fun cs => σ.setOb o (.box cs)) none := rfl

/-! ### Results of calls -/
theorem t_a {d : Tmp} {x : A} (h : decide (d + 1 ≤ 1000000000) = true) : S.ret σ (some d) [.a x] K = K (σ.put (some d) (.a x)) := by
  have : d + 1 ≤ 1000000000 := by simpa using h
  simp [S.ret, baseId, Rv.isFresh, freshOf, regsOf, one, this]
theorem t_c {d : Tmp} {xs : List (List D)} (h : decide (d + 1 ≤ 1000000000) = true) : S.ret σ (some d) [.clip xs] K = K (σ.put (some d) (.cs xs)) := by
  have : d + 1 ≤ 1000000000 := by simpa using h
  simp [S.ret, baseId, Rv.isFresh, freshOf, regsOf, one, this]
theorem t_f {d : Tmp} {e : TypeId} {z : Nat} {xs : List (List D)} (h : decide (d + 1 ≤ 1000000000) = true) : S.ret σ (some d) [.fresh e z xs] K = K ((σ.newOb d (.log e z xs)).put (some d) (.own d)) := by
  have : d + 1 ≤ 1000000000 := by simpa using h
  simp [S.ret, baseId, Rv.isFresh, freshOf, regsOf, one, this, List.filter]
theorem t_aa {d : Tmp} {x y : A} (h : decide (1000 + 16 * d + 2 ≤ 1000000000) = true) : S.ret σ (some d) [.a x, .a y] K = K (σ.put (some d) (.tp [.a x, .a y])) := by
  have : 1000 + 16 * d + 2 ≤ 1000000000 := by simpa using h
  simp [S.ret, baseId, Rv.isFresh, freshOf, regsOf, one, this]
theorem t_aaa {d : Tmp} {x y z : A} (h : decide (1000 + 16 * d + 3 ≤ 1000000000) = true) : S.ret σ (some d) [.a x, .a y, .a z] K = K (σ.put (some d) (.tp [.a x, .a y, .a z])) := by
  have : 1000 + 16 * d + 3 ≤ 1000000000 := by simpa using h
  simp [S.ret, baseId, Rv.isFresh, freshOf, regsOf, one, this]

/-- Registers that are data. -/
def datR : List A → List R
  | [] => []
  | x :: xs => .a x :: datR xs
theorem datR_eq : ∀ (as : List A), datR as = as.map R.a
  | [] => rfl
  | x :: as => by simp [datR, datR_eq as]
theorem argsA_dat : ∀ (as : List A), argsA σ (datR as) = some as
  | [] => rfl
  | x :: as => by simp [datR, argsA, argA, argsA_dat as]
theorem rest_dat {KS : S → List A → Prop} : ∀ (as acc : List A), S.rest σ (datR as) acc KS = KS σ (acc.reverse ++ as)
  | [], acc => by simp [datR, S.rest]
  | x :: as, acc => by
    simp only [datR, S.rest, argA, R.low, S.rest1, true_and]
    rw [rest_dat as]; simp
/-- A call of a function that is known, all that is handed to it being data. -/
theorem call_dat {f : FuncId} {as : List A} {res : List Rv} {dst : Option Tmp} (h : Holds P gl f as res) (k : S.ret σ dst res K) : callV P gl f (datR as) dst σ K :=
  .inr (.inl ⟨res, by rw [rest_dat]; simpa using ⟨h, k⟩⟩)
theorem call_inl {f : FuncId} {rs : List R} {dst : Option Tmp} (h : Inl P gl f rs σ fun σ' rs' => K (σ'.put dst (one rs'))) : callV P gl f rs dst σ K := .inr (.inr h)
theorem call_flat {f : FuncId} {rs : List R} {as : List A} {res : List Rv} {dst : Option Tmp} (ha : argsA σ rs = some as) (h : Holds P gl f as res) (hf : res.all Rv.flat = true) (k : S.ret σ dst res K) : callV P gl f rs dst σ K :=
  .inl ⟨as, res, ha, h, hf, k⟩
theorem callQ_flat {f : FuncId} {rs : List R} {as res : List A} {KR : R → Prop} (h : Holds P gl f as (res.map Rv.a)) (ha : argsA σ rs = some as) (hf : res.all A.flat = true) (k : KR (retR res)) : callVQ P gl f rs σ KR :=
  ⟨as, res, ha, h, .inl hf, k⟩
theorem callQ_dat {f : FuncId} {as res : List A} {KR : R → Prop} (h : Holds P gl f as (res.map Rv.a)) (k : KR (retR res)) : callVQ P gl f (datR as) σ KR :=
  ⟨as, res, argsA_dat as, h, .inr (datR_eq as), k⟩

/-! ### The end of a call -/
def postR (P : Program) (vs : List ResultVar) (res : List Rv) : Ex → S → Prop
  | .normal, σ | .ret, σ => aloneRs res ∧ endRs P σ vs res
  | _, _ => False
theorem p_ret {vs : List ResultVar} {res : List Rv} : postR P vs res .ret σ = (aloneRs res ∧ endRs P σ vs res) := rfl
theorem p_normal {vs : List ResultVar} {res : List Rv} : postR P vs res .normal σ = (aloneRs res ∧ endRs P σ vs res) := rfl
theorem al_a {x : A} : aloneRs [.a x] = True := by simp [aloneRs, Rv.isFresh]
theorem al_c {xs : List (List D)} : aloneRs [.clip xs] = True := by simp [aloneRs, Rv.isFresh]
theorem al_f {e : TypeId} {z : Nat} {xs : List (List D)} : aloneRs [.fresh e z xs] = True := by simp [aloneRs, Rv.isFresh, List.filter]
theorem al_aa {x y : A} : aloneRs [.a x, .a y] = True := by simp [aloneRs, Rv.isFresh]
theorem al_aaa {x y z : A} : aloneRs [.a x, .a y, .a z] = True := by simp [aloneRs, Rv.isFresh]
theorem er_nil : endRs P σ [] [] = True := rfl
theorem er_cons {v : ResultVar} {vs : List ResultVar} {r : Rv} {rs : List Rv} : endRs P σ (v :: vs) (r :: rs) = (endR P σ v (σ.regs (rvTmp v)) r ∧ endRs P σ vs rs) := rfl
theorem rv_t {t : Tmp} : rvTmp (.tmp t) = t := rfl
theorem rv_c {t : Tmp} {u : TypeId} : rvTmp (.cell t u) = t := rfl
theorem en_d {t : Tmp} {r : R} {x : D} : endR P σ (.tmp t) r (.a (.d x)) = (endD σ r = some x) := rfl
theorem en_ag {t : Tmp} {xs ys : List D} : endR P σ (.tmp t) (.a (.ag ys)) (.a (.ag xs)) = (ys = xs) := by simp [endR]
theorem en_c {t : Tmp} {xs ys : List (List D)} : endR P σ (.tmp t) (.cs xs) (.clip ys) = (xs = ys) := rfl
theorem en_f {t : Tmp} {o : Nat} {e : TypeId} {z : Nat} {ys : List (List D)} : endR P σ (.tmp t) (.own o) (.fresh e z ys) = (o < 1000000000 ∧ σ.mem o = some (.log e z ys)) := rfl
theorem ed_a {x : D} : endD σ (.a (.d x)) = some x := rfl
theorem ed_c {xs : List (List D)} : endD σ (.cs xs) = some (.sl xs) := rfl
theorem ed_own {o : Nat} : endD σ (.own o) = (logOf (σ.mem o)).map .sl := by
  simp only [endD, logOf]
  rcases σ.mem o with _ | (_ | _ | _) <;> rfl
theorem fn_holds {gl : Nat → Option (List D)} {f : FuncId} {fn : Func} {body : Code} {as : List A} {res : List Rv} {vs : List ResultVar} (hm : P.follows .mixedOrders = true)
    (hf : P.funcs[f]? = some fn) (hb : fn.body = some body) (hr : fn.results.toList = vs) (hname : (fn.name == "runtime.NumGoroutine") = false) (hd : dstOK fn.ntmps body = true) (hN : (decide (as.length ≤ fn.ntmps)) = true)
    (h : awp P gl body (postR P vs res) (S.init as)) : Holds P gl f as res :=
  holds_of hm hf hb hname hd (by simpa using hN) (awp_mono body (fun e σ he => by subst hr; cases e <;> exact he) h)

/-! ### Loops, by a list of what is known at their head -/
theorem hr_nil : hasR σ [] = True := rfl
theorem hr_cons {t : Nat} {r : R} {L : List (Nat × R)} : hasR σ ((t, r) :: L) = (σ.regs t = r ∧ hasR σ L) := rfl
theorem hm_nil : hasM σ [] = True := rfl
theorem hm_cons {o : Nat} {x : Ob} {M : List (Nat × Ob)} : hasM σ ((o, x) :: M) = (σ.mem o = some x ∧ hasM σ M) := rfl
/-- A round's end: the next round's ghosts. -/
def nextR {α : Type} (I : α → List (Nat × R)) (M : α → List (Nat × Ob)) (ok : α → Prop) (m : α → Nat) (a : α) (σ : S) : Prop :=
  ∃ a', hasR σ (I a') ∧ hasM σ (M a') ∧ ok a' ∧ m a' < m a
theorem awp_loopA {α : Type} (I : α → List (Nat × R)) (M : α → List (Nat × Ob)) (ok : α → Prop) (m : α → Nat) {c : Code} (a0 : α) (h0 : hasR σ (I a0)) (h1 : hasM σ (M a0)) (h2 : ok a0)
    (h : ∀ a j, ok a → awp P gl c (Ex.then (nextR I M ok m a) Q) (S.of (I a) (M a) j)) : awp P gl (.loop c) Q σ := by
  refine awp_loop (fun n σ => ∃ a, hasR σ (I a) ∧ hasM σ (M a) ∧ ok a ∧ m a = n) (m a0) ⟨a0, h0, h1, h2, rfl⟩ fun n σ ⟨a, hr, hm, hok, hn⟩ => ?_
  rw [S.of_self hr hm]
  refine awp_mono c (fun e σ he => ?_) (h a σ hok)
  cases e with
  | normal => obtain ⟨a', k1, k2, k3, k4⟩ := he; exact ⟨m a', by omega, a', k1, k2, k3, rfl⟩
  | exit id => exact he
  | ret => exact he

/-! ### What is handed in is data of the machine -/
def IsD (x : D) : Prop := ∃ st w v, Rd st w v x
def IsA : A → Prop
  | .d x => IsD x
  | .ag xs => ∀ x ∈ xs, IsD x
theorem IsD.len {xs : List (List D)} (h : IsD (.sl xs)) : xs.length ≤ maxLen := by
  obtain ⟨st, w, v, h⟩ := h
  cases h with
  | nil => exact Nat.zero_le _
  | sl _ _ hn hcap hm _ _ _ => omega
theorem IsD.sub {xs : List (List D)} {x : List D} {d : D} (h : IsD (.sl xs)) (hx : x ∈ xs) (hd : d ∈ x) : IsD d := by
  obtain ⟨st, w, v, h⟩ := h
  cases h with
  | nil => cases hx
  | sl _ _ _ _ _ _ _ h =>
    obtain ⟨i, hi⟩ := List.getElem?_of_mem hx
    obtain ⟨j, hj⟩ := List.getElem?_of_mem hd
    exact ⟨_, _, _, h i x j d hi hj⟩
theorem IsA.of {st : Nat → Prop} {w : World} {v : Value} {x : A} (h : RelA st w v x) : IsA x := by
  cases x with
  | d x => exact ⟨_, _, _, h⟩
  | ag xs =>
    obtain ⟨cs, _, hf⟩ := h
    intro d hd
    obtain ⟨j, hj⟩ := List.getElem?_of_mem hd
    obtain ⟨v, _, hr⟩ := hf.get hj
    exact ⟨_, _, _, hr⟩
def IsAs : List A → Prop
  | [] => True
  | x :: xs => IsA x ∧ IsAs xs
theorem IsAs.of {st : Nat → Prop} {w : World} : ∀ {vs : List Value} {as : List A}, F2 (RelA st w) vs as → IsAs as
  | _, [], _ => trivial
  | _, x :: as, h => by
    obtain ⟨v, vs, rfl, h0, h1⟩ := h.of_cons
    exact ⟨IsA.of h0, IsAs.of h1⟩
theorem fn_holds_is {gl : Nat → Option (List D)} {f : FuncId} {fn : Func} {body : Code} {as : List A} {res : List Rv} {vs : List ResultVar} (hm : P.follows .mixedOrders = true)
    (hf : P.funcs[f]? = some fn) (hb : fn.body = some body) (hr : fn.results.toList = vs) (hname : (fn.name == "runtime.NumGoroutine") = false) (hd : dstOK fn.ntmps body = true) (hN : (decide (as.length ≤ fn.ntmps)) = true)
    (h : IsAs as → awp P gl body (postR P vs res) (S.init as)) : Holds P gl f as res :=
  ⟨⟨fn, hf, by rw [hb]; rfl, hname⟩, fun st w vs he hv => (fn_holds hm hf hb hr hname hd hN (h (IsAs.of hv))).2 st w vs he hv⟩
end

theorem rg1 : List.range 1 = [0] := rfl
theorem rg2 : List.range 2 = [0, 1] := rfl
theorem rg3 : List.range 3 = [0, 1, 2] := rfl
theorem rg4 : List.range 4 = [0, 1, 2, 3] := rfl
theorem rg5 : List.range 5 = [0, 1, 2, 3, 4] := rfl
theorem rp1 {x : List D} : List.replicate 1 x = [x] := rfl
theorem rp2 {x : List D} : List.replicate 2 x = [x, x] := rfl
theorem rp3 {x : List D} : List.replicate 3 x = [x, x, x] := rfl
theorem rp4 {x : List D} : List.replicate 4 x = [x, x, x, x] := rfl
theorem rp5 {x : List D} : List.replicate 5 x = [x, x, x, x, x] := rfl
theorem fl_nil : ([] : List (List D)).flatten = [] := rfl
theorem fl_cons {x : List D} {l : List (List D)} : (x :: l).flatten = x ++ l.flatten := by simp
theorem all_nil {p : Value → Bool} : [].all p = true := rfl
theorem all_cons {p : Value → Bool} {x : Value} {xs : List Value} : (x :: xs).all p = (p x && xs.all p) := rfl
theorem oa_nil {p : Nat × Nat × Bool → Bool} : [].all p = true := rfl
theorem oa_cons {p : Nat × Nat × Bool → Bool} {x : Nat × Nat × Bool} {xs : List (Nat × Nat × Bool)} : (x :: xs).all p = (p x && xs.all p) := rfl
theorem oc_i {k : IntKind} {n : Int} : Value.oneCell' (.int k n) = true := rfl
theorem oc_b {b : Bool} : Value.oneCell' (.bool b) = true := rfl
theorem oc_s {b : ByteArray} : Value.oneCell' (.string b) = true := rfl
theorem oc_l : Value.oneCell' (.slice none 0 0) = true := rfl
theorem oc_m : Value.oneCell' (.map none) = true := rfl
theorem oc_p : Value.oneCell' (.pointer none) = true := rfl
theorem cd_i {k : IntKind} {n : Int} : cellD (.int k n) = .v (.int k n) := rfl
theorem cd_b {b : Bool} : cellD (.bool b) = .v (.bool b) := rfl
theorem cd_s {b : ByteArray} : cellD (.string b) = .v (.string b) := rfl
theorem cd_l : cellD (.slice none 0 0) = .sl [] := rfl
theorem cd_m : cellD (.map none) = .mp [] := rfl
theorem cd_p : cellD (.pointer none) = .v (.pointer none) := rfl
theorem fa_nil {p : List D → Prop} : (∀ c ∈ ([] : List (List D)), p c) = True := by simp
theorem fa_cons {p : List D → Prop} {x : List D} {l : List (List D)} : (∀ c ∈ x :: l, p c) = (p x ∧ ∀ c ∈ l, p c) := by simp
theorem and_tt : (true && true) = true := rfl

section
variable {dst : Option Tmp} {ty : TypeId} {pos : String} {after : Array Edge} {g : Option (Nat × Bool)}
theorem qt_move {x : Operand} : quietO ⟨dst, .move x, ty, pos, after, g⟩ = true := rfl
theorem qt_asg_t {t : Tmp} : quietO ⟨dst, .assign (.tmp t), ty, pos, after, g⟩ = true := rfl
theorem qt_asg_i {k : IntKind} {n : Int} : quietO ⟨dst, .assign (.const (.int k n)), ty, pos, after, g⟩ = true := rfl
theorem qt_asg_b {b : Bool} : quietO ⟨dst, .assign (.const (.bool b)), ty, pos, after, g⟩ = true := rfl
theorem qt_pick {x y z : Operand} : quietO ⟨dst, .pick x y z, ty, pos, after, g⟩ = true := rfl
theorem qt_load {t : TypeId} {p : Operand} : quietO ⟨dst, .load t p, ty, pos, after, g⟩ = true := rfl
theorem qt_fld {t : TypeId} {p : Operand} {f : Nat} : quietO ⟨dst, .fieldAddr t p f, ty, pos, after, g⟩ = true := rfl
theorem qt_idx {t : TypeId} {p f : Operand} : quietO ⟨dst, .indexAddr t p f, ty, pos, after, g⟩ = true := rfl
theorem qt_nil {p : Operand} : quietO ⟨dst, .nilCheck p, ty, pos, after, g⟩ = true := rfl
theorem qt_bin {op : BinOp} {t u : TypeId} {x y : Operand} : quietO ⟨dst, .binOp op t x y u, ty, pos, after, g⟩ = true := rfl
theorem qt_un {op : UnOp} {t : TypeId} {x : Operand} : quietO ⟨dst, .unOp op t x, ty, pos, after, g⟩ = true := rfl
theorem qt_cv {t u : TypeId} {x : Operand} : quietO ⟨dst, .convert t u x, ty, pos, after, g⟩ = true := rfl
theorem qt_ext {x : Operand} {i : Nat} : quietO ⟨dst, .extract x i, ty, pos, after, g⟩ = true := rfl
theorem qt_sli {t : TypeId} {x : Operand} {l h m : Option Operand} : quietO ⟨dst, .slice t x l h m, ty, pos, after, g⟩ = true := rfl
theorem qt_lk {t : TypeId} {x i : Operand} {ok : Bool} : quietO ⟨dst, .lookup t x i ok, ty, pos, after, g⟩ = true := rfl
theorem qt_len {l : Array Operand} {ts : Array TypeId} : quietO ⟨dst, .call ⟨.builtin .len, l, ts⟩, ty, pos, after, g⟩ = true := rfl
theorem qt_min {l : Array Operand} {ts : Array TypeId} : quietO ⟨dst, .call ⟨.builtin .min, l, ts⟩, ty, pos, after, g⟩ = true := rfl
theorem qt_max {l : Array Operand} {ts : Array TypeId} : quietO ⟨dst, .call ⟨.builtin .max, l, ts⟩, ty, pos, after, g⟩ = true := rfl
theorem qt_cal {f : Operand} {l : Array Operand} {ts : Array TypeId} : quietO ⟨dst, .call ⟨.value f, l, ts⟩, ty, pos, after, g⟩ = true := rfl
theorem qt_app {l : Array Operand} {ts : Array TypeId} : quietO ⟨dst, .call ⟨.builtin .append, l, ts⟩, ty, pos, after, g⟩ = false := rfl
theorem qt_sto {t : TypeId} {p x : Operand} : quietO ⟨dst, .store t p x, ty, pos, after, g⟩ = false := rfl
theorem qt_alc {t : TypeId} : quietO ⟨dst, .alloc t, ty, pos, after, g⟩ = false := rfl
theorem qt_box {t : TypeId} {x : Operand} : quietO ⟨dst, .box t x, ty, pos, after, g⟩ = false := rfl
theorem qt_bld {t : TypeId} {l : Array (Nat × Operand)} : quietO ⟨dst, .build t l, ty, pos, after, g⟩ = false := rfl
theorem qt_bsl {t : TypeId} {n : Nat} {l : Array (Nat × Operand)} : quietO ⟨dst, .buildSlice t n l, ty, pos, after, g⟩ = false := rfl
theorem qt_mkm {t : TypeId} {r : Option Operand} : quietO ⟨dst, .makeMap t r, ty, pos, after, g⟩ = false := rfl
theorem qt_mku {t : TypeId} {m k v : Operand} : quietO ⟨dst, .mapUpdate t m k v, ty, pos, after, g⟩ = false := rfl
theorem qt_ins {t : TypeId} {m k v : Operand} : quietO ⟨dst, .insert t m k v, ty, pos, after, g⟩ = false := rfl
end
theorem rt_1 {x : A} : retR [x] = .a x := rfl
theorem rt_2 {x y : A} : retR [x, y] = .tp [.a x, .a y] := rfl

section
variable {P : Program} {gl : Nat → Option (List D)} {σ : S} {K : S → Prop} {dst : Option Tmp} {ty : TypeId} {pos : String} {after : Array Edge} {g : Option (Nat × Bool)}
def isMapT (P : Program) (t : TypeId) : Bool := match tk P t with
  | .map _ _ => true
  | _ => false
def kvR : R → Option (List (Int × D))
  | .a (.d (.mp kv)) => some kv
  | _ => none
theorem kv_mp {kv : List (Int × D)} : kvR (.a (.d (.mp kv))) = some kv := rfl
theorem y_range {t : TypeId} {x : Operand} {d : Tmp} : opA P gl ⟨some d, .range t x, ty, pos, after, g⟩ σ K = inG (isMapT P t) (mat (kvR (σ.eval gl x)) fun kv => K ((σ.newOb d (.iter kv [])).put (some d) (.ref d 0))) False := by
  simp only [opA, isX, opA0, rangeK, isMapT, inG]
  cases tk P t <;> try rfl
  rcases σ.eval gl x with _ | ((v | _ | _ | _ | _) | _) | _ | _ | _ | _ | _ | _ | _ <;> rfl
/-- A step of a range over a map. -/
def stepG (σ : S) (x : R) (dst : Option Tmp) (K : S → Prop) : Prop := nextK σ x dst K
theorem stepG_congr {x x' : R} {tk0 : Bool} (hT : tick = tk0) (h : x = x') : stepG σ x dst K = stepG σ x' dst K := by rw [h]
theorem y_next {x : Operand} : opA P gl ⟨dst, .next x false, ty, pos, after, g⟩ σ K = stepG σ (σ.eval gl x) dst K := rfl
theorem step_intro {ob : Nat} {kv : List (Int × D)} {seen : List Nat} (hm : σ.mem ob = some (.iter kv seen))
    (h1 : ∀ (i : Nat) (p : Int × D), kv[i]? = some p → i ∉ seen → K ((σ.setOb ob (.iter kv (seen ++ [i]))).put dst (.tp [.a (.d (.v (.bool true))), .a (.d (.v (.int .i64 p.1))), .a (.d p.2)])))
    (h2 : (∀ i, i < kv.length → i ∈ seen) → K (σ.put dst (.tp [.a (.d (.v (.bool false)))]))) : stepG σ (.ref ob 0) dst K := by
  simp only [stepG, nextK, hm]; exact ⟨h1, h2⟩
def itOf : Option Ob → Option (Int × D)
  | some (.iter kv seen) => seen.getLast?.bind (kv[·]?)
  | _ => none
theorem it_o {kv : List (Int × D)} {seen : List Nat} {i : Nat} : itOf (some (.iter kv (seen ++ [i]))) = kv[i]? := by simp [itOf]
def entG (σ : S) (x : R) (K : R → Prop) : Prop := match x with
  | .ref ob 0 => mat (itOf (σ.mem ob)) fun p => K (.tp [.a (.d (.v (.int .i64 p.1))), .a (.d p.2)])
  | _ => False
theorem entG_congr {x x' : R} {K : R → Prop} {tk0 : Bool} (hT : tick = tk0) (h : x = x') : entG σ x K = entG σ x' K := by rw [h]
theorem eg_ref {ob : Nat} {K : R → Prop} : entG σ (.ref ob 0) K = mat (itOf (σ.mem ob)) fun p => K (.tp [.a (.d (.v (.int .i64 p.1))), .a (.d p.2)]) := rfl
theorem y_entry {x : Operand} : opA P gl ⟨dst, .entry x, ty, pos, after, g⟩ σ K = entG σ (σ.eval gl x) fun r => K (σ.put dst r) := by
  simp only [opA, isX, opA0, entryK, entG, mat, itOf]
  rcases σ.eval gl x with _ | ((v | _ | _ | _ | _) | _) | _ | ⟨ob, off⟩ | _ | _ | _ | _ | _ <;> try rfl
  cases off <;> try rfl
  rcases hm : σ.mem ob with _ | (_ | _ | _ | ⟨kv, seen⟩)
  all_goals simp only [hm]
  cases seen.getLast?.bind fun x => kv[x]? <;> rfl
theorem qt_rng {t : TypeId} {x : Operand} : quietO ⟨dst, .range t x, ty, pos, after, g⟩ = false := rfl
theorem qt_nxt {b : Bool} {x : Operand} : quietO ⟨dst, .next x b, ty, pos, after, g⟩ = false := rfl
theorem qt_ent {x : Operand} : quietO ⟨dst, .entry x, ty, pos, after, g⟩ = false := rfl
theorem ok_iter {o : Nat} {kv : List (Int × D)} {seen : List Nat} : (Ob.iter kv seen).kill o = .iter kv seen := rfl
theorem of_iter {o : Nat} {f : Nat → D} {kv : List (Int × D)} {seen : List Nat} : (Ob.iter kv seen).frz o f = .iter kv seen := rfl
attribute [congr] stepG_congr entG_congr
end

/-! ### Fresh cells -/
def zL : List Value → Option (List R)
  | [] => some []
  | v :: vs => if v.oneCell' then (zL vs).map (.a (.d (cellD v)) :: ·) else none
theorem zR_eq {sz bs : Nat} {ag : Bool} {z : List Value} : zR ⟨sz, bs, ag, z⟩ = zL z := by
  simp only [zR]
  induction z with
  | nil => rfl
  | cons v z ih =>
    simp only [zL, List.all_cons, List.map_cons, ← ih]
    by_cases h : v.oneCell' = true <;> by_cases h' : z.all Value.oneCell' = true <;> simp [h, h']
theorem zl_nil : zL [] = some [] := rfl
theorem zl_i {k : IntKind} {n : Int} {z : List Value} : zL (.int k n :: z) = (zL z).map (.a (.d (.v (.int k n))) :: ·) := rfl
theorem zl_b {b : Bool} {z : List Value} : zL (.bool b :: z) = (zL z).map (.a (.d (.v (.bool b))) :: ·) := rfl
theorem zl_s {b : ByteArray} {z : List Value} : zL (.string b :: z) = (zL z).map (.a (.d (.v (.string b))) :: ·) := rfl
theorem zl_sl {z : List Value} : zL (.slice none 0 0 :: z) = (zL z).map (.a (.d (.sl [])) :: ·) := rfl
theorem zl_m {z : List Value} : zL (.map none :: z) = (zL z).map (.a (.d (.mp [])) :: ·) := rfl
theorem zl_p {z : List Value} : zL (.pointer none :: z) = (zL z).map (.a (.d (.v (.pointer none))) :: ·) := rfl
theorem spl_2 {cs new : List R} {r1 r2 : R} {off : Nat} : spl cs (r1 :: r2 :: new) off = cond (decide (off + (r1 :: r2 :: new).length ≤ cs.length)) (some (cs.take off ++ (r1 :: r2 :: new) ++ cs.drop (off + (r1 :: r2 :: new).length))) none := rfl
theorem spl_1 {cs : List R} {r1 : R} {off : Nat} : spl cs [r1] off = cond (decide (off + [r1].length ≤ cs.length)) (some (cs.set off r1)) none := rfl

/-! ### Maps, rows, slices, structs -/
section
variable {P : Program} {gl : Nat → Option (List D)} {σ : S} {K : S → Prop} {KR : R → Prop} {KA : S → List A → Prop} {dst : Option Tmp} {ty : TypeId} {pos : String} {after : Array Edge} {g : Option (Nat × Bool)}
def mpoOf : Option Ob → Option (List (Int × D))
  | some (.mpo kv) => some kv
  | _ => none
def boxOf : Option Ob → Option (List R)
  | some (.box cs) => some cs
  | _ => none
theorem mp_o {kv : List (Int × D)} : mpoOf (some (.mpo kv)) = some kv := rfl
theorem bx_o {cs : List R} : boxOf (some (.box cs)) = some cs := rfl
theorem rest_congr {rs rs' : List R} {acc : List A} {tk0 : Bool} (hT : tick = tk0) (h : rs = rs') : S.rest σ rs acc KA = S.rest σ rs' acc KA := by rw [h]
theorem rs_nil {acc : List A} : S.rest σ [] acc KA = KA σ acc.reverse := rfl
theorem rs_a {x : A} {rs : List R} {acc : List A} : S.rest σ (.a x :: rs) acc KA = S.rest σ rs (x :: acc) KA := by simp [S.rest, argA, R.low, S.rest1]
theorem rs_cs {xs : List (List D)} {rs : List R} {acc : List A} : S.rest σ (.cs xs :: rs) acc KA = S.rest σ rs (.d (.sl xs) :: acc) KA := by simp [S.rest, argA, R.low, S.rest1]
theorem rs_own {o : Nat} {rs : List R} {acc : List A} : S.rest σ (.own o :: rs) acc KA = mat (logOf (σ.mem o)) fun xs => (decide (o < 1000000000) = true ∧ S.rest (σ.frz o fun _ => .sl xs) rs (.d (.sl xs) :: acc) KA) := by
  simp only [S.rest, argA, R.low, S.rest1, mat, logOf]
  rcases σ.mem o with _ | (_ | _ | _) <;> simp
theorem rs_omp {o : Nat} {rs : List R} {acc : List A} : S.rest σ (.omp o :: rs) acc KA = mat (mpoOf (σ.mem o)) fun kv => (decide (o < 1000000000) = true ∧ S.rest (σ.frz o fun _ => .mp kv) rs (.d (.mp kv) :: acc) KA) := by
  simp only [S.rest, argA, R.low, S.rest1, mat, mpoOf]
  rcases σ.mem o with _ | (_ | _ | _) <;> simp
theorem rs_ref {o off : Nat} {rs : List R} {acc : List A} : S.rest σ (.ref o off :: rs) acc KA = mat ((boxOf (σ.mem o)).bind allD) fun ds => (decide (o < 1000000000) = true ∧ S.rest (σ.frz o fun off => .pt (ds.drop off)) rs (.d (.pt (ds.drop off)) :: acc) KA) := by
  simp only [S.rest, argA, R.low, S.rest1, mat, boxOf]
  rcases σ.mem o with _ | (cs | _ | _) <;> simp
  cases allD cs <;> simp
def mapR (σ : S) (x : R) : Option (List (Int × D)) := mapOf σ x
theorem mo_d {kv : List (Int × D)} : mapOf σ (.a (.d (.mp kv))) = some kv := rfl
theorem mo_o {o : Nat} : mapOf σ (.omp o) = mpoOf (σ.mem o) := by
  simp only [mapOf, mpoOf]
  rcases σ.mem o with _ | (_ | _ | _) <;> rfl
def lookG (z : Option D) (kv : Option (List (Int × D))) (n : Option Int) (ok : Bool) : Option R := match z, kv, n with
  | some z, some kv, some n => match ok with
    | true => some (.tp [.a (.d ((kvGet kv n).getD z)), .a (.d (.v (.bool (kvGet kv n).isSome)))])
    | false => some (.a (.d ((kvGet kv n).getD z)))
  | _, _, _ => none
theorem lg_t {z : D} {kv : List (Int × D)} {n : Int} : lookG (some z) (some kv) (some n) true = some (.tp [.a (.d ((kvGet kv n).getD z)), .a (.d (.v (.bool (kvGet kv n).isSome)))]) := rfl
theorem lg_f {z : D} {kv : List (Int × D)} {n : Int} : lookG (some z) (some kv) (some n) false = some (.a (.d ((kvGet kv n).getD z))) := rfl
def as64 : R → Option Int
  | .a (.d (.v (.int .i64 n))) => some n
  | _ => none
theorem a64 {n : Int} : as64 (.a (.d (.v (.int .i64 n)))) = some n := rfl
theorem look_eq {t : TypeId} {x i : R} {ok : Bool} : lookR P σ t x i ok = lookG (mapT P t) (mapOf σ x) (as64 i) ok := by
  simp only [lookR, lookG, as64]
  cases mapT P t <;> try rfl
  cases mapOf σ x <;> try rfl
  rcases i with _ | ((v | _ | _ | _ | _) | _) | _ | _ | _ | _ | _ | _ | _ <;> try rfl
  cases v <;> try rfl
  rename_i k n; cases k <;> rfl
theorem z_look {t : TypeId} {x i : Operand} {ok : Bool} : opQ P gl ⟨dst, .lookup t x i ok, ty, pos, after, g⟩ σ KR = mat (lookG (mapT P t) (mapOf σ (σ.eval gl x)) (as64 (σ.eval gl i)) ok) KR := by
  simp only [opQ, look_eq, mat, fc]
  cases lookG (mapT P t) (mapOf σ (σ.eval gl x)) (as64 (σ.eval gl i)) ok <;> rfl
theorem y_look {t : TypeId} {x i : Operand} {ok : Bool} : opA P gl ⟨dst, .lookup t x i ok, ty, pos, after, g⟩ σ K = inG (isXT P t) (SemOp P gl ⟨dst, .lookup t x i ok, ty, pos, after, g⟩ σ K) (mat (lookG (mapT P t) (mapOf σ (σ.eval gl x)) (as64 (σ.eval gl i)) ok) fun r => K (σ.put dst r)) := by
  refine (opA_X).trans (Eq.trans (b := inG (isXT P t) (SemOp P gl ⟨dst, .lookup t x i ok, ty, pos, after, g⟩ σ K) (opQ P gl ⟨dst, .lookup t x i ok, ty, pos, after, g⟩ σ fun r => K (σ.put dst r))) rfl ?_)
  rw [z_look]
theorem y_mk0 {t : TypeId} {d : Tmp} : opA0 P gl ⟨some d, .makeMap t none, ty, pos, after, g⟩ σ K = mat (mapT P t) fun _ => K ((σ.newOb d (.mpo [])).put (some d) (.omp d)) := by
  simp only [opA0, mat]
  cases mapT P t <;> rfl
theorem y_mk {t : TypeId} {d : Tmp} : opA P gl ⟨some d, .makeMap t none, ty, pos, after, g⟩ σ K = inG (isXT P t) (SemOp P gl ⟨some d, .makeMap t none, ty, pos, after, g⟩ σ K) (mat (mapT P t) fun _ => K ((σ.newOb d (.mpo [])).put (some d) (.omp d))) := by
  rw [opA_X, y_mk0]; rfl
def updF (σ : S) (as : List A) (ob : Nat) (n : Int) (K : S → Prop) : Prop := match as with
  | [.d x] => mat (mpoOf (σ.mem ob)) fun kv => K (σ.setOb ob (.mpo (kvSet kv n x)))
  | _ => False
theorem uf_1 {x : D} {ob : Nat} {n : Int} : updF σ [.d x] ob n K = mat (mpoOf (σ.mem ob)) fun kv => K (σ.setOb ob (.mpo (kvSet kv n x))) := rfl
def updG (σ : S) (m k : R) (z : Option D) (v : R) (K : S → Prop) : Prop := match m, as64 k, z with
  | .omp ob, some n, some _ => S.rest σ [v] [] fun σ' as => updF σ' as ob n K
  | _, _, _ => False
theorem updG_congr {m m' k k' v v' : R} {z z' : Option D} {tk0 : Bool} (hT : tick = tk0) (h : m = m') (h1 : k = k') (h2 : z = z') (h3 : v = v') : updG σ m k z v K = updG σ m' k' z' v' K := by rw [h, h1, h2, h3]
theorem ug_o {ob : Nat} {n : Int} {z : D} {v : R} : updG σ (.omp ob) (.a (.d (.v (.int .i64 n)))) (some z) v K = S.rest σ [v] [] fun σ' as => updF σ' as ob n K := rfl
theorem upd_eq {t : TypeId} {m k v : Operand} : updK P gl σ t m k v K = updG σ (σ.eval gl m) (σ.eval gl k) (mapT P t) (σ.eval gl v) K := by
  simp only [updK, updG]
  generalize σ.eval gl m = m'
  generalize σ.eval gl k = k'
  rcases m' with _ | ((_ | _ | _ | _ | _) | _) | _ | _ | _ | _ | _ | _ | _ <;> try rfl
  rcases k' with _ | ((v' | _ | _ | _ | _) | _) | _ | _ | _ | _ | _ | _ | _ <;> try rfl
  cases v' <;> try rfl
  rename_i kk n; cases kk <;> try rfl
  cases mapT P t <;> try rfl
  simp only [as64]
  congr 1
  funext σ' as
  simp only [updF, mat, mpoOf]
  rcases as with _ | ⟨(_ | _), _ | ⟨_, _⟩⟩ <;> try rfl
  rcases σ'.mem _ with _ | (_ | _ | _) <;> rfl
theorem y_upd {t : TypeId} {m k v : Operand} : opA P gl ⟨dst, .mapUpdate t m k v, ty, pos, after, g⟩ σ K = inG (isXT P t) (SemOp P gl ⟨dst, .mapUpdate t m k v, ty, pos, after, g⟩ σ K) (updG σ (σ.eval gl m) (σ.eval gl k) (mapT P t) (σ.eval gl v) fun σ' => K (σ'.put dst .any)) := by
  rw [opA_X]; exact congrArg (inG (isXT P t) _) (upd_eq (K := fun σ' => K (σ'.put dst .any)))
theorem y_ins {t : TypeId} {m k v : Operand} : opA P gl ⟨dst, .insert t m k v, ty, pos, after, g⟩ σ K = inG (isXT P t) (SemOp P gl ⟨dst, .insert t m k v, ty, pos, after, g⟩ σ K) (updG σ (σ.eval gl m) (σ.eval gl k) (mapT P t) (σ.eval gl v) fun σ' => K (σ'.put dst .any)) := by
  rw [opA_X]; exact congrArg (inG (isXT P t) _) (upd_eq (K := fun σ' => K (σ'.put dst .any)))
theorem ks_nil {n : Int} {y : D} : kvSet [] n y = [(n, y)] := rfl
theorem ks_eq {n : Int} {x y : D} {kv : List (Int × D)} : kvSet ((n, x) :: kv) n y = (n, y) :: kv := by simp [kvSet]
theorem ks_ne {k n : Int} {x y : D} {kv : List (Int × D)} (h : (k == n) = false) : kvSet ((k, x) :: kv) n y = (k, x) :: kvSet kv n y := by
  have : k ≠ n := by simpa using h
  simp [kvSet, this]
theorem ed_omp {o : Nat} : endD σ (.omp o) = (mpoOf (σ.mem o)).map .mp := by
  simp only [endD, mpoOf]
  rcases σ.mem o with _ | (_ | _ | _) <;> rfl

theorem bn_n {d : Int} : bnd σ gl d none = some d := rfl
theorem bn_s {d : Int} {x : Operand} : bnd σ gl d (some x) = asInt (σ.eval gl x) := by
  simp only [bnd, asInt]
  rcases σ.eval gl x with _ | ((v | _ | _ | _ | _) | _) | _ | _ | _ | _ | _ | _ | _ <;> try rfl
def sliceG (sz : Option TI) (xs : Option (List (List D))) (l : Option Int) (h : List (List D) → Option Int) (m : Option (Option Int)) (hm : Bool) (K : R → Prop) : Prop := match sz, xs with
  | some ti, some xs => hm = true ∧ sliceK xs ti.sz l (h xs) m K
  | _, _ => False
theorem sk_n {xs : List (List D)} {sz : Nat} {l h : Int} : sliceK xs sz (some l) (some h) none KR = (0 ≤ l ∧ l ≤ h ∧ h ≤ xs.length ∧ (∀ c ∈ xs, c.length = sz) ∧ KR (.a (.d (.sl ((xs.take h.toNat).drop l.toNat))))) := rfl
theorem sk_s {xs : List (List D)} {sz : Nat} {l h m : Int} : sliceK xs sz (some l) (some h) (some (some m)) KR = (0 ≤ l ∧ l ≤ h ∧ h ≤ xs.length ∧ (∀ c ∈ xs, c.length = sz) ∧ m = h ∧ KR (.cs ((xs.take h.toNat).drop l.toNat))) := rfl
def rowD : R → Option (List (List D))
  | .a (.d (.sl xs)) => some xs
  | .cs xs => some xs
  | _ => none
theorem rd_sl {xs : List (List D)} : rowD (.a (.d (.sl xs))) = some xs := rfl
theorem rd_cs {xs : List (List D)} : rowD (.cs xs) = some xs := rfl
def slK (ti : Option TI) (xs : Option (List (List D))) (K : List (List D) → Nat → Prop) : Prop := match ti, xs with
  | some ti, some xs => K xs ti.sz
  | _, _ => False
theorem slK_congr {ti ti' : Option TI} {xs xs' : Option (List (List D))} {K : List (List D) → Nat → Prop} {tk0 : Bool} (hT : tick = tk0) (h : ti = ti') (k : xs = xs') : slK ti xs K = slK ti' xs' K := by rw [h, k]
theorem slk_s {sz bs : Nat} {ag : Bool} {z : List Value} {xs : List (List D)} {K : List (List D) → Nat → Prop} : slK (some ⟨sz, bs, ag, z⟩) (some xs) K = K xs sz := rfl
theorem tkSlice_eq {t : TypeId} : tkSlice P t = (tkElem P t).map (·.2) := by
  simp only [tkSlice, tkElem]
  cases tk P t <;> try rfl
  rename_i e; dsimp only; cases tinf P e <;> rfl
theorem z_slice {t : TypeId} {x : Operand} {l h m : Option Operand} : opQ P gl ⟨dst, .slice t x l h m, ty, pos, after, g⟩ σ KR = slK ((tkElem P t).map (·.2)) (rowD (σ.eval gl x)) fun xs sz => ((m.isSome = true → h.isSome = true) ∧ sliceK xs sz (bnd σ gl 0 l) (bnd σ gl xs.length h) (m.map fun y => bnd σ gl 0 (some y)) KR) := by
  rw [← tkSlice_eq]
  simp only [opQ, slK, tkSlice]
  cases tk P t <;> try rfl
  rename_i e
  dsimp only
  cases tinf P e <;> try rfl
  rcases σ.eval gl x with _ | ((v | _ | _ | _ | _) | _) | _ | _ | _ | _ | _ | _ | _ <;> rfl
theorem imp_n {h : Option Operand} : ((none : Option Operand).isSome = true → h.isSome = true) = True := by simp
theorem imp_s {m : Option Operand} {h : Operand} : (m.isSome = true → (some h).isSome = true) = True := by simp
/-- A slice of one's own row lays it to rest. -/
def slA (σ : S) (ti : Option TI) (x : R) (dst : Option Tmp) (K : S → Prop) (body : List (List D) → Nat → (R → Prop) → Prop) : Prop := match ti, x with
  | some ti, .own ob => mat (logOf (σ.mem ob)) fun xs => decide (ob < 1000000000) = true ∧ body xs ti.sz fun r => K ((σ.frz ob fun _ => .sl xs).put dst r)
  | some ti, .a (.d (.sl xs)) => body xs ti.sz fun r => K (σ.put dst r)
  | some ti, .cs xs => body xs ti.sz fun r => K (σ.put dst r)
  | _, _ => False
theorem slA_congr {ti ti' : Option TI} {x x' : R} {body : List (List D) → Nat → (R → Prop) → Prop} {tk0 : Bool} (hT : tick = tk0) (h : ti = ti') (k : x = x') : slA σ ti x dst K body = slA σ ti' x' dst K body := by rw [h, k]
theorem sla_own {sz bs ob : Nat} {ag : Bool} {z : List Value} {body : List (List D) → Nat → (R → Prop) → Prop} : slA σ (some ⟨sz, bs, ag, z⟩) (.own ob) dst K body = mat (logOf (σ.mem ob)) fun xs => decide (ob < 1000000000) = true ∧ body xs sz fun r => K ((σ.frz ob fun _ => .sl xs).put dst r) := rfl
theorem sla_sl {sz bs : Nat} {ag : Bool} {z : List Value} {xs : List (List D)} {body : List (List D) → Nat → (R → Prop) → Prop} : slA σ (some ⟨sz, bs, ag, z⟩) (.a (.d (.sl xs))) dst K body = body xs sz fun r => K (σ.put dst r) := rfl
theorem sla_cs {sz bs : Nat} {ag : Bool} {z : List Value} {xs : List (List D)} {body : List (List D) → Nat → (R → Prop) → Prop} : slA σ (some ⟨sz, bs, ag, z⟩) (.cs xs) dst K body = body xs sz fun r => K (σ.put dst r) := rfl
theorem y_slice0 {t : TypeId} {x : Operand} {l h m : Option Operand} : opA0 P gl ⟨dst, .slice t x l h m, ty, pos, after, g⟩ σ K = slA σ ((tkElem P t).map (·.2)) (σ.eval gl x) dst K fun xs sz K' => ((m.isSome = true → h.isSome = true) ∧ sliceK xs sz (bnd σ gl 0 l) (bnd σ gl xs.length h) (m.map fun y => bnd σ gl 0 (some y)) K') := by
  rw [← tkSlice_eq]
  simp only [opA0, opQ, slA, tkSlice, mat, logOf]
  rcases σ.eval gl x with _ | ((v | _ | _ | _ | _) | _) | _ | _ | _ | ob | _ | _ | _
  case own =>
    dsimp only
    cases tk P t with
    | slice e =>
      dsimp only
      cases h3 : tinf P e <;> rcases h4 : σ.mem ob with _ | (_ | _ | _) <;> simp [h3, h4]
    | _ => rcases σ.mem ob with _ | (_ | _ | _) <;> rfl
  all_goals (cases tk P t <;> try rfl)
  all_goals (rename_i e; dsimp only; cases tinf P e <;> rfl)
theorem y_slice_n {t : TypeId} {x : Operand} {h m : Option Operand} : opA P gl ⟨dst, .slice t x none h m, ty, pos, after, g⟩ σ K = slA σ ((tkElem P t).map (·.2)) (σ.eval gl x) dst K fun xs sz K' => ((m.isSome = true → (h : Option Operand).isSome = true) ∧ sliceK xs sz (bnd σ gl 0 none) (bnd σ gl xs.length h) (m.map fun y => bnd σ gl 0 (some y)) K') := by
  rw [opA_X, y_slice0]; rfl
theorem y_slice_h {t : TypeId} {x : Operand} {l h : Operand} {m : Option Operand} : opA P gl ⟨dst, .slice t x (some l) (some h) m, ty, pos, after, g⟩ σ K = slA σ ((tkElem P t).map (·.2)) (σ.eval gl x) dst K fun xs sz K' => ((m.isSome = true → ((some h) : Option Operand).isSome = true) ∧ sliceK xs sz (bnd σ gl 0 (some l)) (bnd σ gl xs.length (some h)) (m.map fun y => bnd σ gl 0 (some y)) K') := by
  rw [opA_X, y_slice0]; rfl
theorem y_slice_l {t : TypeId} {x : Operand} {l : Operand} : opA P gl ⟨dst, .slice t x (some l) none none, ty, pos, after, g⟩ σ K = inG (pos == "slices.go:253") (SemOp P gl ⟨dst, .slice t x (some l) none none, ty, pos, after, g⟩ σ K) (slA σ ((tkElem P t).map (·.2)) (σ.eval gl x) dst K fun xs sz K' => (((none : Option Operand).isSome = true → (none : Option Operand).isSome = true) ∧ sliceK xs sz (bnd σ gl 0 (some l)) (bnd σ gl xs.length none) ((none : Option Operand).map fun y => bnd σ gl 0 (some y)) K')) := by
  rw [opA_X, y_slice0]; rfl

def appG (σ : S) (t : Option (TypeId × TI)) (x : R) (ys : Option (List (List D))) (d : Tmp) (K : S → Prop) : Prop := match t, ys with
  | some (e, ti), some ys => ti.z.length = ti.sz ∧ 0 < ti.sz ∧ 0 < ti.bs ∧ (∀ c ∈ ys, c.length = ti.sz) ∧ (match x with
      | .own o => match σ.mem o with
        | some (.log e' z xs) => e' = e ∧ z = ti.sz ∧ (xs.length + ys.length) * ti.bs ≤ 140737488355328 ∧
          K ((σ.newOb o (.log e z (xs ++ ys))).put (some d) (.own o))
        | _ => False
      | .cs xs => ys ≠ [] ∧ (∀ c ∈ xs, c.length = ti.sz) ∧ (xs.length + ys.length) * ti.bs ≤ 140737488355328 ∧ K ((σ.newOb d (.log e ti.sz (xs ++ ys))).put (some d) (.own d))
      | _ => False)
  | _, _ => False
theorem appG_congr {t t' : Option (TypeId × TI)} {x x' : R} {ys ys' : Option (List (List D))} {d : Tmp} {tk0 : Bool} (hT : tick = tk0) (h : t = t') (h1 : x = x') (h2 : ys = ys') : appG σ t x ys d K = appG σ t' x' ys' d K := by rw [h, h1, h2]
def logZ : Option Ob → Option (TypeId × Nat × List (List D))
  | some (.log e z xs) => some (e, z, xs)
  | _ => none
theorem lz_o {e : TypeId} {z : Nat} {xs : List (List D)} : logZ (some (.log e z xs)) = some (e, z, xs) := rfl
theorem ag_own {e : TypeId} {sz bs o : Nat} {ag : Bool} {z : List Value} {ys : List (List D)} {d : Tmp} : appG σ (some (e, ⟨sz, bs, ag, z⟩)) (.own o) (some ys) d K =
    (z.length = sz ∧ 0 < sz ∧ 0 < bs ∧ (∀ c ∈ ys, c.length = sz) ∧ mat (logZ (σ.mem o)) fun l => l.1 = e ∧ l.2.1 = sz ∧ (l.2.2.length + ys.length) * bs ≤ 140737488355328 ∧ K ((σ.newOb o (.log e l.2.1 (l.2.2 ++ ys))).put (some d) (.own o))) := by
  simp only [appG, mat, logZ]
  rcases σ.mem o with _ | (_ | _ | _) <;> rfl
theorem ag_cs {e : TypeId} {sz bs : Nat} {ag : Bool} {z : List Value} {xs ys : List (List D)} {d : Tmp} : appG σ (some (e, ⟨sz, bs, ag, z⟩)) (.cs xs) (some ys) d K =
    (z.length = sz ∧ 0 < sz ∧ 0 < bs ∧ (∀ c ∈ ys, c.length = sz) ∧ ys ≠ [] ∧ (∀ c ∈ xs, c.length = sz) ∧ (xs.length + ys.length) * bs ≤ 140737488355328 ∧ K ((σ.newOb d (.log e sz (xs ++ ys))).put (some d) (.own d))) := rfl
theorem rr_sl {xs : List (List D)} : rowsR σ (.a (.d (.sl xs))) = some xs := rfl
theorem rr_cs {xs : List (List D)} : rowsR σ (.cs xs) = some xs := rfl
theorem rr_own {o : Nat} : rowsR σ (.own o) = logOf (σ.mem o) := by
  simp only [rowsR, logOf]
  rcases σ.mem o with _ | (_ | _ | _) <;> rfl
theorem y_app0 {x y : Operand} {t u : TypeId} {d : Tmp} : opA0 P gl ⟨some d, .call ⟨.builtin .append, #[x, y], #[t, u]⟩, ty, pos, after, g⟩ σ K = (u = t ∧ appG σ (tkElem P t) (σ.eval gl x) (rowsR σ (σ.eval gl y)) d K) := by
  simp only [opA0, appK, appG, tkElem]
  congr 1
  cases tk P t <;> try rfl
  rename_i e
  dsimp only
  cases rowsR σ (σ.eval gl y) <;> cases h3 : tinf P e <;> simp only [h3] <;> rfl
theorem y_app {x y : Operand} {t : TypeId} {d : Tmp} : opA P gl ⟨some d, .call ⟨.builtin .append, #[x, y], #[t, t]⟩, ty, pos, after, g⟩ σ K = inG (isXT P t) (SemOp P gl ⟨some d, .call ⟨.builtin .append, #[x, y], #[t, t]⟩, ty, pos, after, g⟩ σ K) (appG σ (tkElem P t) (σ.eval gl x) (rowsR σ (σ.eval gl y)) d K) := by
  rw [opA_X, y_app0]; simp only [isX, bne_self_eq_false, Bool.false_or, true_and]
theorem y_appx {x y : Operand} {t u : TypeId} {d : Tmp} (h : (u == t) = false) : opA P gl ⟨some d, .call ⟨.builtin .append, #[x, y], #[t, u]⟩, ty, pos, after, g⟩ σ K = SemOp P gl ⟨some d, .call ⟨.builtin .append, #[x, y], #[t, u]⟩, ty, pos, after, g⟩ σ K := by
  rw [opA_X]; simp only [isX, bne, h, Bool.not_false, Bool.true_or]; rfl
def rowG (σ : S) (gl : Nat → Option (List D)) (r : R) (i : Nat) (rest : List (Nat × Operand)) (acc : List (Nat × A)) (K : S → List (Nat × A) → Prop) : Prop := S.rest σ [r] [] fun σ' as => match as with
  | [y] => rowK σ' gl rest ((i, y) :: acc) K
  | _ => False
theorem rowG_congr {r r' : R} {i : Nat} {rest : List (Nat × Operand)} {acc : List (Nat × A)} {K : S → List (Nat × A) → Prop} {tk0 : Bool} (hT : tick = tk0) (h : r = r') : rowG σ gl r i rest acc K = rowG σ gl r' i rest acc K := by rw [h]
theorem rk_nil {acc : List (Nat × A)} {K : S → List (Nat × A) → Prop} : rowK σ gl [] acc K = K σ acc.reverse := rfl
theorem rk_cons {i : Nat} {x : Operand} {rest : List (Nat × Operand)} {acc : List (Nat × A)} {K : S → List (Nat × A) → Prop} : rowK σ gl ((i, x) :: rest) acc K = rowG σ gl (σ.eval gl x) i rest acc K := by
  simp only [rowK, rowG, S.rest]
  cases argA σ (σ.eval gl x) <;> rfl
theorem rg_a {y : A} {i : Nat} {rest : List (Nat × Operand)} {acc : List (Nat × A)} {K : S → List (Nat × A) → Prop} : rowG σ gl (.a y) i rest acc K = rowK σ gl rest ((i, y) :: acc) K := by
  simp [rowG, rs_a, rs_nil]
theorem rg_cs {xs : List (List D)} {i : Nat} {rest : List (Nat × Operand)} {acc : List (Nat × A)} {K : S → List (Nat × A) → Prop} : rowG σ gl (.cs xs) i rest acc K = rowK σ gl rest ((i, .d (.sl xs)) :: acc) K := by
  simp [rowG, rs_cs, rs_nil]
theorem rg_own {o : Nat} {i : Nat} {rest : List (Nat × Operand)} {acc : List (Nat × A)} {K : S → List (Nat × A) → Prop} : rowG σ gl (.own o) i rest acc K = mat (logOf (σ.mem o)) fun xs => (decide (o < 1000000000) = true ∧ rowK (σ.frz o fun _ => .sl xs) gl rest ((i, .d (.sl xs)) :: acc) K) := by
  simp [rowG, rs_own, rs_nil]
def buildG (ti : Option TI) (offs : Option (List (Nat × Nat × Bool))) (ps : List (Nat × A)) (K : R → Prop) : Prop := match ti, offs with
  | some ti, some offs => ti.z.all Value.oneCell' = true ∧ (offs.all fun x => x.2.1 != 0) = true ∧ mat (fillD (fun i => (offs[i]?).map fun x => (x.1, x.2.1)) (ti.z.map cellD) ps) fun ds => K (.a (.ag ds))
  | _, _ => False
theorem buildG_congr {ti ti' : Option TI} {offs offs' : Option (List (Nat × Nat × Bool))} {ps : List (Nat × A)} {tk0 : Bool} (hT : tick = tk0) (h : ti = ti') (h1 : offs = offs') : buildG ti offs ps KR = buildG ti' offs' ps KR := by rw [h, h1]
theorem bg_s {sz bs : Nat} {ag : Bool} {z : List Value} {offs : List (Nat × Nat × Bool)} {ps : List (Nat × A)} : buildG (some ⟨sz, bs, ag, z⟩) (some offs) ps KR = (z.all Value.oneCell' = true ∧ (offs.all fun x => x.2.1 != 0) = true ∧ mat (fillD (fun i => (offs[i]?).map fun x => (x.1, x.2.1)) (z.map cellD) ps) fun ds => KR (.a (.ag ds))) := rfl
theorem y_build0 {t : TypeId} {l : List (Nat × Operand)} : opA0 P gl ⟨dst, .build t l.toArray, ty, pos, after, g⟩ σ K = rowK σ gl l [] fun σ' ps => buildG (tinf P t) (tkStruct P t) ps fun r => K (σ'.put dst r) := by
  simp only [opA0]
  congr 1
  funext σ' ps
  simp only [buildG, tkStruct, mat]
  cases tinf P t <;> try rfl
  cases tk P t <;> try rfl
  dsimp only
  congr 2
  split <;> simp_all
theorem y_build {t : TypeId} {l : List (Nat × Operand)} : opA P gl ⟨dst, .build t l.toArray, ty, pos, after, g⟩ σ K = inG (isXB P t) (SemOp P gl ⟨dst, .build t l.toArray, ty, pos, after, g⟩ σ K) (rowK σ gl l [] fun σ' ps => buildG (tinf P t) (tkStruct P t) ps fun r => K (σ'.put dst r)) := by
  rw [opA_X, y_build0]; rfl
theorem fd_nil {place : Nat → Option (Nat × Nat)} {cells : List D} : fillD place cells [] = some cells := rfl
theorem fd_one {place : Nat → Option (Nat × Nat)} {cells : List D} {i : Nat} {x : D} {rest : List (Nat × A)} : fillD place cells ((i, .d x) :: rest) = (place i).bind fun p => cond (decide (1 = p.2) && decide (p.1 + p.2 ≤ cells.length)) (fillD place (cells.set p.1 x) rest) none := by
  conv => lhs; unfold fillD
  cases place i with
  | none => rfl
  | some p =>
    obtain ⟨off, sz⟩ := p
    simp only [Option.bind_some]
    split
    · rename_i h
      have h1 : 1 = sz := h.1
      simp [← h1, A.cells] at h ⊢
      simp [h]
    · rename_i h
      have h' : ¬ (1 = sz ∧ off + sz ≤ cells.length) := h
      cases h1 : decide (1 = sz) <;> cases h2 : decide (off + sz ≤ cells.length) <;> try rfl
      exact absurd ⟨of_decide_eq_true h1, of_decide_eq_true h2⟩ h'
theorem fd_ag {place : Nat → Option (Nat × Nat)} {cells : List D} {i : Nat} {x y : D} {xs : List D} {rest : List (Nat × A)} : fillD place cells ((i, .ag (x :: y :: xs)) :: rest) = (place i).bind fun p => cond (decide ((x :: y :: xs).length = p.2) && decide (p.1 + p.2 ≤ cells.length)) (fillD place (cells.take p.1 ++ (x :: y :: xs) ++ cells.drop (p.1 + p.2)) rest) none := by
  conv => lhs; unfold fillD
  cases place i with
  | none => rfl
  | some p =>
    obtain ⟨off, sz⟩ := p
    simp only [Option.bind_some]
    split
    · rename_i h
      have h1 : decide ((x :: y :: xs).length = sz) = true := decide_eq_true h.1
      have h2 : decide (off + sz ≤ cells.length) = true := decide_eq_true h.2
      rw [h1, h2]; rfl
    · rename_i h
      cases h1 : decide ((x :: y :: xs).length = sz) <;> cases h2 : decide (off + sz ≤ cells.length) <;> try rfl
      exact absurd ⟨of_decide_eq_true h1, of_decide_eq_true h2⟩ h
def bslG (σ : S) (t : Option (TypeId × TI)) (len : Nat) (ps : List (Nat × A)) (d : Tmp) (K : S → Prop) : Prop := match t with
  | some (e, ti) => ti.z.all Value.oneCell' = true ∧ 0 < ti.sz ∧ ti.z.length = ti.sz ∧ len * ti.sz ≤ 2 ^ 24 ∧ len ≠ 0 ∧
        mat (fillD (fun i => some (i * ti.sz, ti.sz)) (List.replicate len (ti.z.map cellD)).flatten ps) fun ds => K ((σ.newOb d (.log e ti.sz ((List.range len).map fun i => (ds.drop (i * ti.sz)).take ti.sz))).put (some d) (.own d))
  | none => False
theorem bslG_congr {t t' : Option (TypeId × TI)} {len : Nat} {ps : List (Nat × A)} {d : Tmp} {tk0 : Bool} (hT : tick = tk0) (h : t = t') : bslG σ t len ps d K = bslG σ t' len ps d K := by rw [h]
theorem bs_s {e : TypeId} {sz bs : Nat} {ag : Bool} {z : List Value} {len : Nat} {ps : List (Nat × A)} {d : Tmp} : bslG σ (some (e, ⟨sz, bs, ag, z⟩)) len ps d K = (z.all Value.oneCell' = true ∧ 0 < sz ∧ z.length = sz ∧ len * sz ≤ 2 ^ 24 ∧ len ≠ 0 ∧
        mat (fillD (fun i => some (i * sz, sz)) (List.replicate len (z.map cellD)).flatten ps) fun ds => K ((σ.newOb d (.log e sz ((List.range len).map fun i => (ds.drop (i * sz)).take sz))).put (some d) (.own d))) := rfl
theorem y_bs00 {t : TypeId} {d : Tmp} : opA0 P gl ⟨some d, .buildSlice t 0 #[], ty, pos, after, g⟩ σ K = mat (tkElem P t) fun e => K ((σ.newOb d (.log e.1 e.2.sz [])).put (some d) (.own d)) := by
  simp only [opA0, mat, tkElem, if_true, true_and]
  cases tk P t <;> try rfl
  rename_i e; cases h : tinf P e <;> simp [h]
theorem y_bs0 {t : TypeId} {d : Tmp} : opA P gl ⟨some d, .buildSlice t 0 #[], ty, pos, after, g⟩ σ K = inG (isXT P t) (SemOp P gl ⟨some d, .buildSlice t 0 #[], ty, pos, after, g⟩ σ K) (mat (tkElem P t) fun e => K ((σ.newOb d (.log e.1 e.2.sz [])).put (some d) (.own d))) := by
  rw [opA_X, y_bs00]; rfl
theorem y_bsl0 {t : TypeId} {len : Nat} {l : List (Nat × Operand)} {d : Tmp} (hlen : (len == 0) = false) : opA0 P gl ⟨some d, .buildSlice t len l.toArray, ty, pos, after, g⟩ σ K = rowK σ gl l [] fun σ' ps => bslG σ' (tkElem P t) len ps d K := by
  have hlen : len ≠ 0 := by simpa using hlen
  simp only [opA0, if_neg hlen]
  congr 1
  funext σ' ps
  simp only [bslG, tkElem, mat]
  cases tk P t <;> try rfl
  rename_i e
  dsimp only
  cases tinf P e <;> try rfl
  dsimp only [Option.map]
  congr 5
  split <;> simp_all
theorem y_bsl {t : TypeId} {len : Nat} {l : List (Nat × Operand)} {d : Tmp} (hlen : (len == 0) = false) : opA P gl ⟨some d, .buildSlice t len l.toArray, ty, pos, after, g⟩ σ K = inG (isXT P t) (SemOp P gl ⟨some d, .buildSlice t len l.toArray, ty, pos, after, g⟩ σ K) (rowK σ gl l [] fun σ' ps => bslG σ' (tkElem P t) len ps d K) := by
  rw [opA_X, y_bsl0 hlen]; rfl
def mkfK (as : List A) (f : FuncId) (K : R → Prop) : Prop := mat (allDA as) fun ds => K (.a (.d (.fn f ds)))
theorem da_nil : allDA [] = some [] := rfl
theorem da_c {x : D} {as : List A} : allDA (.d x :: as) = (allDA as).map (x :: ·) := rfl
theorem y_mkf0 {f : FuncId} {l : List Operand} : opA0 P gl ⟨dst, .makeFunc (.func f) #[] l.toArray, ty, pos, after, g⟩ σ K = S.rest σ (evs gl σ l) [] fun σ' as => mkfK as f fun r => K (σ'.put dst r) := by
  simp only [opA0, evs_map]
  congr 1
  funext σ' as
  simp only [mkfK, mat]
  cases allDA as <;> rfl
theorem y_mkf {f : FuncId} {l : List Operand} : opA P gl ⟨dst, .makeFunc (.func f) #[] l.toArray, ty, pos, after, g⟩ σ K = inG (pos == "law.go:47" || pos == "law.go:50" || pos == "graph.go:120" || pos == "text.go:142" || pos == "word.go:21" || pos == "report.go:73") (SemOp P gl ⟨dst, .makeFunc (.func f) #[] l.toArray, ty, pos, after, g⟩ σ K) (S.rest σ (evs gl σ l) [] fun σ' as => mkfK as f fun r => K (σ'.put dst r)) := by
  rw [opA_X, y_mkf0]; rfl
theorem mk_go {as : List A} {f : FuncId} : mkfK as f KR = mat (allDA as) fun ds => KR (.a (.d (.fn f ds))) := rfl
attribute [congr] rest_congr updG_congr slK_congr slA_congr appG_congr rowG_congr buildG_congr bslG_congr
end

/-! ### The rules, in two bundles -/
def PR :=
  And.intro (@w_skip) <| And.intro (@w_label) <| And.intro (@w_exit) <| And.intro (@w_ret) <| And.intro (@w_seq) <| And.intro (@w_cond) <| And.intro (@w_block) <| And.intro (@w_scope) <| And.intro (@w_region) <| And.intro (@w_draw) <| And.intro (@e_then_n) <| And.intro (@e_then_e) <| And.intro (@e_then_r) <| And.intro (@e_blk_n) <| And.intro (@e_blk_r) <| And.intro (@e_blk_same) <| And.intro (@e_blk_ne) <| And.intro (@r_put_eq) <| And.intro (@r_put_ne) <| And.intro (@r_put_none) <| And.intro (@m_put) <| And.intro (@r_new) <| And.intro (@m_new_eq) <| And.intro (@m_new_ne) <| And.intro (@r_set) <| And.intro (@m_set_eq) <| And.intro (@m_set_ne) <| And.intro (@r_frz) <| And.intro (@m_frz_ne) <| And.intro (@m_frz_eq) <| And.intro (@r_init) <| And.intro (@m_init) <| And.intro (@r_init_0) <| And.intro (@r_init_s) <| And.intro (@r_of_eq) <| And.intro (@r_of_ne) <| And.intro (@m_of_eq) <| And.intro (@m_of_ne) <| And.intro (@v_tmp) <| And.intro (@v_int) <| And.intro (@v_bool) <| And.intro (@v_str) <| And.intro (@v_nil) <| And.intro (@v_func) <| And.intro (@y_move) <| And.intro (@y_assign_t) <| And.intro (@y_assign_i) <| And.intro (@y_assign_b) <| And.intro (@y_assign_s) <| And.intro (@y_assign_m) <| And.intro (@y_assign_p) <| And.intro (@v_map) <| And.intro (@v_ptr) <| And.intro (@y_assign_n) <| And.intro (@y_pick) <| And.intro (@y_load) <| And.intro (@y_store) <| And.intro (@y_alloc) <| And.intro (@y_box) <| And.intro (@y_field) <| And.intro (@y_index) <| And.intro (@y_bin_t) <| And.intro (@y_bin_i) <| And.intro (@y_bin_b) <| And.intro (@y_bin_s) <| And.intro (@y_bin_ns) <| And.intro (@y_bin_np) <| And.intro (@y_bin_nm) <| And.intro (@y_bin_nf) <| And.intro (@y_bin_ni) <| And.intro (@y_un) <| And.intro (@y_conv) <| And.intro (@y_ext) <| And.intro (@y_len) <| And.intro (@y_min) <| And.intro (@y_max) <| And.intro (@y_nil) <| And.intro (@z_call) <| And.intro (@z_field) <| And.intro (@z_index) <| And.intro (@z_bin) <| And.intro (@z_un) <| And.intro (@z_conv) <| And.intro (@z_ext) <| And.intro (@z_len) <| And.intro (@z_min) <| And.intro (@z_max) <| And.intro (@z_nil) <| And.intro (@z_callQ) <| And.intro (@z_move) <| And.intro (@z_assign) <| And.intro (@z_pick) <| And.intro (@z_load) <| And.intro (@z_look) <| And.intro (@y_look) <| And.intro (@y_mk) <| And.intro (@y_upd) <| And.intro (@y_ins) <| And.intro (@z_slice) <| And.intro (@y_slice_n) <| And.intro (@y_slice_h) <| And.intro (@y_slice_l) <| And.intro (@y_app) <| And.intro (@y_appx) <| And.intro (@y_build) <| And.intro (@y_bs0) <| And.intro (@y_bsl) <| And.intro (@y_mkf) <| And.intro (@rk_nil) <| And.intro (@rk_cons) <| And.intro (@qt_move) <| And.intro (@qt_asg_t) <| And.intro (@qt_asg_i) <| And.intro (@qt_asg_b) <| And.intro (@qt_pick) <| And.intro (@qt_load) <| And.intro (@qt_fld) <| And.intro (@qt_idx) <| And.intro (@qt_nil) <| And.intro (@qt_bin) <| And.intro (@qt_un) <| And.intro (@qt_cv) <| And.intro (@qt_ext) <| And.intro (@qt_sli) <| And.intro (@qt_lk) <| And.intro (@qt_len) <| And.intro (@qt_min) <| And.intro (@qt_max) <| And.intro (@qt_cal) <| And.intro (@qt_app) <| And.intro (@qt_sto) <| And.intro (@qt_alc) <| And.intro (@qt_box) <| And.intro (@qt_bld) <| And.intro (@qt_bsl) <| And.intro (@qt_mkm) <| And.intro (@qt_mku) <| And.intro (@qt_ins) <| And.intro (@y_range) <| And.intro (@y_next) <| And.intro (@y_entry) <| And.intro (@qt_rng) <| And.intro (@qt_nxt) <| And.intro (@qt_ent) <| And.intro (@l_nil) <| And.intro (@l_cons) <| And.intro (@l_guard) <| And.intro (@d_nil) <| And.intro (@d_cons) <| And.intro (@d_guard) <| And.intro (@in_D) <| And.intro (@p_ret) <| @p_normal
def PO :=
  And.intro (@tick_eq) <| And.intro (@rg1) <| And.intro (@rg2) <| And.intro (@rg3) <| And.intro (@rg4) <| And.intro (@rg5) <| And.intro (@rp1) <| And.intro (@rp2) <| And.intro (@rp3) <| And.intro (@rp4) <| And.intro (@rp5) <| And.intro (@fl_nil) <| And.intro (@fl_cons) <| And.intro (@all_nil) <| And.intro (@all_cons) <| And.intro (@oa_nil) <| And.intro (@oa_cons) <| And.intro (@oc_i) <| And.intro (@oc_b) <| And.intro (@oc_s) <| And.intro (@oc_l) <| And.intro (@oc_m) <| And.intro (@oc_p) <| And.intro (@cd_i) <| And.intro (@cd_b) <| And.intro (@cd_s) <| And.intro (@cd_l) <| And.intro (@cd_m) <| And.intro (@cd_p) <| And.intro (@fa_nil) <| And.intro (@fa_cons) <| And.intro (@and_tt) <| And.intro (@rt_1) <| And.intro (@rt_2) <| And.intro (@kv_mp) <| And.intro (@it_o) <| And.intro (@eg_ref) <| And.intro (@ok_iter) <| And.intro (@of_iter) <| And.intro (@zR_eq) <| And.intro (@zl_nil) <| And.intro (@zl_i) <| And.intro (@zl_b) <| And.intro (@zl_s) <| And.intro (@zl_sl) <| And.intro (@zl_m) <| And.intro (@zl_p) <| And.intro (@spl_2) <| And.intro (@spl_1) <| And.intro (@mp_o) <| And.intro (@bx_o) <| And.intro (@rs_nil) <| And.intro (@rs_a) <| And.intro (@rs_cs) <| And.intro (@rs_own) <| And.intro (@rs_omp) <| And.intro (@rs_ref) <| And.intro (@mo_d) <| And.intro (@mo_o) <| And.intro (@lg_t) <| And.intro (@lg_f) <| And.intro (@a64) <| And.intro (@uf_1) <| And.intro (@ug_o) <| And.intro (@ks_nil) <| And.intro (@ks_eq) <| And.intro (@ks_ne) <| And.intro (@ed_omp) <| And.intro (@bn_n) <| And.intro (@bn_s) <| And.intro (@sk_n) <| And.intro (@sk_s) <| And.intro (@rd_sl) <| And.intro (@rd_cs) <| And.intro (@slk_s) <| And.intro (@imp_n) <| And.intro (@imp_s) <| And.intro (@sla_own) <| And.intro (@sla_sl) <| And.intro (@sla_cs) <| And.intro (@lz_o) <| And.intro (@ag_own) <| And.intro (@ag_cs) <| And.intro (@rr_sl) <| And.intro (@rr_cs) <| And.intro (@rr_own) <| And.intro (@rg_a) <| And.intro (@rg_cs) <| And.intro (@rg_own) <| And.intro (@bg_s) <| And.intro (@fd_nil) <| And.intro (@fd_one) <| And.intro (@fd_ag) <| And.intro (@bs_s) <| And.intro (@da_nil) <| And.intro (@da_c) <| And.intro (@mk_go) <| And.intro (@fc_go) <| And.intro (@mat_some) <| And.intro (@mat_none) <| And.intro (@condK_bool) <| And.intro (@spK_true) <| And.intro (@spK_false) <| And.intro (@ix_go) <| And.intro (@brK_true) <| And.intro (@brK_false) <| And.intro (@k_a) <| And.intro (@k_any) <| And.intro (@k_cs) <| And.intro (@k_ref_ne) <| And.intro (@k_ref_eq) <| And.intro (@k_eref_ne) <| And.intro (@k_eref_eq) <| And.intro (@k_own_ne) <| And.intro (@k_own_eq) <| And.intro (@k_omp_ne) <| And.intro (@k_omp_eq) <| And.intro (@ok_box) <| And.intro (@ok_log) <| And.intro (@ok_mpo) <| And.intro (@f_a) <| And.intro (@f_any) <| And.intro (@f_cs) <| And.intro (@f_own_eq) <| And.intro (@f_own_ne) <| And.intro (@f_omp_eq) <| And.intro (@f_omp_ne) <| And.intro (@f_ref_eq) <| And.intro (@f_ref_ne) <| And.intro (@f_eref_eq) <| And.intro (@f_eref_ne) <| And.intro (@of_box) <| And.intro (@of_log) <| And.intro (@of_mpo) <| And.intro (@fg_ref) <| And.intro (@fg_pt) <| And.intro (@fg_eref) <| And.intro (@ai_int) <| And.intro (@ig_sl) <| And.intro (@ig_cs) <| And.intro (@ig_own) <| And.intro (@lo_log) <| And.intro (@ig_aref) <| And.intro (@ig_apt) <| And.intro (@b_add) <| And.intro (@b_sub) <| And.intro (@b_mul) <| And.intro (@b_quo) <| And.intro (@b_rem) <| And.intro (@b_eql) <| And.intro (@b_neq) <| And.intro (@b_lss) <| And.intro (@b_leq) <| And.intro (@b_gtr) <| And.intro (@b_geq) <| And.intro (@b_shl) <| And.intro (@b_shr) <| And.intro (@b_and) <| And.intro (@b_or) <| And.intro (@b_xor) <| And.intro (@b_andn) <| And.intro (@b_beq) <| And.intro (@b_bne) <| And.intro (@b_seq) <| And.intro (@b_sne) <| And.intro (@u_not) <| And.intro (@u_neg) <| And.intro (@c_int) <| And.intro (@x_tp) <| And.intro (@lh_sl) <| And.intro (@lh_str) <| And.intro (@lr_sl) <| And.intro (@lr_cs) <| And.intro (@lr_str) <| And.intro (@lr_own) <| And.intro (@mg_min) <| And.intro (@mg_max) <| And.intro (@evs_nil) <| And.intro (@evs_cons) <| And.intro (@fn_f) <| And.intro (@cr_nil) <| And.intro (@cr_cons) <| And.intro (@cf_some) <| And.intro (@cf_clo) <| And.intro (@cf_sem) <| And.intro (@rf_nil) <| And.intro (@rf_cons) <| And.intro (@cf_someQ) <| And.intro (@gd_t) <| And.intro (@gd_f) <| And.intro (@br_b) <| And.intro (@br_n) <| And.intro (@gd_n) <| And.intro (@k_tp) <| And.intro (@f_tp) <| And.intro (@sy_a) <| And.intro (@sy_cs) <| And.intro (@an_nil) <| And.intro (@an_cons) <| And.intro (@or_ff) <| And.intro (@ra_some) <| And.intro (@da_0) <| And.intro (@da_s) <| And.intro (@in_t) <| And.intro (@in_f) <| And.intro (@dst_mk) <| And.intro (@ld_ref) <| And.intro (@ld_pt) <| And.intro (@ld_eref) <| And.intro (@lb_one) <| And.intro (@lb_ag) <| And.intro (@lp_one) <| And.intro (@lp_ag) <| And.intro (@le_one) <| And.intro (@le_ag) <| And.intro (@ad_nil) <| And.intro (@ad_cons) <| And.intro (@cl_ag) <| And.intro (@cl_d) <| And.intro (@cl_cs) <| And.intro (@cl_own) <| And.intro (@cl_ref) <| And.intro (@cl_omp) <| And.intro (@cl_agr) <| And.intro (@k_agr) <| And.intro (@st_ref) <| And.intro (@sb_one) <| And.intro (@sb_ag) <| And.intro (@hr_nil) <| And.intro (@hr_cons) <| And.intro (@hm_nil) <| And.intro (@hm_cons) <| And.intro (@t_a) <| And.intro (@t_c) <| And.intro (@t_f) <| And.intro (@t_aa) <| And.intro (@t_aaa) <| And.intro (@al_a) <| And.intro (@al_c) <| And.intro (@al_f) <| And.intro (@al_aa) <| And.intro (@al_aaa) <| And.intro (@er_nil) <| And.intro (@er_cons) <| And.intro (@rv_t) <| And.intro (@rv_c) <| And.intro (@en_d) <| And.intro (@en_ag) <| And.intro (@en_c) <| And.intro (@en_f) <| And.intro (@ed_a) <| And.intro (@ed_c) <| @ed_own
def PC :=
  And.intro (@List.getElem?_cons_zero.{0}) <| And.intro (@List.getElem?_cons_succ.{0}) <| And.intro (@List.getElem?_nil.{0}) <| And.intro (@List.drop_zero.{0}) <| And.intro (@List.drop_succ_cons.{0}) <| And.intro (@List.drop_nil.{0}) <| And.intro (@List.take_zero.{0}) <| And.intro (@List.take_succ_cons.{0}) <| And.intro (@List.take_nil.{0}) <| And.intro (@List.set_cons_zero.{0}) <| And.intro (@List.set_cons_succ.{0}) <| And.intro (@List.length_cons.{0}) <| And.intro (@List.length_nil.{0}) <| And.intro (@List.append_nil.{0}) <| And.intro (@List.nil_append.{0}) <| And.intro (@List.cons_append.{0}) <| And.intro (@Option.some.injEq.{0}) <| And.intro (@List.map_cons.{0, 0}) <| And.intro (@List.map_nil.{0, 0}) <| And.intro (@Option.map_some.{0, 0}) <| And.intro (@Option.map_none.{0, 0}) <| And.intro (@Option.bind_some.{0, 0}) <| And.intro (@Option.bind_none.{0, 0}) <| And.intro (@List.getElem?_map.{0, 0}) <| And.intro (@cond_true.{1}) <| And.intro (@cond_false.{1}) <| And.intro (@Bool.not_true) <| And.intro (@Bool.not_false) <| And.intro (@true_and) <| And.intro (@and_true) <| And.intro (@Int.natCast_nonneg) <| And.intro (@decide_true) <| And.intro (@decide_false) <| And.intro (@R.a.injEq) <| And.intro (@A.d.injEq) <| And.intro (@D.v.injEq) <| And.intro (@Value.int.injEq) <| And.intro (@Value.bool.injEq) <| @D.sl.injEq
end Go.VC
