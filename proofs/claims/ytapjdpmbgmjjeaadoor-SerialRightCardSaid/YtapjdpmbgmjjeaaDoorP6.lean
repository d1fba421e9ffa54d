/- Part 6 of the texts that stand behind the row: what the statement's functions do, and plain laws. -/
import Derived.RecoverIn
import Derived.Test.YtapjdpmbgmjjeaaDoorP5
set_option maxRecDepth 100000
set_option linter.unusedSimpArgs false
set_option linter.unusedVariables false
set_option linter.unnecessarySimpa false
set_option linter.defProp false
section
set_option maxRecDepth 100000
set_option linter.unusedSimpArgs false
set_option linter.unusedVariables false
namespace Go.VC
open Go.RowKit Go.Proofs
/-- A piece of code by what it does; the deferred calls stay as they are. -/
def SemD (P : Program) (gl : Nat → Option (List D)) (code : Code) (Q : Ex → S → Prop) (σ : S) : Prop :=
  ∀ (c : Cx) (β : Nat → Value) (a : Act) (w : World) (n : Nat), c.P = P → c.gl = gl → c.P.follows .mixedOrders = true → dstOK c.N code = true → Sim c σ β a w → code.wpIn (WF none) n c.P (fun e a' w' => a'.defers = a.defers ∧ Qh c Q e a' w') a w
section
variable {P : Program} {gl : Nat → Option (List D)} {σ : S} {Q : Ex → S → Prop}
theorem sd_skip (h : Q .normal σ) : SemD P gl .skip Q σ := fun c β a w n hP hgl hm hd hs => wpIn_skip ⟨rfl, σ, β, hs, h⟩
theorem sd_seq {x y : Code} (h : SemD P gl x (Ex.then (SemD P gl y Q) Q) σ) : SemD P gl (.seq x y) Q σ := fun c β a w n hP hgl hm hd hs => by
  simp only [dstOK, Bool.and_eq_true] at hd
  refine wpIn_seq (wpIn_mono (h c β a w n hP hgl hm hd.1 hs) fun e a' w' he => ?_)
  obtain ⟨hD, he⟩ := he
  cases e with
  | normal =>
    obtain ⟨σ', β', hs', hk⟩ := he
    exact wpIn_mono (hk c β' a' w' n hP hgl hm hd.2 hs') fun e a2 w2 h2 => ⟨h2.1.trans hD, h2.2⟩
  | exit id => exact ⟨hD, he⟩
  | ret => exact ⟨hD, he⟩
  | goto l => exact ⟨hD, he⟩
  | panic ch => exact ⟨hD, he⟩
  | outgrown => exact he.elim
theorem sd_cond {x : Operand} {y z : Code} {b : Bool} (hb : σ.eval gl x = .a (.d (.v (.bool b)))) (hy : b = true → SemD P gl y Q σ) (hz : b = false → SemD P gl z Q σ) : SemD P gl (.cond x y z) Q σ := fun c β a w n hP hgl hm hd hs => by
  simp only [dstOK, Bool.and_eq_true] at hd
  have hv := hs.eval x
  rw [hgl, hb] at hv
  exact wpIn_cond_split hv.inv_v (fun e => hy e c β a w n hP hgl hm hd.1 hs) (fun e => hz e c β a w n hP hgl hm hd.2 hs)
theorem sd_block {id : Nat} {x : Code} (h : SemD P gl x (Ex.inBlock id Q) σ) : SemD P gl (.block id x) Q σ := fun c β a w n hP hgl hm hd hs => by
  refine wpIn_block (wpIn_mono (h c β a w n hP hgl hm hd hs) fun e a' w' he => ?_)
  obtain ⟨hD, he⟩ := he
  cases e with
  | normal => exact ⟨hD, he⟩
  | exit id' =>
    obtain ⟨σ', β', hs', hk⟩ := he
    simp only [Ex.inBlock] at hk
    simp only [Exit.inBlock]
    split at hk
    · rw [if_pos ‹_›]; exact ⟨hD, σ', β', hs', hk⟩
    · rw [if_neg ‹_›]; exact ⟨hD, σ', β', hs', hk⟩
  | ret => exact ⟨hD, he⟩
  | goto l => exact ⟨hD, he⟩
  | panic ch => exact ⟨hD, he⟩
  | outgrown => exact he.elim
theorem dst_ok {N : Nat} {id : Nat} {ops : Array Oper} {draw : Bool} (hd : dstOK N (.region id ops draw) = true) : ∀ o ∈ ops.toList, ∀ d, o.dst = some d → d < N := fun o ho d hod => by
  have := List.all_eq_true.1 hd o ho
  rw [hod] at this
  simpa using this
theorem sd_region {id : Nat} {l : List Oper} (h : opsA P gl l.toArray l σ (Q .normal)) : SemD P gl (.region id l.toArray false) Q σ := fun c β a w n hP hgl hm hd hs => by
  subst hP; subst hgl
  exact wpIn_region_list (opsA_sound (K := Q .normal) (D := a.defers) (Q := fun e a' w' => a'.defers = a.defers ∧ Qh c Q e a' w') (fun σ β a w hs hD hk => ⟨hD, σ, β, hs, hk⟩) l (by simpa using dst_ok hd) hs rfl h)
theorem sd_draw {id : Nat} {l : List Oper} (h : opsQ P gl l.toArray l σ (Q .normal)) (hok : DrawOk l.toArray := by unfold DrawOk; decide +kernel) : SemD P gl (.region id l.toArray true) Q σ := fun c β a w n hP hgl hm hd hs => by
  subst hP; subst hgl
  simp only [DrawOk, Bool.and_eq_true] at hok
  have := any_lex (K := Q .normal) l 0 true (Array.replicate l.toArray.size false) σ (by simp) hok.2 h
  exact wpIn_region_any hm (anyA_sound (K := Q .normal) (D := a.defers) (Q := fun e a' w' => a'.defers = a.defers ∧ Qh c Q e a' w') (fun σ β a w hs hD hk => ⟨hD, σ, β, hs, hk⟩) (dst_ok hd) l.toArray.size _ (hs.drawn _) rfl (by simpa using this))
theorem sd_lag {id : Nat} {ops : Array Oper} (hB : lagB ops = true) (h : opsL P gl ops ops.toList 0 σ (Q .normal)) : SemD P gl (.region id ops true) Q σ := by
  intro c β a w n hP hgl hm hdN hs
  subst hP; subst hgl
  refine wpIn_region_any hm (lag_sound (K := Q .normal) (D := a.defers) (Q := fun e a' w' => a'.defers = a.defers ∧ Qh c Q e a' w') hB (fun σ β a w hs hD hk => ⟨hD, σ, β, hs, hk⟩) (dst_ok hdN) ops.size ops.toList 0 _ (by simp) (by simp) ?_ ?_ ((hs.drawn _).part rfl rfl rfl fun t => .inr ⟨?_, rfl⟩) rfl h)
  · have : ∀ m, cnt (List.replicate m false) = m := fun m => by simp [cnt]
    simp [this]
  · refine ⟨by simp, fun j _ hj => by simp [hj], fun i o d hi => absurd hi (Nat.not_lt_zero _), fun i o hi => absurd hi (Nat.not_lt_zero _), fun k' j hk' hd => ?_⟩
    have hk : k' < ops.size := by
      rcases Nat.lt_or_ge k' ops.size with h | h
      · exact h
      · simp [Array.getElem?_eq_none, h] at hk'
    obtain ⟨oj, hoj, _⟩ := (lag_at hB (Array.getElem?_eq_getElem hk)).dep j hd
    simp [size_of_at hoj]
  · rw [lagP_else]
    rintro ⟨i, o, hU, _, _⟩
    exact absurd hU.1 (Nat.not_lt_zero _)
theorem sd_drawF {id : Nat} {l : List Oper} (F : List (List Nat)) (hB : (lagB l.toArray && lagFs l.toArray l F 0) = true) (h : opsF P gl l l F σ (Q .normal)) : SemD P gl (.region id l.toArray true) Q σ := by
  rw [Bool.and_eq_true] at hB
  exact sd_lag hB.1 (opsF_L l F 0 hB.2 h)
end
/-- An object that stands for a value of an interface's type: what it holds. -/
def ifaceOb (T : TypeId) (x : A) : SemOb where
  os := []
  p := fun _ st w bv => ∃ v, bv = .iface T v ∧ RelA st w v x
  lt := fun h b hb => by obtain ⟨v, rfl, _⟩ := h; cases hb
  mono := fun H h _ => by obtain ⟨v, e, hr⟩ := h; exact ⟨v, e, hr.mono H⟩
  dep := fun _ h => h
section
variable {P : Program} {gl : Nat → Option (List D)} {σ : S} {K : S → Prop} {dst : Option Tmp} {ty : TypeId} {pos : String} {after : Array Edge} {g : Option (Nat × Bool)}
theorem run_eq_iface {w : World} {d : Nat} {t : TypeId} {ms : Array (String × TypeId)} {T : TypeId} {v : Value} (ht : P.underlying t = some (.interface ms)) : (Op.equalIn (d + 1) t (.iface T v) .nilIface).run P w = .ok false w := by
  simp only [Op.equalIn, Sem.run_bind, run_under ht, Result.andThen_ok]
  rfl
theorem run_eq_nil {w : World} {d : Nat} {t : TypeId} {ms : Array (String × TypeId)} (ht : P.underlying t = some (.interface ms)) : (Op.equalIn (d + 1) t .nilIface .nilIface).run P w = .ok true w := by
  simp only [Op.equalIn, Sem.run_bind, run_under ht, Result.andThen_ok]
  rfl
/-- It is not nil. -/
theorem sem_if_nil {ms : Array (String × TypeId)} {t t' q : Nat} (ht : P.underlying t = some (.interface ms)) {x : Operand} {T : TypeId} {y : A} (hx : σ.eval gl x = .own q) (hm : σ.mem q = some (.sem (ifaceOb T y))) (hk : K (σ.put dst (.a (.d (.v (.bool false)))))) : SemOp P gl ⟨dst, .binOp .eql t x (.const .nilIface) t', ty, pos, after, g⟩ σ K := by
  intro c β a w hP hgl hs hd
  subst hP; subst hgl
  have hv := (hx ▸ hs.eval x).inv_own
  obtain ⟨v, hb, hr⟩ := hs.obj _ _ hm
  rw [hb] at hv
  refine Run.val (v := .bool false) (w' := w) (fun _ e => by cases e) ?_ ⟨_, β, hk, hs.put hd (.a (.v rfl))⟩
  have hr := run_eq_iface (P := c.P) (w := w) (d := 9999) (T := T) (v := v) ht
  have hn : a.eval (.const .nilIface) = .nilIface := rfl
  simp [execOp, hv, hn, eqGuard, binOp, Op.equal, Op.maxDepth, hr]
theorem sem_nil_nil {ms : Array (String × TypeId)} {t t' : Nat} (ht : P.underlying t = some (.interface ms)) {x : Operand} (hx : σ.eval gl x = .a (.d (.v .nilIface))) (hk : K (σ.put dst (.a (.d (.v (.bool true)))))) : SemOp P gl ⟨dst, .binOp .eql t x (.const .nilIface) t', ty, pos, after, g⟩ σ K := by
  intro c β a w hP hgl hs hd
  subst hP; subst hgl
  have hv := (hx ▸ hs.eval x).inv_v
  refine Run.val (v := .bool true) (w' := w) (fun _ e => by cases e) ?_ ⟨_, β, hk, hs.put hd (.a (.v rfl))⟩
  have hr := run_eq_nil (P := c.P) (w := w) (d := 9999) ht
  have hn : a.eval (.const .nilIface) = .nilIface := rfl
  simp [execOp, hv, hn, eqGuard, binOp, Op.equal, Op.maxDepth, hr]
/-- What it holds. -/
theorem sem_assert {q tI T : Nat} {x : Operand} {y : A} {offs : List (Nat × Nat × Bool)} (hT : tk P T = .struct offs) (hx : σ.eval gl x = .own q) (hm : σ.mem q = some (.sem (ifaceOb T y))) (hk : K (σ.put dst (.tp [.a y, .a (.d (.v (.bool true)))]))) : SemOp P gl ⟨dst, .typeAssert x tI T true, ty, pos, after, g⟩ σ K := by
  intro c β a w hP hgl hs hd
  subst hP; subst hgl
  have hv := (hx ▸ hs.eval x).inv_own
  obtain ⟨v, hb, hr⟩ := hs.obj _ _ hm
  rw [hb] at hv
  obtain ⟨fs, hu, _⟩ := tk_struct hT
  have hrun : (Instr.typeAssert (.iface T v) tI T true).run c.P w = .ok (.tuple #[v, .bool true]) w := by
    simp only [Instr.typeAssert, Sem.run_bind, run_under hu, Result.andThen_ok, if_true]
    rfl
  refine Run.val (v := .tuple #[v, .bool true]) (w' := w) (fun _ e => by cases e) ?_ ⟨_, β, hk, hs.put hd (.tp (vs := [v, .bool true]) rfl fun j u r hu hr' => ?_)⟩
  · simp [execOp, hv, hrun]
  · match j with
    | 0 => simp at hu hr'; subst hu; subst hr'; exact .a hr
    | 1 => simp at hu hr'; subst hu; subst hr'; exact .a (.v rfl)
    | j + 2 => simp at hu
end
section
variable {c : Cx} {σ : S} {β : Nat → Value} {a : Act} {w : World}
/-- Other deferred calls below. -/
def cxDf (c : Cx) (df : List Deferred) : Cx := { c with df := df }
theorem Sim.redf {df : List Deferred} {a' : Act} (h : Sim c σ β a w) (ht : a'.tmps = a.tmps) (hd : a'.defers = df) : Sim (cxDf c df) σ β a' w := by
  obtain ⟨Ds, _, m⟩ := h.df
  exact ⟨h.keep, by rw [ht]; exact h.size, ⟨[], (by rw [hd]; rfl), (List.nodup_append.1 m.nd).2.1, fun D hD => m.ok D (List.mem_append_right _ hD), m.lp⟩, h.ext, h.obj, h.blk, h.dis, fun t => by rw [ht]; exact h.reg t, h.env⟩
theorem enter_st {N : Nat} {rs : List R} {Ds : List Nat} {vs : List Value} : ∀ b, stF c σ β w b → stF (cxIn c N Ds) (S.enter vs rs σ) (βIn β) w b ∧ w.heap[b]? = w.heap[b]? := fun b hb => ⟨⟨hb.1, hb.2.1, fun o x hx => by
    rcases enter_at hx with ⟨rfl, _⟩ | ⟨o', y, rfl, hy, _⟩
    · simp [βIn, undef_own]
    · rw [βIn_add]; exact hb.2.2.1 o' y hy, hb.2.2.2⟩, rfl⟩
/-- A frame leaves by its marks, down to the deferred calls below. -/
theorem marks_outD {n : Nat} {fn : Func} {R : Ending → World → Prop} {u : FrameMode} (hu : u ≠ .run) : ∀ (Ds : List Nat) {a : Act} {w : World}, Sim c σ β a w → a.defers = Ds.map markD ++ c.df → MarksOk c σ β w (Ds ++ c.M) →
    (∀ a' w', a'.tmps = a.tmps → a'.defers = c.df → Sim c σ β a' w' → (∀ b, stF c σ β w b → stF c σ β w' b ∧ w'.heap[b]? = w.heap[b]?) → LeavesInM Fence.wide n c.P fn a'.tmps R c.df u w') → LeavesInM Fence.wide n c.P fn a.tmps R (Ds.map markD ++ c.df) u w
  | [], a, w, hs, hd, hm, hR => hR a w rfl hd hs fun b hb => ⟨hb, rfl⟩
  | D :: Ds, a, w, hs, hd, hm, hR => by
    obtain ⟨h1, h2, h3⟩ := hm.ok D (by simp)
    have hlt := lt_of_some h2
    have hnd := hm.nd
    simp only [List.cons_append, List.nodup_cons] at hnd
    refine ⟨hu, .inl ⟨D, w.putObj D (.deferred none), rfl, run_takeDeferred h2, ?_⟩⟩
    have ho : ∀ k, k ≠ D → (w.putObj D (.deferred none)).heap[k]? = w.heap[k]? := fun k hk => World.putObj_heap_other hk
    have hk : Keep (fun b => b = D) w (w.putObj D (.deferred none)) := ⟨rfl, rfl, rfl, by simp [World.putObj], fun k _ hk => ho k hk⟩
    have H : ∀ b, stF c σ β w b → stF c σ β (w.putObj D (.deferred none)) b ∧ (w.putObj D (.deferred none)).heap[b]? = w.heap[b]? := fun b hb => by
      have hne : b ≠ D := fun e => hb.2.2.2.1 _ (e ▸ h2)
      exact ⟨⟨Nat.lt_of_lt_of_le hb.1 hk.size, hb.2.1, hb.2.2.1, hb.2.2.2.same (ho b hne)⟩, ho b hne⟩
    have hm' : MarksOk c σ β (w.putObj D (.deferred none)) (Ds ++ c.M) := ⟨hnd.2, fun D' hD' => by
      obtain ⟨g1, g2, g3⟩ := hm.ok D' (by simp only [List.cons_append, List.mem_cons]; exact .inr hD')
      exact ⟨g1, (ho D' fun e => hnd.1 (e ▸ hD')).trans g2, g3⟩, fun y hy => by
      obtain ⟨g1, g2, g3⟩ := hm.lp y hy
      exact ⟨g1, (ho y.1 fun e => by rw [e, h2] at g2; cases g2).trans g2, g3⟩⟩
    exact marks_outD hu Ds (a := { a with defers := Ds.map markD ++ c.df }) (w := w.putObj D (.deferred none))
      ⟨hs.keep.trans hk (fun j e hj => by omega), hs.size, ⟨Ds, rfl, hm'⟩, c.hE H hs.ext, fun o x hx => (hs.obj o x hx).mono H fun b hb => ho b fun e => h3 o x hx (e ▸ hb), hs.blk, hs.dis, fun t => (hs.reg t).mono H, hs.env.mono H⟩
      rfl hm' fun a' w' h1 h2 h3 h4 => hR a' w' h1 h2 h3 fun b hb => ⟨(h4 b (H b hb).1).1, (h4 b (H b hb).1).2.trans (H b hb).2⟩
end
/-- The end of a deferred closure's body. -/
noncomputable def postC (vs : List Value) (K : S → Prop) : Ex → S → Prop
  | .normal, σ | .ret, σ => fvOf (σ.mem 999999) = some vs ∧ K σ.leave
  | _, _ => False
/-- What is known of a panic. -/
def PanOk (c : Cx) (σ : S) (β : Nat → Value) (w : World) (u : FrameMode) (p : Option (TypeId × A)) : Prop := match p with
  | none => u = .returning
  | some (T, x) => ∃ v, u = .panicking [{ v := .iface T v, recovered := false }] ∧ RelA (stF c σ β w) w v x
/-- A deferred closure's state behind 'recover'. -/
noncomputable def S.recov (σ : S) (d : Tmp) : Option (TypeId × A) → S
  | none => σ.put (some d) (.a (.d (.v .nilIface)))
  | some (T, x) => (σ.newOb 999990 (.sem (ifaceOb T x))).put (some d) (.own 999990)
/-- A deferred closure that asks 'recover' first. -/
theorem closD {P : Program} {gl : Nat → Option (List D)} {f : FuncId} {fn : Func} {y : Code} {id : Nat} {d : Tmp} {ty : TypeId} {pos : String} {after : Array Edge} {rs : List R} {σ : S} {K : S → Prop} {p : Option (TypeId × A)} {at_ : Array TypeId} (hm : P.follows .mixedOrders = true)
    (hf : P.funcs[f]? = some fn) (hb : fn.body = some (.seq (.region id #[⟨some d, .call { callee := .builtin .recover, args := #[], argTypes := at_ }, ty, pos, after, none⟩] false) y)) (hres : fn.results = #[]) (hd : dstOK fn.ntmps y = true) (hdn : d < fn.ntmps) (hN : decide (rs.length ≤ fn.ntmps) = true)
    (h : ∀ vs, SemD P gl y (postC vs K) ((S.enter vs rs σ).recov d p))
    {c : Cx} {β : Nat → Value} {a : Act} {w : World} {vs : List Value} {u : FrameMode} {n : Nat} (hP : c.P = P) (hgl : c.gl = gl) (hs : Sim c σ β a w) (hv : F2 (RelR β (stF c σ β w) w) vs rs) (hp : PanOk c σ β w u p) :
    CallsDIn Fence.wide n P f vs.toArray u w fun e u' w' => ∃ v, e = .returned v ∧ settle u' = .returning ∧ ∃ σ' β', Sim c σ' β' a w' ∧ K σ' := by
  subst hP; subst hgl
  refine callsDIn_of_wpSIn hf hb trivial fun c₀ cs hu => wpSIn_seq (wpSIn_region ?_)
  obtain ⟨Ds, hds, hM⟩ := hs.df
  have hs1 := enter_sim hs hM hv (N := fn.ntmps) (by simpa using hN)
  have hst := enter_st (c := c) (σ := σ) (β := β) (w := w) (N := fn.ntmps) (rs := rs) (Ds := Ds) (vs := a.tmps.toList)
  -- what is done behind 'recover'
  have main : ∀ (v : Value) (m : FrameMode), settle m = .returning → (∃ β1, Sim (cxIn c fn.ntmps Ds) ((S.enter a.tmps.toList rs σ).recov d p) β1 (({ tmps := vs.toArray ++ Array.replicate (fn.ntmps - vs.toArray.size) undef, defers := [] } : Act).put (some d) v) w) →
      (Exit.thenS (y.wpSIn Fence.wide n c.P (bodyPostS c.P fn c₀ cs fun e u' w' => ∃ v, e = .returned v ∧ settle u' = .returning ∧ ∃ σ' β', Sim c σ' β' a w' ∧ K σ')) (bodyPostS c.P fn c₀ cs fun e u' w' => ∃ v, e = .returned v ∧ settle u' = .returning ∧ ∃ σ' β', Sim c σ' β' a w' ∧ K σ')) .normal (({ tmps := vs.toArray ++ Array.replicate (fn.ntmps - vs.toArray.size) undef, defers := [] } : Act).put (some d) v) ({ c₀ with mode := m } :: cs) w := by
    rintro v m hmode ⟨β1, hs2⟩
    refine wpSIn_of_wpIn rfl (wpIn_mono (h a.tmps.toList (cxIn c fn.ntmps Ds) β1 _ w n rfl rfl hm hd hs2) fun e a' w' he => ?_)
    obtain ⟨hD, he⟩ := he
    have hD : a'.defers = [] := hD
    have out : ∀ σ' β', Sim (cxIn c fn.ntmps Ds) σ' β' a' w' → postC a.tmps.toList K .ret σ' → bodyPostS c.P fn c₀ cs (fun e u' w' => ∃ v, e = .returned v ∧ settle u' = .returning ∧ ∃ σ' β', Sim c σ' β' a w' ∧ K σ') .ret a' ({ c₀ with mode := m } :: cs) w' := by
      rintro σ' β' hs' ⟨hfv, hk⟩
      obtain ⟨rs', hfr⟩ : ∃ rs', σ'.mem 999999 = some (.frame a.tmps.toList rs') := by
        unfold fvOf at hfv
        split at hfv
        · rename_i vs' rs' e; cases hfv; exact ⟨rs', e⟩
        · cases hfv
      obtain ⟨hl, _⟩ := leave_sim (a := a) hs' hfr hs.size hds
      refine ⟨hD, m, rfl, .tuple #[], ?_, .tuple #[], rfl, hmode, _, _, hl, hk⟩
      have e1 : results fn a'.tmps = (do let vs ← fn.results.mapM (resG a'.tmps); pure (if h : vs.size = 1 then vs[0] else .tuple vs)) := rfl
      have e2 : (fn.results.mapM (resG a'.tmps)).run c.P w' = .ok #[] w' := by rw [hres]; simp
      rw [e1, Sem.run_bind, e2, Result.andThen_ok]
      rfl
    cases e with
    | normal => obtain ⟨σ', β', hs', hk⟩ := he; exact out σ' β' hs' hk
    | ret => obtain ⟨σ', β', hs', hk⟩ := he; exact out σ' β' hs' hk
    | exit id => obtain ⟨σ', β', hs', hk⟩ := he; exact hk.elim
    | goto l => exact he.elim
    | panic ch => obtain ⟨_, _, _, _, _, _, _, _, hk⟩ := he; exact hk.elim
    | outgrown => exact he.elim
  have hrun : ∀ ev : Operand → Value, (execOp ev ⟨some d, .call { callee := .builtin .recover, args := #[], argTypes := at_ }, ty, pos, after, none⟩).run c.P w = .ok .recover w := fun ev => by
    simp [execOp, resolve, invoke, builtin]
  cases p with
  | none =>
    have hp : u = .returning := hp
    subst hp
    have e0 : recoverD (c₀ :: cs) = none := by simp [recoverD, hu]
    rw [show List.range (#[(⟨some d, .call { callee := .builtin .recover, args := #[], argTypes := at_ }, ty, pos, after, none⟩ : Oper)]).size = [0] from rfl]
    simp only [wpOpsSIn, List.getElem?_toArray, List.getElem?_cons_zero, wanted_none, if_true]
    refine ⟨fun _ _ => trivial, ?_⟩
    rw [hrun]
    simp only [e0]
    have hc0 : ({ c₀ with mode := .returning } : Frame) = c₀ := by rw [← hu]
    have hq := hs1.put (dst := some d) (r := .a (.d (.v .nilIface))) (v := .nilIface) (fun d' e => by cases e; exact hdn) (.a (show Rd _ _ _ _ from .v rfl))
    have := main .nilIface .returning rfl ⟨_, hq⟩
    rw [hc0] at this
    exact this
  | some q =>
    obtain ⟨T, x⟩ := q
    obtain ⟨v, rfl, hr⟩ := hp
    have e0 : recoverD (c₀ :: cs) = some (.iface T v, { c₀ with mode := .panicking [{ v := .iface T v, recovered := true }] } :: cs) := by simp [recoverD, hu]
    rw [show List.range (#[(⟨some d, .call { callee := .builtin .recover, args := #[], argTypes := at_ }, ty, pos, after, none⟩ : Oper)]).size = [0] from rfl]
    simp only [wpOpsSIn, List.getElem?_toArray, List.getElem?_cons_zero, wanted_none, if_true]
    refine ⟨fun _ _ => trivial, ?_⟩
    rw [hrun]
    simp only [e0]
    have hn := hs1.new (o := 999990) (x := .sem (ifaceOb T x)) (bv := .iface T v) (w' := w) ⟨rfl, rfl, rfl, Nat.le_refl _, fun _ _ _ => rfl⟩ (fun b hb => by cases hb) ⟨v, rfl, (hr.mono hst).mono fun b hb => ⟨st_new (Nat.le_refl _) (fun b hb => rfl) (fun b hb => by cases hb) hb, rfl⟩⟩
    have hq := hn.put (dst := some d) (r := .own 999990) (v := .iface T v) (fun d' e => by cases e; exact hdn) (.own (by simp [upd]) rfl)
    exact main (.iface T v) (.panicking [{ v := .iface T v, recovered := true }]) rfl ⟨_, hq⟩
end Go.VC
end
section
set_option maxRecDepth 100000
set_option linter.unusedSimpArgs false
set_option linter.unusedVariables false
namespace Go.VC
open Go.RowKit Go.Proofs
theorem CallsDIn.mono' {F : Fence} {n : Nat} {P : Program} {f : FuncId} {args : Array Value} {u : FrameMode} {w : World} {R R' : Ending → FrameMode → World → Prop} (h : CallsDIn F n P f args u w R) (k : ∀ e u' w', R e u' w' → R' e u' w') : CallsDIn F n P f args u w R' :=
  ⟨h.1, fun c cs hu hr => let ⟨e, u', w', fr, hR, rest⟩ := h.2 c cs hu hr; ⟨e, u', w', fr, k _ _ _ hR, rest⟩⟩
/-- What the deferred closure must do, behind the body that returned (none) or panicked. -/
def ClosK (P : Program) (gl : Nat → Option (List D)) (y : Code) (dg : Tmp) (caps : List (Nat × Nat)) (K5 : S → Prop) (p : Option (TypeId × A)) (σ : S) : Prop :=
  ∀ vs', SemD P gl y (postC vs' K5) ((S.enter vs' (caps.map fun c => .ref c.1 c.2) σ).recov dg p)
/-- How the body behind the 'defer' may end. -/
def postX (cvs : List Value) (caps : List (Nat × Nat)) (cl : Option (TypeId × A) → S → Prop) : Ex → S → Prop
  | .normal, σ => (∃ rs, σ.mem 999991 = some (.frame cvs rs) ∧ ∀ (j : Nat) (c : Nat × Nat), caps[j]? = some c → rs j = .ref c.1 c.2) ∧ cl none σ
  | .panic t r, σ => (∃ rs, σ.mem 999991 = some (.frame cvs rs) ∧ ∀ (j : Nat) (c : Nat × Nat), caps[j]? = some c → rs j = .ref c.1 c.2) ∧ ∃ x, r = .a x ∧ cl (some (t, x)) σ
  | _, _ => False
def capsR (caps : List (Nat × Nat)) (t : Nat) : R := match caps[t]? with
  | some c => .ref c.1 c.2
  | none => .any
/-- What a function with a deferred closure tells, when the closure is done. -/
noncomputable def endDf (P : Program) (vs : List Value) (t : Tmp) (T : TypeId) (K : S → List R → Prop) (σ : S) : Prop :=
  fvOf (σ.mem 999999) = some vs ∧ ∃ o off r, σ.regs t = .ref o off ∧ loadR P σ T (.ref o off) = some r ∧ K σ.leave [r.down]
theorem inl_defer {P : Program} {gl : Nat → Option (List D)} {f g : FuncId} {fn gn : Func} {x0 x2 y : Code} {rs : List R} {t : Tmp} {T : TypeId} {σ : S} {K : S → List R → Prop} {caps : List (Nat × Nat)} {cl : List Operand} {d dg : Tmp} {id idg : Nat} {k : Call} {ty ty' tyg : TypeId} {pos pos' posg : String} {after after' afterg : Array Edge} {at_ : Array TypeId} (hm : P.follows .mixedOrders = true)
    (hf : P.funcs[f]? = some fn) (hb : fn.body = some (.seq x0 (.seq (.region id #[⟨some d, .makeFunc (.func g) #[] cl.toArray, ty, pos, after, none⟩, ⟨none, .defer k, ty', pos', after', none⟩] false) (.seq x2 .ret)))) (hk : k.callee = .value (.tmp d)) (hka : k.args = #[]) (hres : fn.results = #[.cell t T]) (hname : (fn.name == "runtime.NumGoroutine") = false) (hd : dstOK fn.ntmps x0 = true) (hdd : d < fn.ntmps) (hd2 : dstOK fn.ntmps x2 = true) (hN : decide (rs.length ≤ fn.ntmps) = true)
    (hg : P.funcs[g]? = some gn) (hgb : gn.body = some (.seq (.region idg #[⟨some dg, .call { callee := .builtin .recover, args := #[], argTypes := at_ }, tyg, posg, afterg, none⟩] false) y)) (hgres : gn.results = #[]) (hgd : dstOK gn.ntmps y = true) (hgdn : dg < gn.ntmps) (hgN : decide (caps.length ≤ gn.ntmps) = true) (hgname : (gn.name == "runtime.NumGoroutine") = false)
    (hc9 : ∀ c ∈ caps, c.1 ≠ 999991)
    (h : ∀ vs, SemD P gl x0 (fun e σ1 => e = .normal ∧ cl.map (σ1.eval gl) = caps.map (fun c => .ref c.1 c.2) ∧ ∀ cvs, SemCode P gl x2 (postX cvs caps (ClosK P gl y dg caps (endDf P vs t T K))) ((σ1.put (some d) (.clo g caps)).newOb 999991 (.frame cvs (capsR caps)))) (S.enter vs rs σ)) : Inl P gl f rs σ K := by
  refine ⟨⟨fn, hf, by rw [hb]; rfl, hname⟩, fun c β a w vs hP hgl hs hv => ?_⟩
  subst hP; subst hgl
  have h := h a.tmps.toList
  rw [← callsIn_wide (n := 0)]
  refine callsIn_of_wp_marks hf hb trivial ?_
  obtain ⟨Ds, hds, hM⟩ := hs.df
  refine wpIn_seq (wpIn_mono (h (cxIn c fn.ntmps Ds) _ _ _ 0 rfl rfl hm hd (enter_sim hs hM hv (by simpa using hN))) fun e a1 w1 he => ?_)
  obtain ⟨hD1, he⟩ := he
  have hD1 : a1.defers = [] := hD1
  cases e with
  | exit id => obtain ⟨_, _, _, hk⟩ := he; cases hk.1
  | ret => obtain ⟨_, _, _, hk⟩ := he; cases hk.1
  | goto l => exact he.elim
  | panic ch => obtain ⟨_, _, _, _, _, _, _, _, hk⟩ := he; cases hk.1
  | outgrown => exact he.elim
  | normal =>
  obtain ⟨σ1, β1, hs1, _, hcaps, hx2⟩ := he
  show Code.wpIn _ _ _ (.seq _ _) _ _ _
  refine wpIn_seq (wpIn_region_list ?_)
  simp only [wpListIn, wanted_none (o := ⟨some d, .makeFunc (.func g) #[] cl.toArray, ty, pos, after, none⟩) rfl, if_true]
  refine sem_clo (P := c.P) (gl := c.gl) (K := fun σ' => σ' = σ1.put (some d) (.clo g caps)) hcaps rfl (cxIn c fn.ntmps Ds) β1 a1 w1 rfl rfl hs1 (fun d' e => by cases e; exact hdd) none 0 _ _ ?_
  rintro v w2 ⟨σ2, β2, rfl, hs2⟩
  have hsz : d < a1.tmps.size := by rw [hs1.size]; exact hdd
  have htd : (a1.put (some d) v).tmps.getD d undef = v := by simp [Act.put, hsz]
  have hrv := hs2.reg d
  rw [show (a1.put (some d) v).tmps.getD d undef = v from htd, show (σ1.put (some d) (.clo g caps)).regs d = .clo g caps by simp [S.put, upd]] at hrv
  obtain ⟨cvs, rfl, hcv⟩ : ∃ cvs : List Value, v = .func (.func g) #[] cvs.toArray ∧ F2 (fun v c => ∃ b, β2 c.1 = .pointer (some ⟨b, 0, none⟩) ∧ v = .pointer (some ⟨b, c.2, none⟩)) cvs caps := by
    cases hrv with
    | clo hl => exact ⟨_, rfl, hl⟩
  have hev : (a1.put (some d) (.func (.func g) #[] cvs.toArray)).eval (.tmp d) = .func (.func g) #[] cvs.toArray := htd
  simp only [wanted_none (o := ⟨none, .defer k, ty', pos', after', none⟩) rfl, if_true]
  refine ⟨fun _ _ => trivial, ?_⟩
  have hdef : (Oper.semAt Fence.wide.round (a1.put (some d) (.func (.func g) #[] cvs.toArray)).eval ⟨none, .defer k, ty', pos', after', none⟩).run c.P w2 = .ok (.defer { target := .fn (.func g) cvs.toArray, args := #[] }) w2 := by
    rw [show Fence.wide.round = none from rfl, Oper.semAt_none]
    simp [execOp, resolve, hk, hka, hev, Deferred.ofValue]
  rw [hdef]
  have hs3 := Sim.redf (df := [{ target := .fn (.func g) cvs.toArray, args := #[] }]) (a' := { (a1.put (some d) (.func (.func g) #[] cvs.toArray)) with defers := { target := .fn (.func g) cvs.toArray, args := #[] } :: (a1.put (some d) (.func (.func g) #[] cvs.toArray)).defers }) hs2 rfl (by
    show _ :: a1.defers = _
    rw [hD1])
  generalize hc2 : cxDf (cxIn c fn.ntmps Ds) [{ target := .fn (.func g) cvs.toArray, args := #[] }] = c2 at hs3
  have hs4 := hs3.new (o := 999991) (x := .frame cvs (capsR caps)) (bv := undef) (w' := w2) ⟨rfl, rfl, rfl, Nat.le_refl _, fun _ _ _ => rfl⟩ (fun b hb => by simp [undef_own] at hb) ⟨undef_own, fun j => by
    unfold capsR
    split
    · rename_i cp hcp
      obtain ⟨u, hu, b, hb, rfl⟩ := hcv.get hcp
      rw [List.getD_eq_getElem?_getD, hu]
      refine .ref (b := b) ?_
      rw [show upd β2 999991 undef cp.1 = β2 cp.1 by simp [upd, hc9 cp (List.mem_of_getElem? hcp)]]
      exact hb
    · exact .any⟩
  have hc2P : c2.P = c.P := by rw [← hc2]; rfl
  have hc2g : c2.gl = c.gl := by rw [← hc2]; rfl
  have hc2N : c2.N = fn.ntmps := by rw [← hc2]; rfl
  have hc2d : c2.df = [{ target := .fn (.func g) cvs.toArray, args := #[] }] := by rw [← hc2]; rfl
  -- the closure is called
  have leave : ∀ (p : Option (TypeId × A)) (u : FrameMode) (σ3 : S) (β3 : Nat → Value) (a3 : Act) (w3 : World), u ≠ .run → Sim c2 σ3 β3 a3 w3 → PanOk c2 σ3 β3 w3 u p →
      (∃ rs, σ3.mem 999991 = some (.frame cvs rs) ∧ ∀ (j : Nat) (c : Nat × Nat), caps[j]? = some c → rs j = .ref c.1 c.2) → ClosK c.P c.gl y dg caps (endDf c.P a.tmps.toList t T K) p σ3 →
      LeavesInM Fence.wide 0 c.P fn a3.tmps (fun e w' => ∃ (us : List Value) (rs' : List R) (σ' : S) (β' : Nat → Value), e = .returned (retV us) ∧ Sim c σ' β' a w' ∧ F2 (RelR β' (stF c σ' β' w') w') us rs' ∧ K σ' rs') a3.defers u w3 := by
    intro p u σ3 β3 a3 w3 hu hs3 hpan hfr hcl
    obtain ⟨Ds3, hds3, hM3⟩ := hs3.df
    rw [hds3, ← hc2P]
    refine marks_outD hu Ds3 hs3 hds3 hM3 fun a4 w4 ht4 hd4 hs4 hH => ?_
    rw [hc2d]
    have hvs : F2 (RelR β3 (stF c2 σ3 β3 w4) w4) cvs (caps.map fun c => .ref c.1 c.2) := by
      obtain ⟨rs3, hfr, hrs⟩ := hfr
      obtain ⟨_, hfr⟩ := hs4.obj _ _ hfr
      refine ⟨by rw [List.length_map]; exact hcv.1, fun j u r hu hr => ?_⟩
      rw [List.getElem?_map] at hr
      obtain ⟨cp, hcp, rfl⟩ := Option.map_eq_some_iff.1 hr
      have := hfr j
      rw [hrs j cp hcp, List.getD_eq_getElem?_getD, hu] at this
      exact this
    have hpan4 : PanOk c2 σ3 β3 w4 u p := by
      cases p with
      | none => exact hpan
      | some q => obtain ⟨v, e, hr⟩ := hpan; exact ⟨v, e, hr.mono hH⟩
    refine ⟨hu, .inr ⟨fun h => by simp [Fence.wide] at h, .func g, cvs.toArray, g, (#[] ++ cvs.toArray : Array Value), rfl, ?_, fun _ _ => trivial, ?_⟩⟩
    · simp only [invoke]
      exact funcs_run ⟨gn, by rw [hc2P]; exact hg, by rw [hgb]; rfl, hgname⟩
    · have hca : (#[] ++ cvs.toArray : Array Value) = cvs.toArray := by simp
      rw [hca, hc2P]
      refine CallsDIn.mono' (closD (n := 0 - 1) hm hg hgb hgres hgd hgdn (by simpa using hgN) hcl hc2P hc2g hs4 hvs hpan4) fun e u' w' hq => ?_
      obtain ⟨v, rfl, hset, σ5, β5, hs5, hfv, o5, off5, r5, hr5, hl5, hk5⟩ := hq
      show LeavesInM _ _ _ _ _ _ [] (settle u') w'
      rw [hset]
      have hs6 := Sim.redf (df := []) (a' := { a4 with defers := [] }) hs5 rfl rfl
      rw [show cxDf c2 [] = cxIn c fn.ntmps Ds by rw [← hc2]; rfl] at hs6
      obtain ⟨rs', hfr'⟩ : ∃ rs', σ5.mem 999999 = some (.frame a.tmps.toList rs') := by
        unfold fvOf at hfv
        split at hfv
        · rename_i vs' rs' e; cases hfv; exact ⟨rs', e⟩
        · cases hfv
      obtain ⟨hl, hst⟩ := leave_sim (a := a) hs6 hfr' hs.size hds
      have hβ : ∀ o, 1000000 ≤ o → (fun o => β5 (upId o)) (o - 1000000) = β5 o := fun o ho => congrArg β5 (upId_of ho)
      obtain ⟨val, hrun, hrel⟩ := load_run (p := .tmp t) hs6 (show loadR (cxIn c fn.ntmps Ds).P σ5 T (σ5.eval _ (.tmp t)) = some r5 by rw [show σ5.eval (cxIn c fn.ntmps Ds).gl (.tmp t) = σ5.regs t from rfl, hr5]; exact hl5)
      have hpt := hs6.reg t
      rw [hr5] at hpt
      obtain ⟨b, _, hpt⟩ := hpt.inv_ref
      have hrg : (resG a4.tmps (.cell t T)).run c.P w' = .ok val w' := by
        have h1 : ({ a4 with defers := [] } : Act).eval (.tmp t) = .pointer (some ⟨b, off5, none⟩) := hpt
        have h2 : a4.tmps.getD t undef = .pointer (some ⟨b, off5, none⟩) := hpt
        rw [h1] at hrun
        have hrun : (loadVar T ⟨b, off5, none⟩).run (cxIn c fn.ntmps Ds).P w' = .ok val w' := by simpa [Instr.loadAt, Instr.sureAddr] using hrun
        simp only [resG, h2, asAddr, Sem.run_bind, Sem.run_pure, Result.andThen_ok]
        exact hrun
      refine ⟨val, ?_, [val], [r5.down], _, _, rfl, hl, F2.cons (RelR.down (β' := fun o => β5 (upId o)) hβ (hrel.mono hst)) F2.nil, hk5⟩
      have e1 : results fn a4.tmps = (do let vs ← fn.results.mapM (resG a4.tmps); pure (if h : vs.size = 1 then vs[0] else .tuple vs)) := rfl
      have e2 : (fn.results.mapM (resG a4.tmps)).run c.P w' = .ok (fn.results.toList.map (resV c.P a4.tmps w')).toArray w' := run_mapM_arr _ (resV c.P a4.tmps w') fun v hv => by
        rw [hres] at hv
        simp only [List.mem_singleton, Array.mem_toList_iff, Array.mem_singleton] at hv
        subst hv
        rw [resV_of hrg]; exact hrg
      rw [e1, Sem.run_bind, e2, Result.andThen_ok, hres]
      show Result.ok (resV c.P a4.tmps w' (.cell t T)) w' = _
      rw [resV_of hrg]
  show Code.wpIn _ _ _ (.seq x2 .ret) _ _ _
  have hx := hx2 cvs c2 _ _ _ none 0 hc2P hc2g (by rw [hc2P]; exact hm) (by rw [hc2N]; exact hd2) (.inl rfl) hs4
  rw [hc2P] at hx
  refine wpIn_seq (wpIn_mono hx fun e a3 w3 he => ?_)
  cases e with
  | exit id => obtain ⟨_, _, _, hk⟩ := he; exact hk.elim
  | ret => obtain ⟨_, _, _, hk⟩ := he; exact hk.elim
  | goto l => exact he.elim
  | outgrown => exact he.elim
  | normal =>
    obtain ⟨σ3, β3, hs3', hfr, hcl⟩ := he
    exact wpIn_ret (leave none .returning σ3 β3 a3 w3 (by simp) hs3' rfl hfr hcl)
  | panic ch =>
    obtain ⟨σ3, β3, t3, v3, r3, rfl, hs3', hr3, hfr, x3, rfl, hcl⟩ := he
    exact leave (some (t3, x3)) (.panicking [{ v := .iface t3 v3, recovered := false }]) σ3 β3 a3 w3 (by simp) hs3' ⟨v3, rfl, by cases hr3 with | a h => exact h⟩ hfr hcl
end Go.VC
end
section
set_option maxRecDepth 100000
set_option linter.unusedSimpArgs false
set_option linter.unusedVariables false
set_option linter.unnecessarySimpa false
namespace Go.VC
open Go.RowKit Go.Proofs Go.IntWalk
theorem InlP.nilArg {P : Program} {gl : Nat → Option (List D)} {f : FuncId} {r1 r3 : R} {σ : S} {K : S → List R → Prop} {KP : TypeId → R → S → Prop} (h : InlP P gl f [r1, .a (.d (.sl [])), r3] σ K KP) : InlP P gl f [r1, .cs [], r3] σ K KP :=
  ⟨h.1, fun c β a w vs hP hgl hs hv => h.2 c β a w vs hP hgl hs (by
    obtain ⟨u1, l1, rfl, h1, hv⟩ := hv.of_cons
    obtain ⟨u2, l2, rfl, h2, hv2⟩ := hv.of_cons
    obtain ⟨p, n, rfl, h3⟩ := h2.inv_cs
    exact F2.cons h1 (F2.cons (RelR.a (x := .d (.sl [])) (show Rd _ _ _ _ from h3)) hv2))⟩
/-- What a search found. -/
structure Fnd where
  v : Nat
  c : Nat
  row : List Nat
  s : Nat
abbrev Fnd.a (x : Fnd) : A := .ag [dI x.v, .v (.int .u32 x.c), .sl ((rowI x.row).map ienc), dI x.s]
def Out.fnd (C : Nat) : Out → Fnd
  | .ret s => ⟨1, 0, [], s⟩
  | .fin v row s => if v = 0 then ⟨0, C, row, s⟩ else ⟨v, 0, [], s⟩
def foundF (T : List Txn) (who C B : Nat) : Fnd := (goF T who C B (T.length + 1) [] 0).fnd C
/-- The end of search's closure. -/
theorem clos_end {P : Program} {vs vs' : List Value} {T : TypeId} {bs : Nat} {z : List Value} {σ σ3 τ : S} {o : Nat} {K : S → List R → Prop} {ds : List D} (hT : tinf P T = some ⟨4, bs, true, z⟩) (kpc : KeepsB 900000000 vs' 2 σ3 τ) (kp : KeepsB 800000000 vs o σ σ3) (r2 : σ3.regs 2 = .ref 2 0)
    (m2 : τ.mem (upId 2) = some (.box (ds.map fun d => .a (.d d)))) (hl : ds.length = 4) (hK : ∀ σ' : S, LeftB 800000000 o σ σ' → K σ' [.a (.ag ds)]) : postC vs' (endDf P vs 2 T K) .normal τ := by
  have L := KeepsB.leave (Nat.le_refl _) kpc
  have kp2 : KeepsB 800000000 vs o σ τ.leave := ⟨L.m rfl rfl kp.fr up_frame, fun o' x h1 h2 h3 => by
    have := of_decide_eq_true h2
    have := upId_eq o'
    exact L.m (by simp; omega) (decide_eq_true (by omega)) (kp.ob o' x h1 h2 h3) (up_obj x)⟩
  have hm2 : τ.leave.mem 2 = some (.box (ds.map fun d => .a (.d d))) := by
    rw [lv_m rfl, m2]
    simp only [Option.map_some, Ob.down, List.map_map]
    rfl
  refine ⟨by rw [kpc.fr]; rfl, by rw [kp2.fr]; rfl, 2, 0, .a (.ag ds), L.r r2 up_ref1, ?_, hK _ (KeepsB.leave (by omega) kp2)⟩
  have ht : List.take 4 (ds.map fun d => R.a (.d d)) = ds.map fun d => R.a (.d d) := List.take_of_length_le (by simp [hl])
  simp only [loadR, hT, hm2, List.drop_zero, ht, allD_map, Nat.zero_add, List.length_map, hl, Nat.le_refl, if_true, Option.map_some]
theorem search_inl (h : List Ev) (hE : checkE h = 0) (who C B : Nat) (hw : who < 2 ^ (txns h).length) (hC : C < 2 ^ 32) (hB : B ≤ 1000000) {σ : S} {o : Nat} {K : S → List R → Prop} (ho : decide (o < 800000000) = true) (mo : σ.mem o = some (.box (seaR h (txns h) who C B 0)))
    (hK : ∀ σ' : S, LeftB 800000000 o σ σ' → K σ' [.a (foundF (txns h) who C B).a]) : Inl Tryd.prog GL 21 [.ref o 0] σ K := by
  have hO1 := of_decide_eq_true ho
  have hO : decide (o < 999000000) = true := decide_eq_true (by omega)
  have hOU : decide (upId o < 1000000000) = true := up_lt hO
  refine inl_defer (caps := [(1, 0), (2, 0)]) (by kernel_rfl) Tryd.func21 rfl rfl rfl rfl (by kernel_rfl) rfl (by decide) rfl rfl Tryd.func43 rfl rfl rfl (by decide) rfl (by kernel_rfl) (by decide) fun vs => ?_
  refine sd_region ?_
  (refine rO ?_; repeat' ((with_reducible first | refine rG ?_ | (refine rS ?_ ?_ <;> intro hp) | (refine rB ?_ ?_ <;> intro hb <;> try rw [hb]) | refine rD ?_ | refine rA ?_ | fail) <;> try simp only [go_sem, simprocAttr, PI, hO, hOU, mo]))
  generalize hcl : ClosK Tryd.prog GL _ _ _ _ = CL
  have hoU : decide (upId o < Bd ((txns h).length + 1)) = true := decide_eq_true (by have := upId_eq o; have := txns_len6 h; unfold Bd; omega)
  have hl6 := txns_len6 h
  -- what the closure does
  have clos : ∀ (p : Option (TypeId × A)) (σ3 : S) (s' : Nat), KeepsB 800000000 vs o σ σ3 → σ3.mem 1 = some (.box [.ref (upId o) 0]) → σ3.mem 2 = some (.box [.a (I 0), .a (U 0), .a (.d (.sl [])), .a (I 0)]) → σ3.mem (upId o) = some (.box (seaR h (txns h) who C B s')) → σ3.regs 2 = .ref 2 0 →
      ((p = none ∧ goF (txns h) who C B ((txns h).length + 1) [] 0 = .ret s') ∨ ∃ v row', p = some (88, .ag [dI (v : Nat), .sl ((rowI row').map ienc)]) ∧ goF (txns h) who C B ((txns h).length + 1) [] 0 = .fin v row' s') → CL p σ3 := by
    intro p σ3 s' kp m1 m2 mo3 r2 hp
    rw [← hcl]
    intro vs'
    have hU2 : decide (upId o < 999000000) = true := decide_eq_true (by have := upId_eq o; omega)
    have kpc0 : KeepsB 900000000 vs' 2 σ3 (S.enter vs' [.ref 1 0, .ref 2 0] σ3) := KeepsB.enter (Nat.le_refl _)
    have hT44 : tinf Tryd.prog 26 = some ⟨4, 48, true, [.int .i64 0, .int .u32 0, .slice none 0 0, .int .i64 0]⟩ := by kernel_rfl
    have hfo : foundF (txns h) who C B = (goF (txns h) who C B ((txns h).length + 1) [] 0).fnd C := rfl
    rcases hp with ⟨rfl, hgo⟩ | ⟨v, row', rfl, hgo⟩
    · rw [hgo] at hfo
      simp only [S.recov, List.map_cons, List.map_nil]
      refine sd_block (sd_seq (sd_region ?_))
      (refine rO ?_; repeat' ((with_reducible first | refine rG ?_ | (refine rS ?_ ?_ <;> intro hp) | (refine rB ?_ ?_ <;> intro hb <;> try rw [hb]) | refine rD ?_ | refine rA ?_ | fail) <;> try simp only [go_sem, simprocAttr, PI]))
      refine sem_nil_nil Tryd.underlying20 (by simp only [go_sem, simprocAttr]) ?_
      (refine rO ?_; repeat' ((with_reducible first | refine rG ?_ | (refine rS ?_ ?_ <;> intro hp) | (refine rB ?_ ?_ <;> intro hb <;> try rw [hb]) | refine rD ?_ | refine rA ?_ | fail) <;> try simp only [go_sem, simprocAttr, PI]))
      refine sd_cond (b := true) (by simp only [go_sem, simprocAttr]) (fun _ => ?_) (fun e => by cases e)
      refine sd_seq (sd_region ?_)
      (refine rO ?_; repeat' ((with_reducible first | refine rG ?_ | (refine rS ?_ ?_ <;> intro hp) | (refine rB ?_ ?_ <;> intro hb <;> try rw [hb]) | refine rD ?_ | refine rA ?_ | fail) <;> try simp only [go_sem, simprocAttr, PI]))
      refine sd_region ?_
      (refine rO ?_; repeat' ((with_reducible first | refine rG ?_ | (refine rS ?_ ?_ <;> intro hp) | (refine rB ?_ ?_ <;> intro hb <;> try rw [hb]) | refine rD ?_ | refine rA ?_ | fail) <;> try simp only [go_sem, simprocAttr, PI, m1, m2, mo3, hU2]))
      refine SemOp.old ?_
      (refine rO ?_; repeat' ((with_reducible first | refine rG ?_ | (refine rS ?_ ?_ <;> intro hp) | (refine rB ?_ ?_ <;> intro hb <;> try rw [hb]) | refine rD ?_ | refine rA ?_ | fail) <;> try simp only [go_sem, simprocAttr, PI, y_load0, m1, m2, mo3, hU2]))
      refine SemOp.old ?_
      (refine rO ?_; repeat' ((with_reducible first | refine rG ?_ | (refine rS ?_ ?_ <;> intro hp) | (refine rB ?_ ?_ <;> intro hb <;> try rw [hb]) | refine rD ?_ | refine rA ?_ | fail) <;> try simp only [go_sem, simprocAttr, PI, y_build0, m1, m2, mo3, hU2]))
      refine clos_end (ds := [dI 1, .v (.int .u32 0), .sl [], dI s']) hT44 (by repeat' first | (with_reducible exact kpc0) | (with_reducible refine KeepsB.put ?_) | (with_reducible refine KeepsB.setU ?_) | refine KeepsB.new rfl ?_ | exact kpc0) kp r2 (by simp only [go_sem, simprocAttr, PI, m2]; try rfl) rfl (fun σ' hL => ?_)
      have := hK σ' hL
      rw [hfo] at this; exact this
    · rw [hgo] at hfo
      simp only [S.recov, List.map_cons, List.map_nil]
      refine sd_block (sd_seq (sd_region ?_))
      (refine rO ?_; repeat' ((with_reducible first | refine rG ?_ | (refine rS ?_ ?_ <;> intro hp) | (refine rB ?_ ?_ <;> intro hb <;> try rw [hb]) | refine rD ?_ | refine rA ?_ | fail) <;> try simp only [go_sem, simprocAttr, PI]))
      refine sem_if_nil Tryd.underlying20 (q := 999990) (T := 88) (y := .ag [dI (v : Nat), .sl ((rowI row').map ienc)]) (by simp only [go_sem, simprocAttr]) (by simp only [go_sem, simprocAttr]) ?_
      (refine rO ?_; repeat' ((with_reducible first | refine rG ?_ | (refine rS ?_ ?_ <;> intro hp) | (refine rB ?_ ?_ <;> intro hb <;> try rw [hb]) | refine rD ?_ | refine rA ?_ | fail) <;> try simp only [go_sem, simprocAttr, PI]))
      refine sd_cond (b := false) (by simp only [go_sem, simprocAttr]) (fun e => by cases e) (fun _ => ?_)
      refine sd_seq (sd_region ?_)
      (refine rO ?_; repeat' ((with_reducible first | refine rG ?_ | (refine rS ?_ ?_ <;> intro hp) | (refine rB ?_ ?_ <;> intro hb <;> try rw [hb]) | refine rD ?_ | refine rA ?_ | fail) <;> try simp only [go_sem, simprocAttr, PI]))
      refine sem_assert (q := 999990) (y := .ag [dI (v : Nat), .sl ((rowI row').map ienc)]) (offs := [(0, 1, false), (1, 1, false)]) (by kernel_rfl) (by simp only [go_sem, simprocAttr]) (by simp only [go_sem, simprocAttr]) ?_
      (refine rO ?_; repeat' ((with_reducible first | refine rG ?_ | (refine rS ?_ ?_ <;> intro hp) | (refine rB ?_ ?_ <;> intro hb <;> try rw [hb]) | refine rD ?_ | refine rA ?_ | fail) <;> try simp only [go_sem, simprocAttr, PI]))
      refine sd_cond (b := true) (by simp only [go_sem, simprocAttr]) (fun _ => ?_) (fun e => by cases e)
      refine sd_seq (sd_region ?_)
      (refine rO ?_; repeat' ((with_reducible first | refine rG ?_ | (refine rS ?_ ?_ <;> intro hp) | (refine rB ?_ ?_ <;> intro hb <;> try rw [hb]) | refine rD ?_ | refine rA ?_ | fail) <;> try simp only [go_sem, simprocAttr, PI]))
      refine sd_seq (sd_draw ?_)
      (refine rO ?_; repeat' ((with_reducible first | refine rG ?_ | (refine rS ?_ ?_ <;> intro hp) | (refine rB ?_ ?_ <;> intro hb <;> try rw [hb]) | refine rD ?_ | refine rA ?_ | fail) <;> try simp only [go_sem, simprocAttr, PI, m1, m2, mo3, hU2]))
      refine sd_seq (sd_region ?_)
      (refine rO ?_; repeat' ((with_reducible first | refine rG ?_ | (refine rS ?_ ?_ <;> intro hp) | (refine rB ?_ ?_ <;> intro hb <;> try rw [hb]) | refine rD ?_ | refine rA ?_ | fail) <;> try simp only [go_sem, simprocAttr, PI]))
      · have hv0 : v = 0 := by omega
        refine sd_cond (b := true) (by simp only [go_sem, simprocAttr]) (fun _ => ?_) (fun e => by cases e)
        refine sd_drawF [[4, 5], []] (by decide +kernel) ?_
        (refine rO ?_; repeat' ((with_reducible first | refine rG ?_ | (refine rS ?_ ?_ <;> intro hp) | (refine rB ?_ ?_ <;> intro hb <;> try rw [hb]) | refine rD ?_ | refine rA ?_ | fail) <;> try simp only [go_sem, simprocAttr, PG, PI, m1, m2, mo3, hU2]))
        refine clos_end (ds := [dI v, .v (.int .u32 C), .sl ((rowI row').map ienc), dI s']) hT44 (by repeat' first | (with_reducible exact kpc0) | (with_reducible refine KeepsB.put ?_) | (with_reducible refine KeepsB.setU ?_) | refine KeepsB.new rfl ?_ | refine KeepsB.set rfl ?_ | exact kpc0) kp r2 (by simp only [go_sem, simprocAttr, PI, m2]; try rfl) rfl (fun σ' hL => ?_)
        have := hK σ' hL
        rw [hfo] at this
        simp only [Out.fnd, if_pos hv0] at this
        rw [hv0]; exact this
      · have hv0 : ¬ v = 0 := by omega
        refine sd_cond (b := false) (by simp only [go_sem, simprocAttr]) (fun e => by cases e) (fun _ => ?_)
        refine sd_skip ?_
        (refine rO ?_; repeat' ((with_reducible first | refine rG ?_ | (refine rS ?_ ?_ <;> intro hp) | (refine rB ?_ ?_ <;> intro hb <;> try rw [hb]) | refine rD ?_ | refine rA ?_ | fail) <;> try simp only [go_sem, simprocAttr, PI]))
        refine clos_end (ds := [dI v, .v (.int .u32 0), .sl [], dI s']) hT44 (by repeat' first | (with_reducible exact kpc0) | (with_reducible refine KeepsB.put ?_) | (with_reducible refine KeepsB.setU ?_) | refine KeepsB.new rfl ?_ | refine KeepsB.set rfl ?_ | exact kpc0) kp r2 (by simp only [go_sem, simprocAttr, PI, m2]; try rfl) rfl (fun σ' hL => ?_)
        have := hK σ' hL
        rw [hfo] at this
        simp only [Out.fnd, if_neg hv0] at this
        exact this
  intro cvs
  refine sc_region (raw_cons rfl ?_)
  simp only [go_sem, simprocAttr, PI, hO, hOU, mo]
  refine SemOp.old ?_
  simp only [go_sem, simprocAttr, PI, y_load0, hO, hOU, mo]
  refine raw_call (g := 44) (rs := [.ref (upId o) 0, .cs [], .a (U 0)]) rfl rfl (by simp only [go_sem, simprocAttr, PI, List.map_cons, List.map_nil]; rfl) ?_
  refine InlP.nilArg ?_
  have hmo : (S.enter vs [.ref o 0] σ).mem (upId o) = some (.box (seaR h (txns h) who C B 0)) := by simp only [go_sem, simprocAttr, PI, hO, mo]; rfl
  have kp0 : KeepsB 800000000 vs o σ (S.enter vs [.ref o 0] σ) := KeepsB.enter (by omega)
  have hB8 : 800000000 + 1000000 ≤ Bd ((txns h).length + 1) := by unfold Bd; omega
  have d1 : decide (1 < Bd ((txns h).length + 1)) = true := decide_eq_true (by omega)
  have d2 : decide (2 < Bd ((txns h).length + 1)) = true := decide_eq_true (by omega)
  have d9 : decide (999991 < Bd ((txns h).length + 1)) = true := decide_eq_true (by omega)
  have hx1 : Ob.down (Ob.up (.box [.ref (upId o) 0])) = .box [.ref (upId o) 0] := by simp [Ob.up, Ob.down, R.up, R.down, upId_sub, upId_le]
  have hx9 : Ob.down (Ob.up (.frame cvs (capsR [(1, 0), (2, 0)]))) = .frame cvs (capsR [(1, 0), (2, 0)]) := by
    show Ob.frame cvs (fun t => ((capsR [(1, 0), (2, 0)] t).up).down) = _
    congr 1; funext t
    unfold capsR
    split
    · exact up_ref1
    · rfl
  have hcaps : ∀ (j : Nat) (c : Nat × Nat), ([(1, 0), (2, 0)] : List (Nat × Nat))[j]? = some c → capsR [(1, 0), (2, 0)] j = .ref c.1 c.2 := fun j c hc => by unfold capsR; rw [hc]
  refine from_inl h hE who C B hw hC hB ((txns h).length + 1) [] 0 (by omega) (by simp) List.nodup_nil (fun k hk => by cases hk) (Nat.zero_le _) hoU (by simp only [go_sem, simprocAttr, PI, hO, hOU, mo]; rfl) ?_ ?_
  · intro s' σ' hgo hs' hL hm
    have kp2 := KeepsB.left (Bd := 800000000) (vs := vs) (σ0 := σ) (h := (by repeat' first | (with_reducible exact kp0) | (with_reducible refine KeepsB.put ?_) | refine KeepsB.new rfl ?_ | exact kp0)) hB8 hL
    have m1 := hL.m (o := 1) (x := .box [.ref (upId o) 0]) (by simp only [go_sem, simprocAttr, PI]) d1 (by simp only [go_sem, simprocAttr, PI]) hx1
    have m2 := hL.m (o := 2) (x := .box [.a (I 0), .a (U 0), .a (.d (.sl [])), .a (I 0)]) (by simp only [go_sem, simprocAttr, PI]) d2 (by simp only [go_sem, simprocAttr, PI]; rfl) rfl
    have m9 := hL.m (o := 999991) (x := .frame cvs (capsR [(1, 0), (2, 0)])) (by simp only [go_sem, simprocAttr, PI]) d9 (by simp only [go_sem, simprocAttr, PI]) hx9
    have r2 := hL.r (t := 2) (r := .ref 2 0) (by simp only [go_sem, simprocAttr, PI]) up_ref1
    exact ⟨⟨_, m9, hcaps⟩, clos none _ s' (KeepsB.put kp2) m1 m2 hm (by simp only [go_sem, simprocAttr, PI, r2]) (.inl ⟨rfl, hgo⟩)⟩
  · intro v row' s' σ' hgo hs' hL hm
    have kp2 := KeepsB.left (Bd := 800000000) (vs := vs) (σ0 := σ) (h := (by repeat' first | (with_reducible exact kp0) | (with_reducible refine KeepsB.put ?_) | refine KeepsB.new rfl ?_ | exact kp0)) hB8 hL
    have m1 := hL.m (o := 1) (x := .box [.ref (upId o) 0]) (by simp only [go_sem, simprocAttr, PI]) d1 (by simp only [go_sem, simprocAttr, PI]) hx1
    have m2 := hL.m (o := 2) (x := .box [.a (I 0), .a (U 0), .a (.d (.sl [])), .a (I 0)]) (by simp only [go_sem, simprocAttr, PI]) d2 (by simp only [go_sem, simprocAttr, PI]; rfl) rfl
    have m9 := hL.m (o := 999991) (x := .frame cvs (capsR [(1, 0), (2, 0)])) (by simp only [go_sem, simprocAttr, PI]) d9 (by simp only [go_sem, simprocAttr, PI]) hx9
    have r2 := hL.r (t := 2) (r := .ref 2 0) (by simp only [go_sem, simprocAttr, PI]) up_ref1
    exact ⟨⟨_, m9, hcaps⟩, _, rfl, clos _ _ s' kp2 m1 m2 hm r2 (.inr ⟨v, row', rfl, hgo⟩)⟩
end Go.VC
end
section
set_option maxRecDepth 100000
set_option linter.unusedSimpArgs false
set_option linter.unusedVariables false
set_option linter.unnecessarySimpa false
namespace Go.VC
open Go.RowKit Go.Proofs Go.IntWalk
theorem rowI_len (row : List Nat) : (rowI row).length = row.length := by simp [rowI]
def leftL (n who : Nat) (row : List Nat) : List Nat := (List.range n).filter fun k => who.testBit k && !row.contains k
end Go.VC
end
section
set_option maxRecDepth 100000
set_option linter.unusedSimpArgs false
set_option linter.unusedVariables false
set_option linter.unnecessarySimpa false
namespace Go.VC
open Go.RowKit Go.Proofs Go.IntWalk
def OutOk (B : Nat) : Out → Prop
  | .ret s => s ≤ B
  | .fin v _ s => s ≤ B ∧ (v = 0 ∨ v = 2)
theorem goStep_ok {T : List Txn} {who C B : Nat} {rec : List Nat → Nat → Out} {row : List Nat} {o : Out} {k : Nat} (hrec : ∀ row s, s ≤ B → OutOk B (rec row s)) (h : OutOk B o) : OutOk B (goStep T who C B rec row o k) := by
  cases o with
  | fin v r s => exact h
  | ret s =>
    have h : s ≤ B := h
    simp only [goStep]
    split
    · split
      · exact ⟨h, .inr rfl⟩
      · split
        · exact hrec _ _ (by omega)
        · show s + 1 ≤ B; omega
    · exact h
theorem fold_ok {T : List Txn} {who C B : Nat} {rec : List Nat → Nat → Out} {row : List Nat} (hrec : ∀ row s, s ≤ B → OutOk B (rec row s)) : ∀ (l : List Nat) (o : Out), OutOk B o → OutOk B (l.foldl (goStep T who C B rec row) o)
  | [], o, h => h
  | k :: l, o, h => fold_ok hrec l _ (goStep_ok hrec h)
theorem goF_ok {T : List Txn} {who C B : Nat} : ∀ (f : Nat) (row : List Nat) (s : Nat), s ≤ B → OutOk B (goF T who C B f row s)
  | 0, row, s, h => h
  | f + 1, row, s, h => by
    simp only [goF]
    split
    · exact ⟨h, .inl rfl⟩
    · exact fold_ok (goF_ok f) _ _ h
theorem fold_left {T : List Txn} {who C B : Nat} {rec : List Nat → Nat → Out} {row : List Nat} (n : Nat) (o : Out) : (List.range n).foldl (goStep T who C B rec row) o = (leftL n who row).foldl (goStep T who C B rec row) o := by
  rw [leftL, List.foldl_filter]
  congr 1
  funext o k
  by_cases h : (who.testBit k && !row.contains k) = true
  · rw [if_pos h]
  · rw [if_neg h]
    cases o with
    | fin v r s => rfl
    | ret s =>
      have : mayGo T who row k = false := by
        unfold mayGo
        rw [Bool.not_eq_true] at h
        rw [h, Bool.false_and]
      simp only [goStep, this, Bool.false_eq_true, if_false]
theorem foldL_fin {T : List Txn} {who C B : Nat} {rec : List Nat → Nat → Out} {row row' : List Nat} {v s' : Nat} : ∀ (l : List Nat), l.foldl (goStep T who C B rec row) (.fin v row' s') = .fin v row' s'
  | [] => rfl
  | k :: l => foldL_fin l
/-- A table that may be searched. -/
structure TabOk (T : List Txn) : Prop where
  len : T.length ≤ 6
  st : StT T
  ops : ∀ t ∈ T, OpsIn t.ops
end Go.VC
end
section
set_option maxRecDepth 100000
set_option linter.unusedSimpArgs false
set_option linter.unusedVariables false
set_option linter.unnecessarySimpa false
namespace Go.VC
open Go.RowKit Go.Proofs Go.IntWalk
/-- What a search found, of any numbers. -/
structure Fd where
  v : Int
  c : Int
  row : List Int
  s : Int
abbrev Fd.a (x : Fd) : A := .ag [dI x.v, .v (.int .u32 x.c), .sl (x.row.map ienc), dI x.s]
def Fnd.fd (x : Fnd) : Fd := ⟨x.v, x.c, rowI x.row, x.s⟩
def sameFd (a b : Fd) : Bool := a.v == b.v && a.c == b.c && a.s == b.s && a.row == b.row
theorem sameFd_refl (a : Fd) : sameFd a a = true := by simp [sameFd]
theorem t1034 (a b : Fd) : Holds Tryd.prog GL 8 [a.a, b.a] [.a (B (sameFd a b))] := by
  refine fn_holds (vs := [.tmp 4]) (by kernel_rfl) Tryd.func8 rfl rfl (by kernel_rfl) (by kernel_rfl) rfl ?_
  have h34 := t34 a.row b.row
  unfold sameFd
  obtain ⟨av, ac, ar, as_⟩ := a
  obtain ⟨bv, bc, br, bs⟩ := b
  simp only at h34 ⊢
  generalize (ar == br) = e at h34
  (refine rO ?_; repeat' ((with_reducible first | refine rG ?_ | (refine rS ?_ ?_ <;> intro hp) | (refine rB ?_ ?_ <;> intro hb <;> try rw [hb]) | refine rD ?_ | refine rA ?_ | fail) <;> try simp only [go_sem, simprocAttr]))
  · refine call_dat h34 ?_
    (refine rO ?_; repeat' ((with_reducible first | refine rG ?_ | (refine rS ?_ ?_ <;> intro hp) | (refine rB ?_ ?_ <;> intro hb <;> try rw [hb]) | refine rD ?_ | refine rA ?_ | fail) <;> try simp only [go_sem, simprocAttr]))
    simp_all
  all_goals simp_all
/-- Why nothing may be searched. -/
def maySE (h : List Ev) (n : Int) : Int := if checkE h = 0 then (if 0 ≤ n ∧ n ≤ 1000000 then 0 else 1) else checkE h
def maySV (h : List Ev) (n : Int) : List Nat := if maySE h n = 0 then afterR (txns h) else []
theorem t1128 (h : List Ev) (n : Int) : Holds Tryd.prog GL 20 [evsA h, I n] [.a (unsA (maySV h n)), .a (I (maySE h n))] := by
  refine fn_holds (vs := [.tmp 4, .tmp 5]) (by kernel_rfl) Tryd.func20 rfl rfl (by kernel_rfl) (by kernel_rfl) rfl ?_
  have h56 := t56 h
  rw [tabD_txns] at h56
  unfold maySV maySE
  by_cases hE : checkE h = 0
  · have hA : aftersV h = afterR (txns h) := by rw [aftersV, if_pos hE]
    rw [hE] at h56 ⊢
    generalize txns h = T at *
    (refine rO ?_; repeat' ((with_reducible first | refine rG ?_ | (refine rS ?_ ?_ <;> intro hp) | (refine rB ?_ ?_ <;> intro hb <;> try rw [hb]) | refine rD ?_ | refine rA ?_ | fail) <;> try simp only [go_sem, simprocAttr]))
    refine call_dat h56 ?_
    by_cases hn : 0 ≤ n ∧ n ≤ 1000000
    · rw [if_pos rfl, if_pos hn, if_pos rfl]
      have n1 : ¬ n < 0 := by omega
      have n2 : ¬ n > 1000000 := by omega
      (refine rO ?_; repeat' ((with_reducible first | refine rG ?_ | (refine rS ?_ ?_ <;> intro hp) | (refine rB ?_ ?_ <;> intro hb <;> try rw [hb]) | refine rD ?_ | apply c15 | refine rA ?_ | fail) <;> try simp only [go_sem, simprocAttr, hE, hA, n1, n2]))
    · rw [if_pos rfl, if_neg hn, if_neg (by decide)]
      (refine rO ?_; repeat' ((with_reducible first | refine rG ?_ | (refine rS ?_ ?_ <;> intro hp) | (refine rB ?_ ?_ <;> intro hb <;> try rw [hb]) | refine rD ?_ | apply c15 | refine rA ?_ | fail) <;> try simp only [go_sem, simprocAttr, hE, hA]))
      exact absurd ⟨by omega, by omega⟩ hn
  · generalize txns h = T at *
    generalize checkE h = c at *
    simp only [if_neg hE]
    (refine rO ?_; repeat' ((with_reducible first | refine rG ?_ | (refine rS ?_ ?_ <;> intro hp) | (refine rB ?_ ?_ <;> intro hb <;> try rw [hb]) | refine rD ?_ | refine rA ?_ | fail) <;> try simp only [go_sem, simprocAttr]))
    refine call_dat h56 ?_
    (refine rO ?_; repeat' ((with_reducible first | refine rG ?_ | (refine rS ?_ ?_ <;> intro hp) | (refine rB ?_ ?_ <;> intro hb <;> try rw [hb]) | refine rD ?_ | refine rA ?_ | fail) <;> try simp only [go_sem, simprocAttr, hE]))
theorem one_go {r : R} : one [r] = r := rfl
theorem mayS_ok {h : List Ev} {n : Int} (hm : maySE h n = 0) : checkE h = 0 ∧ 0 ≤ n ∧ n ≤ 1000000 := by
  unfold maySE at hm
  split at hm
  · split at hm
    · exact ⟨‹_›, ‹_ ∧ _›⟩
    · cases hm
  · exact absurd hm ‹_›
end Go.VC
end
section
set_option maxRecDepth 100000
set_option linter.unusedSimpArgs false
set_option linter.unusedVariables false
set_option linter.unnecessarySimpa false
namespace Go.VC
open Go.RowKit Go.Proofs Go.IntWalk
/-- What is found of some choices, behind so many steps. -/
def srchN (T : List Txn) (who B : Nat) : List Nat → Nat → Fnd
  | [], st => ⟨1, 0, [], st⟩
  | c :: cs, st => if (foundF T who c (B - st)).v = 1 then srchN T who B cs (st + (foundF T who c (B - st)).s) else ⟨(foundF T who c (B - st)).v, (foundF T who c (B - st)).c, (foundF T who c (B - st)).row, st + (foundF T who c (B - st)).s⟩
def allN (T : List Txn) : Nat := 2 ^ T.length - 1
def srchF (h : List Ev) (n : Int) : Fnd := if maySE h n = 0 then srchN (txns h) (allN (txns h)) n.toNat (choicesL (txns h)) 0 else ⟨0, 0, [], 0⟩
theorem found_s (T : List Txn) (who C B : Nat) : (foundF T who C B).s ≤ B := by
  have := goF_ok (T := T) (who := who) (C := C) (B := B) (T.length + 1) [] 0 (Nat.zero_le _)
  unfold foundF
  generalize goF T who C B (T.length + 1) [] 0 = o at this
  cases o with
  | ret s => exact this
  | fin v r s =>
    simp only [Out.fnd]
    split
    · exact this.1
    · exact this.1
theorem choices_lt {l : List Txn} (hl : l.length ≤ 6) : ∀ C ∈ choicesL l, choiceB l C = true ∧ C < 2 ^ 32 := fun C hC => by
  have h1 : choiceB l C = true := by rw [← choice_any hl, List.any_eq_true]; exact ⟨C, hC, by simp⟩
  refine ⟨h1, ?_⟩
  have := h1
  simp only [choiceB, Bool.and_eq_true, decide_eq_true_eq] at this
  have h2 := (Nat.div_eq_zero_iff_lt (Nat.two_pow_pos _)).1 this.2
  exact Nat.lt_of_lt_of_le h2 (Nat.pow_le_pow_right (by omega) (by omega))
theorem srch_drop {T : List Txn} {who B : Nat} {L : List Nat} {j st : Nat} (hj : j < L.length) : srchN T who B (L.drop j) st = if (foundF T who L[j] (B - st)).v = 1 then srchN T who B (L.drop (j + 1)) (st + (foundF T who L[j] (B - st)).s) else ⟨(foundF T who L[j] (B - st)).v, (foundF T who L[j] (B - st)).c, (foundF T who L[j] (B - st)).row, st + (foundF T who L[j] (B - st)).s⟩ := by
  rw [List.drop_eq_getElem_cons hj]; rfl
theorem t1061 (h : List Ev) (n : Int) : Holds Tryd.prog GL 6 [evsA h, I n] [.a (srchF h n).a, .a (I (maySE h n))] := by
  refine fn_holds (vs := [.cell 4 26, .tmp 5]) (by kernel_rfl) Tryd.func6 rfl rfl (by kernel_rfl) (by kernel_rfl) rfl ?_
  have hm := t1128 h n
  have hl6 := txns_len6 h
  have e2 : srchF h n = if maySE h n = 0 then srchN (txns h) (allN (txns h)) n.toNat (choicesL (txns h)) 0 else ⟨0, 0, [], 0⟩ := rfl
  have hch := t1042 h
  by_cases hM : maySE h n = 0
  · obtain ⟨hE, hn0, hn1⟩ := mayS_ok hM
    obtain ⟨N, rfl⟩ : ∃ N : Nat, n = N := ⟨n.toNat, by omega⟩
    rw [if_pos hM, Int.toNat_natCast] at e2
    rw [maySV, if_pos hM, hM] at hm
    rw [choicesV, if_pos hE, hE] at hch
    have hal := afterR_len (txns h)
    have hCl := choices_lt hl6
    have hcl : (choicesL (txns h)).length ≤ 64 := choices_len (bitsN (isSt (txns h) 2) (txns h).length) (bitsN (isSt (txns h) 1) (txns h).length)
    have hwho : allN (txns h) < 2 ^ (txns h).length := by have := Nat.two_pow_pos (txns h).length; unfold allN; omega
    have h2p : 2 ^ (txns h).length ≤ 2 ^ 6 := Nat.pow_le_pow_right (by omega) hl6
    have hsub : IntKind.u32.wrap (((2 ^ (txns h).length : Nat) : Int) - 1) = ((allN (txns h) : Nat) : Int) := by
      have := Nat.two_pow_pos (txns h).length
      rw [show ((2 ^ (txns h).length : Nat) : Int) - 1 = ((allN (txns h) : Nat) : Int) by unfold allN; omega]
      exact u32_in _ (by unfold allN; omega)
    have hshl := u32_shl (k := (txns h).length) (by omega)
    generalize hL0 : choicesL (txns h) = L at *
    rw [e2, hM]
    (refine rO ?_; repeat' ((with_reducible first | refine rG ?_ | (refine rS ?_ ?_ <;> intro hp) | (refine rB ?_ ?_ <;> intro hb <;> try rw [hb]) | refine rD ?_ | refine rA ?_ | fail) <;> try simp only [go_sem, simprocAttr]))
    refine call_dat hm ?_
    (refine rO ?_; repeat' ((with_reducible first | refine rG ?_ | (refine rS ?_ ?_ <;> intro hp) | (refine rB ?_ ?_ <;> intro hb <;> try rw [hb]) | refine rD ?_ | refine rA ?_ | fail) <;> try simp only [go_sem, simprocAttr]))
    refine call_dat hch ?_
    (refine rO ?_; repeat' ((with_reducible first | refine rG ?_ | (refine rS ?_ ?_ <;> intro hp) | (refine rB ?_ ?_ <;> intro hb <;> try rw [hb]) | refine rD ?_ | refine rA ?_ | fail) <;> try simp only [go_sem, simprocAttr, List.length_map]))
    refine awp_loopA (fun p : Nat × Nat => [(0, .a (evsA h)), (1, .a (I N)), (4, .ref 4 0), (6, .a (unsA (afterR (txns h)))), (10, .a (I p.2)), (29, .a (unsA L)), (30, .a (I L.length)), (31, .a (I p.1))]) (fun _ => [(4, .box [.a (I 0), .a (U 0), .a (.d (.sl [])), .a (I 0)])]) (fun p => p.1 ≤ L.length ∧ p.2 ≤ N ∧ srchN (txns h) (allN (txns h)) N L 0 = srchN (txns h) (allN (txns h)) N (L.drop p.1) p.2) (fun p => L.length - p.1) (0, 0) ?_ ?_ ⟨Nat.zero_le _, Nat.zero_le _, rfl⟩ ?_
    · simp only [go_sem, simprocAttr, List.length_map]; try rfl
    · simp only [go_sem, simprocAttr]; try rfl
    rintro ⟨j, st⟩ jj ⟨hj, hst, hq⟩
    (refine rO ?_; repeat' ((with_reducible first | refine rG ?_ | (refine rS ?_ ?_ <;> intro hp) | (refine rB ?_ ?_ <;> intro hb <;> try rw [hb]) | refine rD ?_ | refine rA ?_ | fail) <;> try simp only [go_sem, simprocAttr]))
    · have hjl : j < L.length := by omega
      have hx : L[j]? = some L[j] := List.getElem?_eq_getElem hjl
      have hwj := wrap_succ (n := L.length) hjl (by simp only [maxLen]; omega)
      have hC := (hCl _ (List.getElem_mem hjl)).2
      dsimp only at hst hq
      rw [srch_drop hjl] at hq
      have hfs := found_s (txns h) (allN (txns h)) L[j] (N - st)
      have hinl := fun {σ : S} {o : Nat} {K : S → List R → Prop} => @search_inl h hE (allN (txns h)) L[j] (N - st) hwho hC (by omega) σ o K
      generalize foundF (txns h) (allN (txns h)) L[j] (N - st) = F at hq hfs hinl
      generalize L[j] = c at hx hC hinl
      have hws : IntKind.i64.wrap ((N : Int) - (st : Int)) = (N : Int) - (st : Int) := i64_in _ (by omega)
      have hwt : IntKind.i64.wrap ((st : Int) + (F.s : Int)) = ((st + F.s : Nat) : Int) := by rw [i64_in _ (by omega)]; omega
      (refine rO ?_; repeat' ((with_reducible first | refine rG ?_ | (refine rS ?_ ?_ <;> intro hp) | (refine rB ?_ ?_ <;> intro hb <;> try rw [hb]) | refine rD ?_ | refine rA ?_ | fail) <;> try simp only [go_sem, simprocAttr, hx, uenc_eq, List.length_map, hal, hshl, hsub, hws]))
      refine SemOp.old ?_
      (refine rO ?_; repeat' ((with_reducible first | refine rG ?_ | (refine rS ?_ ?_ <;> intro hp) | (refine rB ?_ ?_ <;> intro hb <;> try rw [hb]) | refine rD ?_ | refine rA ?_ | fail) <;> try simp only [go_sem, simprocAttr, y_build0, hws]))
      refine call_inl (hinl (o := 46) rfl (by simp only [go_sem, simprocAttr]; simp [seaR]; omega) fun σ' hL => ?_)
      have m4 := hL.m (o := 4) (x := .box [.a (I 0), .a (U 0), .a (.d (.sl [])), .a (I 0)]) rfl rfl (by simp only [go_sem, simprocAttr]) rfl
      have r0 := hL.r (t := 0) (r := .a (evsA h)) (by simp only [go_sem, simprocAttr]) rfl
      have r1 := hL.r (t := 1) (r := .a (I N)) (by simp only [go_sem, simprocAttr]) rfl
      have r4 := hL.r (t := 4) (r := .ref 4 0) (by simp only [go_sem, simprocAttr]) up_ref1
      have r6 := hL.r (t := 6) (r := .a (unsA (afterR (txns h)))) (by simp only [go_sem, simprocAttr]) rfl
      have r10 := hL.r (t := 10) (r := .a (I st)) (by simp only [go_sem, simprocAttr]) rfl
      have r29 := hL.r (t := 29) (r := .a (unsA L)) (by simp only [go_sem, simprocAttr]) rfl
      have r30 := hL.r (t := 30) (r := .a (I L.length)) (by simp only [go_sem, simprocAttr]) rfl
      have r31 := hL.r (t := 31) (r := .a (I j)) (by simp only [go_sem, simprocAttr]) rfl
      (refine rO ?_; repeat' ((with_reducible first | refine rG ?_ | (refine rS ?_ ?_ <;> intro hp) | (refine rB ?_ ?_ <;> intro hb <;> try rw [hb]) | refine rD ?_ | refine rA ?_ | fail) <;> try simp only [go_sem, simprocAttr, m4, r0, r1, r4, r6, r10, r29, r30, r31, one_go, hwt, hwj]))
      · rw [if_pos (show F.v = 1 by omega)] at hq
        exact ⟨(j + 1, st + F.s), by simp only [go_sem, simprocAttr, r0, r1, r4, r6, r10, r29, r30, r31, hwt, hwj], by simp only [go_sem, simprocAttr, m4], ⟨hjl, by dsimp only; omega, hq⟩, by dsimp only; omega⟩
      · rw [if_neg (show ¬ F.v = 1 by omega)] at hq
        rw [hq]
    · have hjl : j = L.length := by have := hj; dsimp only at this; omega
      dsimp only at hq
      rw [hjl, List.drop_length] at hq
      rw [hq]
      refine SemOp.old ?_
      (refine rO ?_; repeat' ((with_reducible first | refine rG ?_ | (refine rS ?_ ?_ <;> intro hp) | (refine rB ?_ ?_ <;> intro hb <;> try rw [hb]) | refine rD ?_ | refine rA ?_ | fail) <;> try simp only [go_sem, simprocAttr, y_build0]))
      rfl
  · rw [if_neg hM] at e2
    rw [maySV, if_neg hM] at hm
    rw [e2]
    (refine rO ?_; repeat' ((with_reducible first | refine rG ?_ | (refine rS ?_ ?_ <;> intro hp) | (refine rB ?_ ?_ <;> intro hb <;> try rw [hb]) | refine rD ?_ | refine rA ?_ | fail) <;> try simp only [go_sem, simprocAttr]))
    refine call_dat hm ?_
    (refine rO ?_; repeat' ((with_reducible first | refine rG ?_ | (refine rS ?_ ?_ <;> intro hp) | (refine rB ?_ ?_ <;> intro hb <;> try rw [hb]) | refine rD ?_ | refine rA ?_ | fail) <;> try simp only [go_sem, simprocAttr, hM]))
    refine SemOp.old ?_
    (refine rO ?_; repeat' ((with_reducible first | refine rG ?_ | (refine rS ?_ ?_ <;> intro hp) | (refine rB ?_ ?_ <;> intro hb <;> try rw [hb]) | refine rD ?_ | refine rA ?_ | fail) <;> try simp only [go_sem, simprocAttr, y_build0]))
    rfl
def aliveS : List Ev := [⟨0, 1, 0, 0⟩, ⟨1, 1, 0, 0⟩, ⟨4, 1, 0, 5⟩, ⟨5, 1, 0, 0⟩, ⟨6, 1, 0, 0⟩, ⟨0, 2, 0, 0⟩, ⟨1, 2, 0, 0⟩, ⟨2, 2, 0, 0⟩, ⟨3, 2, 0, 5⟩]
theorem aliveS_e : maySE aliveS 9 = 0 := by decide +kernel
theorem aliveS_v : srchF aliveS 9 = ⟨0, 1, [0, 1], 5⟩ := by kernel_rfl
theorem t1057 : Holds Tryd.prog GL 7 [] [.a (B true)] := by
  refine fn_holds (vs := [.tmp 0]) (by kernel_rfl) Tryd.func7 rfl rfl (by kernel_rfl) (by kernel_rfl) rfl ?_
  (refine rO ?_; repeat' ((with_reducible first | refine rG ?_ | (refine rS ?_ ?_ <;> intro hp) | (refine rB ?_ ?_ <;> intro hb <;> try rw [hb]) | refine rD ?_ | refine rA ?_ | fail) <;> try simp only [go_sem, simprocAttr]))
  refine call_rest _ (t1061 aliveS 9) ?_
  rw [aliveS_e, aliveS_v]
  simp only [go_sem, simprocAttr, aliveS, Ev.enc_eq]
  refine ⟨rfl, ?_⟩
  (refine rO ?_; repeat' ((with_reducible first | refine rG ?_ | (refine rS ?_ ?_ <;> intro hp) | (refine rB ?_ ?_ <;> intro hb <;> try rw [hb]) | refine rD ?_ | refine rA ?_ | fail) <;> try simp only [go_sem, simprocAttr, rowI, List.map_cons, List.map_nil, ienc_eq]))
theorem c1057 {dst : Option Tmp} {σ : S} {K : S → Prop} (hK : σ.ret dst [.a (B true)] K) : callV Tryd.prog GL 7 [] dst σ K := call_dat t1057 hK
end Go.VC
end
section
set_option maxRecDepth 100000
set_option linter.unusedSimpArgs false
set_option linter.unusedVariables false
set_option linter.unnecessarySimpa false
namespace Go.VC
open Go.RowKit Go.Proofs Go.IntWalk
/-- What memory is behind a row. -/
def memD (T : List Txn) (C : Nat) (done : List Nat) : List Int := done.foldl (fun m k => if C.testBit k = true then withF m (opsAt T (k : Int)) else m) [0, 0, 0, 0, 0, 0, 0, 0]
def okK (T : List Txn) (C : Nat) (done : List Nat) (k : Nat) : Bool := !decide (ownF (opsAt T (k : Int)) (memD T C done) < (opsAt T (k : Int)).length)
theorem memD_s (T : List Txn) (C : Nat) (done : List Nat) (k : Nat) : memD T C (done ++ [k]) = if C.testBit k = true then withF (memD T C done) (opsAt T (k : Int)) else memD T C done := by
  simp [memD]
theorem memTo_D (T : List Txn) (C : Nat) (row : List Nat) : ∀ j, j ≤ row.length → memTo T C (rowI row) j = memD T C (row.take j)
  | 0, _ => rfl
  | j + 1, h => by
    have hj : j < row.length := h
    have hx : (rowI row)[j]? = some ((row[j] : Nat) : Int) := by simp [rowI, hj]
    simp only [memTo, hx]
    rw [memTo_D T C row j (by omega), List.take_succ_eq_append_getElem hj, memD_s, Int.toNat_natCast]
def LegR (T : List Txn) (C : Nat) (row : List Nat) : Prop := ∀ j, (hj : j < row.length) → okK T C (row.take j) row[j] = true
theorem bad_ok {T : List Txn} {C : Nat} {row : List Nat} {j : Nat} (hj : j < row.length) : legBad T C (rowI row) j = !okK T C (row.take j) row[j] := by
  have hx : (rowI row)[j]? = some ((row[j] : Nat) : Int) := by simp [rowI, hj]
  simp only [legBad, hx, okK, memTo_D T C row j (Nat.le_of_lt hj), Bool.not_not]
theorem firstB_all {p : Nat → Bool} {n : Nat} (h : firstB p n = n) : ∀ i, i < n → p i = false := by
  intro i
  induction i using Nat.strongRecOn with
  | _ i ih =>
    intro hi
    cases hp : p i with
    | false => rfl
    | true =>
      have := firstB_hit hi (fun j hj => ih j hj (by omega)) hp
      omega
theorem leg_iff {T : List Txn} {C : Nat} {row : List Nat} : legalN T C (rowI row) = row.length ↔ LegR T C row := by
  have hl : (rowI row).length = row.length := by simp [rowI]
  unfold legalN
  rw [hl]
  constructor
  · intro h j hj
    have := firstB_all h j hj
    rw [bad_ok hj] at this
    simpa using this
  · intro h
    refine firstB_none fun i hi => ?_
    rw [bad_ok hi, h i hi]; rfl
theorem leg_s {T : List Txn} {C : Nat} {row : List Nat} {k : Nat} : LegR T C (row ++ [k]) ↔ LegR T C row ∧ okK T C row k = true := by
  constructor
  · intro h
    refine ⟨fun j hj => ?_, ?_⟩
    · have := h j (by simp; omega)
      rwa [List.take_append_of_le_length (by omega), List.getElem_append_left hj] at this
    · have := h row.length (by simp)
      simpa using this
  · rintro ⟨h1, h2⟩ j hj
    by_cases hjl : j < row.length
    · rw [List.take_append_of_le_length (by omega), List.getElem_append_left hjl]; exact h1 j hjl
    · obtain rfl : j = row.length := by simp at hj; omega
      simpa using h2
/-- A row goes on well. -/
def goodF (T : List Txn) (who C : Nat) : List Nat → List Nat → Prop
  | _, [] => True
  | done, k :: rest => mayGo T who done k = true ∧ okK T C done k = true ∧ goodF T who C (done ++ [k]) rest
theorem fold_hit {T : List Txn} {who C B : Nat} {rec : List Nat → Nat → Out} {row r : List Nat} {v s' : Nat} : ∀ (l : List Nat) (s : Nat), l.foldl (goStep T who C B rec row) (.ret s) = .fin v r s' → ∃ k ∈ l, ∃ s1, goStep T who C B rec row (.ret s1) k = .fin v r s'
  | [], s, h => by cases h
  | k :: l, s, h => by
    rw [List.foldl_cons] at h
    cases ho : goStep T who C B rec row (.ret s) k with
    | ret s2 =>
      rw [ho] at h
      obtain ⟨k', hk, hs⟩ := fold_hit l s2 h
      exact ⟨k', List.mem_cons_of_mem _ hk, hs⟩
    | fin v2 r2 s2 =>
      rw [ho, foldL_fin] at h
      exact ⟨k, List.mem_cons_self, s, by rw [ho, h]⟩
/-- What is found is good. -/
theorem goF_yes {T : List Txn} {who C B : Nat} : ∀ (f : Nat) (row : List Nat) (s : Nat) (r : List Nat) (s' : Nat), LegR T C row → goF T who C B f row s = .fin 0 r s' → ∃ rest, r = row ++ rest ∧ goodF T who C row rest ∧ rowB r = who
  | 0, row, s, r, s', hl, h => by cases h
  | f + 1, row, s, r, s', hl, h => by
    simp only [goF] at h
    split at h
    · rename_i hw
      cases h
      exact ⟨[], by simp, trivial, hw⟩
    · obtain ⟨k, hk, s1, hs⟩ := fold_hit _ _ h
      simp only [goStep] at hs
      split at hs
      · rename_i hm
        split at hs
        · cases hs
        · split at hs
          · rename_i hleg
            have hlr : LegR T C (row ++ [k]) := leg_iff.1 (by rw [hleg]; simp)
            obtain ⟨rest, hr, hg, hb⟩ := goF_yes f _ _ _ _ hlr hs
            exact ⟨k :: rest, by rw [hr]; simp, ⟨hm, (leg_s.1 hlr).2, hg⟩, hb⟩
          · cases hs
      · cases hs
theorem fold_ret {T : List Txn} {who C B : Nat} {rec : List Nat → Nat → Out} {row : List Nat} {s' : Nat} : ∀ (l : List Nat) (s : Nat), l.foldl (goStep T who C B rec row) (.ret s) = .ret s' → ∀ k ∈ l, ∃ s1 s2, goStep T who C B rec row (.ret s1) k = .ret s2
  | [], s, h, k, hk => by cases hk
  | x :: l, s, h, k, hk => by
    rw [List.foldl_cons] at h
    cases ho : goStep T who C B rec row (.ret s) x with
    | ret s2 =>
      rw [ho] at h
      rcases List.mem_cons.1 hk with rfl | hk
      · exact ⟨s, s2, ho⟩
      · exact fold_ret l s2 h k hk
    | fin v2 r2 s2 => rw [ho, foldL_fin] at h; cases h
/-- What is good is found. -/
theorem goF_no {T : List Txn} {who C B : Nat} (hw : who < 2 ^ T.length) : ∀ (f : Nat) (row rest : List Nat) (s s' : Nat), rest.length < f → LegR T C row → goodF T who C row rest → rowB (row ++ rest) = who → goF T who C B f row s ≠ .ret s'
  | 0, row, rest, s, s', hf, _, _, _ => by omega
  | f + 1, row, rest, s, s', hf, hl, hg, hb => by
    simp only [goF]
    split
    · exact fun h => by cases h
    · rename_i hne
      cases rest with
      | nil => rw [List.append_nil] at hb; exact absurd hb hne
      | cons k rest =>
        obtain ⟨h1, h2, h3⟩ := hg
        intro h
        have hk : k < T.length := by
          have hwk : who.testBit k = true := by
            simp only [mayGo, Bool.and_eq_true] at h1; exact h1.1.1
          refine Decidable.byContradiction fun hn => ?_
          rw [Nat.testBit_lt_two_pow (Nat.lt_of_lt_of_le hw (Nat.pow_le_pow_right (by omega) (by omega)))] at hwk
          cases hwk
        obtain ⟨s1, s2, hs⟩ := fold_ret _ _ h k (List.mem_range.2 hk)
        have hlr : LegR T C (row ++ [k]) := leg_s.2 ⟨hl, h2⟩
        have hleg : legalN T C (rowI (row ++ [k])) = row.length + 1 := by rw [leg_iff.2 hlr]; simp
        simp only [goStep, if_pos h1, if_pos hleg] at hs
        split at hs
        · cases hs
        · exact goF_no hw f _ rest _ _ (by simp only [List.length_cons] at hf; omega) hlr h3 (by rw [List.append_assoc]; exact hb) hs
/-- How many steps there are. -/
def stepsN : Nat → Nat
  | 0 => 0
  | m + 1 => (m + 1) * (1 + stepsN m)
def OutIn (b : Nat) : Out → Prop
  | .ret s => s ≤ b
  | .fin v _ s => v = 0 ∧ s ≤ b
theorem left_less {n who : Nat} {row : List Nat} {k : Nat} (hk : k ∈ leftL n who row) : (leftL n who (row ++ [k])).length < (leftL n who row).length := by
  have e : leftL n who (row ++ [k]) = (leftL n who row).filter fun i => i != k := by
    rw [leftL, leftL, List.filter_filter]
    congr 1
    funext i
    by_cases h : i = k
    · subst h; simp
    · have : (i != k) = true := by simpa using h
      simp [this, h]
  rw [e]
  exact List.length_filter_lt_length_iff_exists.2 ⟨k, hk, by simp⟩
theorem fold_in {T : List Txn} {who C B : Nat} {rec : List Nat → Nat → Out} {row : List Nat} {c : Nat} : ∀ (l : List Nat) (s : Nat), s + l.length * (1 + c) ≤ B → (∀ k ∈ l, ∀ s, s + c ≤ B → OutIn (s + c) (rec (row ++ [k]) s)) → OutIn (s + l.length * (1 + c)) (l.foldl (goStep T who C B rec row) (.ret s))
  | [], s, _, _ => by simp [OutIn]
  | k :: l, s, hB, hr => by
    rw [List.foldl_cons]
    have hm : (k :: l).length * (1 + c) = l.length * (1 + c) + (1 + c) := by rw [List.length_cons, Nat.succ_mul]
    rw [hm] at hB ⊢
    have h1 : OutIn (s + (1 + c)) (goStep T who C B rec row (.ret s) k) := by
      simp only [goStep]
      split
      · rw [if_neg (by omega)]
        split
        · have := hr k List.mem_cons_self (s + 1) (by omega)
          rwa [Nat.add_assoc] at this
        · show s + 1 ≤ _; omega
      · show s ≤ _; omega
    cases ho : goStep T who C B rec row (.ret s) k with
    | ret s2 =>
      rw [ho] at h1
      have h1 : s2 ≤ s + (1 + c) := h1
      have := fold_in (T := T) (who := who) (C := C) (B := B) (rec := rec) (row := row) (c := c) l s2 (by omega) fun k' hk' => hr k' (List.mem_cons_of_mem _ hk')
      cases hx : l.foldl (goStep T who C B rec row) (.ret s2) with
      | ret s3 => rw [hx] at this; have : s3 ≤ s2 + l.length * (1 + c) := this; show s3 ≤ _; omega
      | fin v3 r3 s3 => rw [hx] at this; have : v3 = 0 ∧ s3 ≤ s2 + l.length * (1 + c) := this; exact ⟨this.1, by omega⟩
    | fin v2 r2 s2 =>
      rw [ho] at h1
      have h1 : v2 = 0 ∧ s2 ≤ s + (1 + c) := h1
      rw [foldL_fin]
      exact ⟨h1.1, by omega⟩
/-- Steps are not more than there are. -/
theorem goF_in {T : List Txn} {who C B : Nat} : ∀ (f : Nat) (row : List Nat) (s m : Nat), (leftL T.length who row).length ≤ m → s + stepsN m ≤ B → OutIn (s + stepsN m) (goF T who C B f row s)
  | 0, row, s, m, _, h => by show s ≤ _; omega
  | f + 1, row, s, m, hm, h => by
    simp only [goF]
    split
    · exact ⟨rfl, by omega⟩
    · rw [fold_left]
      cases m with
      | zero =>
        have : leftL T.length who row = [] := List.eq_nil_of_length_eq_zero (by omega)
        rw [this]; show s ≤ _; omega
      | succ m =>
        have hs : stepsN (m + 1) = (m + 1) * (1 + stepsN m) := rfl
        have hle := Nat.mul_le_mul_right (1 + stepsN m) hm
        have := fold_in (T := T) (who := who) (C := C) (B := B) (rec := goF T who C B f) (row := row) (c := stepsN m) (leftL T.length who row) s (by omega) fun k hk s1 hs1 => by
          have hlt := left_less hk
          exact goF_in f (row ++ [k]) s1 m (by omega) hs1
        cases hx : (leftL T.length who row).foldl (goStep T who C B (goF T who C B f) row) (.ret s) with
        | ret s3 => rw [hx] at this; have : s3 ≤ s + (leftL T.length who row).length * (1 + stepsN m) := this; show s3 ≤ _; omega
        | fin v3 r3 s3 => rw [hx] at this; have : v3 = 0 ∧ s3 ≤ s + (leftL T.length who row).length * (1 + stepsN m) := this; exact ⟨this.1, by omega⟩
theorem leg_nil {T : List Txn} {C : Nat} : LegR T C [] := fun j hj => by cases hj
theorem good_nodup {T : List Txn} {who C : Nat} : ∀ (rest done : List Nat), goodF T who C done rest → done.Nodup → (done ++ rest).Nodup
  | [], done, _, h => by simpa using h
  | k :: rest, done, hg, h => by
    obtain ⟨h1, _, h3⟩ := hg
    simp only [mayGo, Bool.and_eq_true, Bool.not_eq_true'] at h1
    have hk : k ∉ done := fun hm => by have := h1.1.2; simp [hm] at this
    have := good_nodup rest (done ++ [k]) h3 (by
      rw [List.nodup_append]
      exact ⟨h, by simp, fun a ha b hb e => by simp at hb; subst hb; subst e; exact hk ha⟩)
    simpa using this
theorem good_who {T : List Txn} {who C : Nat} : ∀ (rest done : List Nat), goodF T who C done rest → ∀ k ∈ rest, who.testBit k = true
  | [], done, _, k, hk => by cases hk
  | x :: rest, done, hg, k, hk => by
    obtain ⟨h1, _, h3⟩ := hg
    rcases List.mem_cons.1 hk with rfl | hk
    · simp only [mayGo, Bool.and_eq_true] at h1; exact h1.1.1
    · exact good_who rest _ h3 k hk
theorem good_len {T : List Txn} {who C : Nat} {rest : List Nat} (hw : who < 2 ^ T.length) (h : goodF T who C [] rest) : rest.length ≤ T.length := by
  refine nodup_le _ _ (by simpa using good_nodup rest [] h List.nodup_nil) fun i hi => ?_
  have hwk := good_who rest [] h i hi
  refine Decidable.byContradiction fun hn => ?_
  rw [Nat.testBit_lt_two_pow (Nat.lt_of_lt_of_le hw (Nat.pow_le_pow_right (by omega) (by omega)))] at hwk
  cases hwk
theorem stepsN_6 : stepsN 6 = 1956 := rfl
/-- What a search found, with yes. -/
theorem found_row {T : List Txn} {who C B : Nat} (h : (foundF T who C B).v = 0) : (foundF T who C B).c = C ∧ goodF T who C [] (foundF T who C B).row ∧ rowB (foundF T who C B).row = who := by
  unfold foundF at h ⊢
  cases hx : goF T who C B (T.length + 1) [] 0 with
  | ret s' => rw [hx] at h; simp [Out.fnd] at h
  | fin v r s' =>
    rw [hx] at h
    simp only [Out.fnd] at h ⊢
    split at h
    · rename_i hv
      subst hv
      rw [if_pos rfl]
      obtain ⟨rest, hr, hg, hb⟩ := goF_yes _ _ _ _ _ leg_nil hx
      rw [List.nil_append] at hr
      subst hr
      exact ⟨rfl, hg, hb⟩
    · exact absurd h ‹¬ v = 0›
end Go.VC
end
section
set_option maxRecDepth 100000
set_option linter.unusedSimpArgs false
set_option linter.unusedVariables false
set_option linter.unnecessarySimpa false
set_option linter.defProp false
namespace Go.VC
open Go.RowKit
section
variable {P : Program} {gl : Nat → Option (List D)} {σ : S} {o : Oper} {d : Nat} {x : Ob}
variable {ops : Array Oper}
theorem store_put {t : TypeId} {p r : R} {dst : Option Tmp} {u : R} : storeR P (σ.put dst u) t p r = (storeR P σ t p r).map fun σ' => σ'.put dst u := by
  cases dst with
  | none => simp [S.put]
  | some e =>
    unfold storeR
    have hm : (σ.put (some e) u).mem = σ.mem := rfl
    rw [hm]
    (repeat' split) <;> first | rfl | simp_all
/-- Two operations of which the first tells the same ahead of the second and behind it. -/
def Comm (P : Program) (gl : Nat → Option (List D)) (ops : Array Oper) (oi oj : Oper) : Prop :=
  ∀ (σ : S) (r : R) (K : S → Prop), Tells P gl ops oi r σ → stD P gl ops oj (σ.put oi.dst r) K → stD P gl ops oj σ fun σ' => Tells P gl ops oi r σ' ∧ K (σ'.put oi.dst r)
theorem Comm.quiet {oi oj : Oper} (hq : quietO oj = true) (ha : oi.apart ops oj = true) : Comm P gl ops oi oj := fun σ r K hy h => st_put hq ha hy h
/-- An operation that reads registers alone. -/
def regsO (o : Oper) : Bool := o.guard.isNone && match o.op with
  | .extract _ _ | .move _ => true
  | _ => false
theorem tells_set {oi : Oper} {r : R} {σ' : S} (hi : regsO oi = true) (he : σ'.regs = σ.regs) (h : Tells P gl ops oi r σ) : Tells P gl ops oi r σ' := by
  unfold regsO at hi
  simp only [Bool.and_eq_true, Option.isNone_iff_eq_none] at hi
  obtain ⟨hg, hi⟩ := hi
  have hev : ∀ y, σ'.eval gl y = σ.eval gl y := fun y => by cases y <;> simp [S.eval, he]
  have hw : ∀ τ, wantA ops oi τ = some true := fun τ => by simp [wantA, hg]
  rcases h with ⟨_, h2⟩ | ⟨h1, _⟩
  · refine .inl ⟨hw _, fun K hk => ?_⟩
    have := h2 K hk
    unfold opQ at this ⊢
    split at hi
    · rename_i y i ho
      rw [ho] at this ⊢
      dsimp only at this ⊢
      rw [hev]; exact this
    · rename_i y ho
      rw [ho] at this ⊢
      dsimp only at this ⊢
      rw [hev]; exact this
    · cases hi
  · rw [hw] at h1; cases h1
theorem Comm.store {oi oj : Oper} {t : TypeId} {p y : Operand} (hj : oj.op = .store t p y) (hjd : oj.dst = none) (hjg : oj.guard = none) (hi : regsO oi = true) (ha : oi.apart ops oj = true) : Comm P gl ops oi oj := fun σ r K hy h => by
  obtain ⟨h1, _, _⟩ := Oper.apart_spec ha
  have hq : quietO oj = false := by unfold quietO; rw [hj]
  have hx : isX P oj = false := by unfold isX; rw [hj]
  have hw : ∀ τ, wantA ops oj τ = some true := fun τ => by simp [wantA, hjg]
  have hst : ∀ (τ : S) (K : S → Prop), stD P gl ops oj τ K = (match storeR P τ t (τ.eval gl p) (τ.eval gl y) with | some σ' => K σ' | none => False) := fun τ K => by
    unfold stD inD opA
    rw [hw, hq, hx]
    simp only [opA0, hj, hjd, S.put]
    cases storeR P τ t (τ.eval gl p) (τ.eval gl y) <;> rfl
  rw [hst] at h ⊢
  have e1 : (σ.put oi.dst r).eval gl p = σ.eval gl p := eval_put (looks_op (by rw [hj]; simp [Op.operands]) h1)
  have e2 : (σ.put oi.dst r).eval gl y = σ.eval gl y := eval_put (looks_op (by rw [hj]; simp [Op.operands]) h1)
  rw [e1, e2, store_put] at h
  cases hs : storeR P σ t (σ.eval gl p) (σ.eval gl y) with
  | none => rw [hs] at h; exact h
  | some σ' =>
    rw [hs] at h
    refine ⟨tells_set hi ?_ hy, h⟩
    unfold storeR at hs
    (repeat' split at hs) <;> first | (cases hs; rfl) | (cases hs; done) | simp_all
end
end Go.VC
end
section
set_option maxRecDepth 100000
set_option linter.unusedSimpArgs false
set_option linter.unusedVariables false
set_option linter.unnecessarySimpa false
namespace Go.VC
open Go.RowKit Go.Proofs Go.IntWalk
theorem srch_yes {T : List Txn} {who B : Nat} : ∀ (L : List Nat) (st : Nat), (srchN T who B L st).v = 0 → ∃ c ∈ L, ∃ B', (foundF T who c B').v = 0 ∧ (srchN T who B L st).c = c ∧ (srchN T who B L st).row = (foundF T who c B').row
  | [], st, h => by simp [srchN] at h
  | c :: cs, st, h => by
    simp only [srchN] at h ⊢
    split at h
    · rename_i h1
      obtain ⟨c', hc, B', h2⟩ := srch_yes cs _ h
      rw [if_pos h1]
      exact ⟨c', List.mem_cons_of_mem _ hc, B', h2⟩
    · rename_i h1
      rw [if_neg h1]
      exact ⟨c, List.mem_cons_self, B - st, h, (found_row h).1, rfl⟩
section
variable {T : List Txn} {C : Nat} {row : List Nat}
theorem all_bit {n q : Nat} : (2 ^ n - 1).testBit q = decide (q < n) := by rw [Nat.testBit_two_pow_sub_one]
theorem row_all (hb : rowB row = allN T) (q : Nat) : row.contains q = decide (q < T.length) := by
  rw [← rowB_bit, hb, allN, all_bit]
end
end Go.VC
end
section
set_option maxRecDepth 100000
set_option linter.unusedSimpArgs false
set_option linter.unusedVariables false
set_option linter.unnecessarySimpa false
namespace Go.VC
open Go.RowKit Go.Proofs Go.IntWalk
section
variable {T : List Txn} {who C B B' : Nat}
theorem fold_more {rec rec' : List Nat → Nat → Out} {row : List Nat} (hBB : B ≤ B') (hok : ∀ row s, s ≤ B → OutOk B (rec row s)) (hrec : ∀ row s, s ≤ B → (∀ r s', rec row s ≠ .fin 2 r s') → rec' row s = rec row s) :
    ∀ (l : List Nat) (s : Nat), s ≤ B → (∀ r s', l.foldl (goStep T who C B rec row) (.ret s) ≠ .fin 2 r s') → l.foldl (goStep T who C B' rec' row) (.ret s) = l.foldl (goStep T who C B rec row) (.ret s)
  | [], s, _, _ => rfl
  | k :: l, s, hs, hn => by
    rw [List.foldl_cons] at hn ⊢
    rw [List.foldl_cons]
    have hk := goStep_ok (T := T) (who := who) (C := C) (row := row) (o := .ret s) (k := k) hok hs
    have h1 : goStep T who C B' rec' row (.ret s) k = goStep T who C B rec row (.ret s) k := by
      simp only [goStep] at hn hk ⊢
      split
      · rename_i hm
        rw [if_pos hm] at hn
        split at hn
        · rw [foldL_fin] at hn; exact absurd rfl (hn _ _)
        · rename_i hsB
          rw [if_neg (by omega), if_neg hsB]
          split
          · rename_i hl
            rw [if_pos hl] at hn
            refine hrec _ _ (by omega) fun r s' e => ?_
            rw [e, foldL_fin] at hn
            exact hn _ _ rfl
          · rfl
      · rfl
    rw [h1]
    cases ho : goStep T who C B rec row (.ret s) k with
    | ret s2 =>
      rw [ho] at hn hk
      exact fold_more hBB hok hrec l s2 hk hn
    | fin v r s2 => rw [foldL_fin, foldL_fin]
theorem goF_more (hBB : B ≤ B') : ∀ (f : Nat) (row : List Nat) (s : Nat), s ≤ B → (∀ r s', goF T who C B f row s ≠ .fin 2 r s') → goF T who C B' f row s = goF T who C B f row s
  | 0, row, s, _, _ => rfl
  | f + 1, row, s, hs, hn => by
    simp only [goF] at hn ⊢
    split
    · rfl
    · rename_i h
      rw [if_neg h] at hn
      exact fold_more hBB (goF_ok f) (goF_more hBB f) _ s hs hn
theorem found_v (T : List Txn) (who C B : Nat) : (foundF T who C B).v = 0 ∨ ((foundF T who C B).v = 1 ∧ (foundF T who C B).c = 0 ∧ (foundF T who C B).row = []) ∨ ((foundF T who C B).v = 2 ∧ (foundF T who C B).c = 0 ∧ (foundF T who C B).row = []) := by
  have h := goF_ok (T := T) (who := who) (C := C) (B := B) (T.length + 1) [] 0 (Nat.zero_le _)
  unfold foundF
  cases hx : goF T who C B (T.length + 1) [] 0 with
  | ret s => exact .inr (.inl ⟨rfl, rfl, rfl⟩)
  | fin v r s =>
    rw [hx] at h
    rcases h.2 with rfl | rfl
    · exact .inl rfl
    · exact .inr (.inr ⟨rfl, rfl, rfl⟩)
theorem found_more (hBB : B ≤ B') (h : (foundF T who C B).v ≠ 2) : foundF T who C B' = foundF T who C B := by
  unfold foundF at h ⊢
  rw [goF_more hBB _ _ _ (Nat.zero_le _) fun r s' e => by rw [e] at h; exact h rfl]
theorem srch_more (hBB : B ≤ B') : ∀ (L : List Nat) (st : Nat), (srchN T who B L st).v ≠ 2 → srchN T who B' L st = srchN T who B L st
  | [], st, _ => rfl
  | c :: cs, st, h => by
    simp only [srchN] at h ⊢
    have hm : (foundF T who c (B - st)).v ≠ 2 → foundF T who c (B' - st) = foundF T who c (B - st) := found_more (by omega)
    by_cases h1 : (foundF T who c (B - st)).v = 1
    · rw [if_pos h1] at h ⊢
      rw [hm (by omega), if_pos h1]
      exact srch_more hBB cs _ h
    · rw [if_neg h1] at h ⊢
      rw [hm h, if_neg h1]
/-- A search that came to the end of its budget took it all. -/
theorem goStep_all {rec : List Nat → Nat → Out} {row : List Nat} {o : Out} {k : Nat} (hrec : ∀ row s r s', rec row s = .fin 2 r s' → s' = B) (ho : ∀ r s', o = .fin 2 r s' → s' = B) : ∀ r s', goStep T who C B rec row o k = .fin 2 r s' → s' = B := by
  intro r s' h
  cases o with
  | fin v r0 s0 => exact ho r s' h
  | ret s =>
    simp only [goStep] at h
    split at h
    · split at h
      · rename_i e; cases h; exact e
      · split at h
        · exact hrec _ _ _ _ h
        · cases h
    · cases h
theorem fold_all {rec : List Nat → Nat → Out} {row : List Nat} (hrec : ∀ row s r s', rec row s = .fin 2 r s' → s' = B) : ∀ (l : List Nat) (o : Out), (∀ r s', o = .fin 2 r s' → s' = B) → ∀ r s', l.foldl (goStep T who C B rec row) o = .fin 2 r s' → s' = B
  | [], o, ho => ho
  | k :: l, o, ho => fold_all hrec l _ (goStep_all hrec ho)
theorem goF_all : ∀ (f : Nat) (row : List Nat) (s : Nat) (r : List Nat) (s' : Nat), goF T who C B f row s = .fin 2 r s' → s' = B
  | 0, row, s, r, s', h => by cases h
  | f + 1, row, s, r, s', h => by
    simp only [goF] at h
    split at h
    · cases h
    · exact fold_all (goF_all f) _ _ (fun r s' e => by cases e) r s' h
theorem found_all (h : (foundF T who C B).v = 2) : (foundF T who C B).s = B := by
  unfold foundF at h ⊢
  cases hx : goF T who C B (T.length + 1) [] 0 with
  | ret s => rw [hx] at h; cases h
  | fin v r s =>
    have hk := goF_ok (T := T) (who := who) (C := C) (B := B) (T.length + 1) [] 0 (Nat.zero_le _)
    rw [hx] at h hk
    rcases hk.2 with rfl | rfl
    · cases h
    · exact goF_all _ _ _ _ _ hx
theorem srch_v : ∀ (L : List Nat) (st : Nat), (srchN T who B L st).v = 0 ∨ ((srchN T who B L st).v = 1 ∧ (srchN T who B L st).c = 0 ∧ (srchN T who B L st).row = [] ∧ ∀ c ∈ L, ∃ B', (foundF T who c B').v = 1) ∨ ((srchN T who B L st).v = 2 ∧ (srchN T who B L st).c = 0 ∧ (srchN T who B L st).row = [] ∧ (st ≤ B → (srchN T who B L st).s = B))
  | [], st => .inr (.inl ⟨rfl, rfl, rfl, fun c hc => by cases hc⟩)
  | c :: cs, st => by
    simp only [srchN]
    by_cases h1 : (foundF T who c (B - st)).v = 1
    · rw [if_pos h1]
      have hs := found_s T who c (B - st)
      rcases srch_v cs (st + (foundF T who c (B - st)).s) with h | ⟨h, h2, h3, h4⟩ | ⟨h, h2, h3, h4⟩
      · exact .inl h
      · refine .inr (.inl ⟨h, h2, h3, fun c' hc => ?_⟩)
        rcases List.mem_cons.1 hc with rfl | hc
        · exact ⟨_, h1⟩
        · exact h4 c' hc
      · exact .inr (.inr ⟨h, h2, h3, fun hst => h4 (by omega)⟩)
    · rw [if_neg h1]
      rcases found_v T who c (B - st) with h | ⟨h, _⟩ | ⟨h, h2, h3⟩
      · exact .inl h
      · exact absurd h h1
      · have := found_all h
        exact .inr (.inr ⟨h, h2, h3, fun hst => by dsimp only; omega⟩)
theorem found_many (hT : T.length ≤ 6) (hB : 1956 ≤ B) : (foundF T who C B).v ≠ 2 ∧ (foundF T who C B).s ≤ 1956 := by
  have hle : (leftL T.length who []).length ≤ 6 := Nat.le_trans (Nat.le_trans (List.length_filter_le _ _) (by simp)) hT
  have h1 := goF_in (T := T) (who := who) (C := C) (B := B) (T.length + 1) [] 0 6 hle (by rw [stepsN_6]; omega)
  rw [stepsN_6] at h1
  unfold foundF
  cases hx : goF T who C B (T.length + 1) [] 0 with
  | ret s' => rw [hx] at h1; exact ⟨by simp [Out.fnd], by have : s' ≤ 0 + 1956 := h1; simpa [Out.fnd] using this⟩
  | fin v r s' =>
    rw [hx] at h1
    obtain ⟨rfl, h2⟩ : v = 0 ∧ s' ≤ 0 + 1956 := h1
    exact ⟨by simp [Out.fnd], by simpa [Out.fnd] using h2⟩
theorem srch_many (hT : T.length ≤ 6) : ∀ (L : List Nat) (st : Nat), st + L.length * 1956 ≤ B → (srchN T who B L st).v ≠ 2
  | [], st, _ => by simp [srchN]
  | c :: cs, st, h => by
    rw [List.length_cons, Nat.succ_mul] at h
    have hf := found_many (T := T) (who := who) (C := c) (B := B - st) hT (by omega)
    simp only [srchN]
    split
    · exact srch_many hT cs _ (by omega)
    · exact hf.1
end
section
variable {T : List Txn} {C : Nat}
theorem afterR_bit {i k : Nat} (hi : i < T.length) : ((afterR T).getD i 0).testBit k = (decide (k < T.length) && beforeB T i k) := by
  rw [List.getD_eq_getElem?_getD, afterR, List.getElem?_map, List.getElem?_range hi]
  exact bitsN_test _ _ _
theorem afterR_len1 : (afterR T).length = T.length := by simp [afterR]
theorem ext_may {who left k : Nat} {row : List Nat} (hw : who < 2 ^ T.length) (hl : ∀ q, left.testBit q = (who.testBit q && !row.contains q)) (hk : k < T.length) : extS (afterR T) left k = mayGo T who row k := by
  unfold extS mayGo freeE freeR
  rw [hl k, afterR_len1]
  congr 1
  rw [Bool.eq_iff_iff, List.all_eq_true, List.all_eq_true]
  refine forall_congr' fun i => ?_
  refine forall_congr' fun hi => ?_
  have hi := List.mem_range.1 hi
  unfold freeX
  rw [hl i, afterR_bit hi, decide_eq_true hk, Bool.true_and]
theorem rows_good {who : Nat} (hw : who < 2 ^ T.length) : ∀ (f : Nat) (row : List Nat) (left : Nat) (r : List Nat), (∀ q, left.testBit q = (who.testBit q && !row.contains q)) → (∀ k ∈ row, who.testBit k = true) → cntB T.length left ≤ f → r ∈ rowsF (afterR T) f row left → LegR T C r → ∃ rest, r = row ++ rest ∧ goodF T who C row rest ∧ rowB r = who := by
  have fin : ∀ (row : List Nat), (∀ q, (0 : Nat).testBit q = (who.testBit q && !row.contains q)) → (∀ k ∈ row, who.testBit k = true) → rowB row = who := fun row hl hr => Nat.eq_of_testBit_eq fun q => by
    rw [rowB_bit]
    have := hl q
    rw [Nat.zero_testBit] at this
    cases hc : row.contains q with
    | true => exact (hr q (by simpa using hc)).symm
    | false => rw [hc] at this; simpa using this
  intro f
  induction f with
  | zero =>
    intro row left r hl hr hc hm hleg
    have h0 : left = 0 := bits_zero (n := T.length) (Nat.lt_pow_two_of_testBit _ fun i hi => by
      rw [hl, Nat.testBit_lt_two_pow (Nat.lt_of_lt_of_le hw (Nat.pow_le_pow_right (by omega) hi)), Bool.false_and]) (cntB_zero (by omega))
    subst h0
    obtain rfl : r = row := by simpa [rowsF] using hm
    exact ⟨[], by simp, trivial, fin r hl hr⟩
  | succ f ih =>
    intro row left r hl hr hc hm hleg
    by_cases h0 : left = 0
    · subst h0
      rw [rowsF_0] at hm
      obtain rfl : r = row := by simpa using hm
      exact ⟨[], by simp, trivial, fin r hl hr⟩
    · rw [rowsF_s h0, partF, List.mem_flatMap] at hm
      obtain ⟨k, hk, hm⟩ := hm
      have hk := List.mem_range.1 hk
      rw [afterR_len1] at hk
      split at hm
      · rename_i he
        have hmay := he
        rw [ext_may hw hl hk] at hmay
        have hkb : left.testBit k = true := by simp only [extS, Bool.and_eq_true] at he; exact he.1
        have hkw : who.testBit k = true := by rw [hl, Bool.and_eq_true] at hkb; exact hkb.1
        obtain ⟨rest, h1, h2, h3⟩ := ih (row ++ [k]) (andN left (2 ^ k)) r (fun q => by
          rw [andN_bit, Nat.testBit_two_pow, hl q]
          by_cases e : k = q
          · subst e; simp
          · have e' : ¬ q = k := fun h => e h.symm
            cases who.testBit q <;> cases hrc : row.contains q <;> simp_all) (fun q hq => by
          rcases List.mem_append.1 hq with h | h
          · exact hr q h
          · obtain rfl := List.mem_singleton.1 h; exact hkw) (by have := cntB_clr hkb hk; omega) hm hleg
        refine ⟨k :: rest, by rw [h1]; simp, ⟨hmay, ?_, h2⟩, h3⟩
        have h4 := hleg row.length (by rw [h1]; simp)
        subst h1
        simpa using h4
      · cases hm
theorem all_good {r : List Nat} (hr : r ∈ allRows (afterR T)) (hleg : LegR T C r) : goodF T (allN T) C [] r ∧ rowB r = allN T := by
  unfold allRows at hr
  rw [afterR_len1] at hr
  have h1 : 1 ≤ 2 ^ T.length := Nat.one_le_two_pow
  obtain ⟨rest, h2, h3, h4⟩ := rows_good (C := C) (who := allN T) (by unfold allN; omega) T.length [] (2 ^ T.length - 1) r (fun q => by simp [allN]) (fun k hk => by cases hk) (by rw [cntB_all _ _ (Nat.le_refl _)]; exact Nat.le_refl _) hr hleg
  rw [List.nil_append] at h2
  subst h2
  exact ⟨h3, h4⟩
theorem rows_count {after : List Nat} : ∀ (f : Nat) (row : List Nat) (left : Nat), (rowsF after f row left).length ≤ (max after.length 1) ^ f
  | 0, row, left => by simp [rowsF]
  | f + 1, row, left => by
    rw [rowsF]
    split
    · have : 0 < (max after.length 1) ^ (f + 1) := Nat.pow_pos (by omega)
      simp; omega
    · have key : ∀ n, ((List.range n).flatMap fun q => if extS after left q = true then rowsF after f (row ++ [q]) (andN left (2 ^ q)) else []).length ≤ n * (max after.length 1) ^ f := by
        intro n
        induction n with
        | zero => simp
        | succ n ih =>
          rw [List.range_succ, List.flatMap_append, List.length_append, Nat.succ_mul]
          have h1 := rows_count (after := after) f (row ++ [n]) (andN left (2 ^ n))
          simp only [List.flatMap_cons, List.flatMap_nil, List.append_nil]
          split
          · omega
          · simp only [List.length_nil]; omega
      have := key after.length
      rw [Nat.pow_succ, Nat.mul_comm _ (max after.length 1)]
      exact Nat.le_trans this (Nat.mul_le_mul_right _ (by omega))
theorem all_count (hT : T.length ≤ 6) : (allRows (afterR T)).length ≤ 79000 := by
  have h := rows_count (after := afterR T) (afterR T).length [] (2 ^ (afterR T).length - 1)
  unfold allRows
  rw [afterR_len1] at h ⊢
  have h2 : (max T.length 1) ^ T.length ≤ 6 ^ 6 := Nat.le_trans (Nat.pow_le_pow_left (show max T.length 1 ≤ 6 by omega) _) (Nat.pow_le_pow_right (by omega) hT)
  omega
theorem fl_le1 {h : List Ev} {n : Int} : ∀ k, (flTo h n k).1 < k ∧ (flTo h n k).1 ≤ (flTo h n k).2
  | 0 => by simp [flTo]
  | k + 1 => by
    have := fl_le1 (h := h) (n := n) k
    simp only [flTo]
    split
    · split
      · dsimp only; split <;> omega
      · omega
    · omega
/-- A table's transactions begin before they end. -/
theorem txns_fl {h : List Ev} (h0 : checkE h = 0) : ∀ t ∈ txns h, t.first ≤ t.last := fun t ht => by
  unfold txns at ht
  rw [if_pos h0] at ht
  obtain ⟨kp, hk, rfl⟩ := List.mem_map.1 ht
  have T := (tabT (check_wfl h0) h.length (Nat.le_refl _)).told kp hk
  have := (fl_le1 (h := h) (n := kp.name) h.length).2
  rw [T.fl] at this; exact this
/-- The least of those that are left is free. -/
theorem ext_some (hfl : ∀ t ∈ T, 0 ≤ t.first ∧ t.first ≤ t.last) {left : Nat} (hlt : left < 2 ^ T.length) (h0 : left ≠ 0) : ∃ k, k < T.length ∧ extS (afterR T) left k = true := by
  have ex : ∃ k, k < T.length ∧ left.testBit k = true := by
    by_cases h : ∃ k, k < T.length ∧ left.testBit k = true
    · exact h
    · refine absurd (bits_zero hlt fun q hq => ?_) h0
      cases hb : left.testBit q with
      | false => rfl
      | true => exact absurd ⟨q, hq, hb⟩ h
  have low : ∀ (m : Nat) (k : Nat) (hk : k < T.length), left.testBit k = true → T[k].first.toNat ≤ m → ∃ k, ∃ hk : k < T.length, left.testBit k = true ∧ ∀ i, ∀ hi : i < T.length, left.testBit i = true → T[k].first.toNat ≤ T[i].first.toNat := by
    intro m
    induction m with
    | zero => exact fun k hk hb hm => ⟨k, hk, hb, fun i hi _ => by omega⟩
    | succ m ih =>
      intro k hk hb hm
      by_cases hx : ∃ i, ∃ hi : i < T.length, left.testBit i = true ∧ T[i].first.toNat < T[k].first.toNat
      · obtain ⟨i, hi, hbi, hlt'⟩ := hx
        exact ih i hi hbi (by omega)
      · refine ⟨k, hk, hb, fun i hi hbi => ?_⟩
        rcases Nat.lt_or_ge T[i].first.toNat T[k].first.toNat with h | h
        · exact absurd ⟨i, hi, hbi, h⟩ hx
        · exact h
  obtain ⟨k0, hk0, hb0⟩ := ex
  obtain ⟨k, hk, hb, hmin⟩ := low _ k0 hk0 hb0 (Nat.le_refl _)
  refine ⟨k, hk, ?_⟩
  unfold extS freeE
  rw [hb, Bool.true_and, List.all_eq_true]
  intro i hi
  have hi := List.mem_range.1 hi
  rw [afterR_len1] at hi
  unfold freeX
  cases hbi : left.testBit i with
  | false => rfl
  | true =>
    rw [afterR_bit hi, decide_eq_true hk, Bool.true_and, Bool.true_and]
    cases hbf : beforeB T i k with
    | false => rfl
    | true =>
      exfalso
      simp only [beforeB, List.getElem?_eq_getElem hi, List.getElem?_eq_getElem hk, Bool.and_eq_true, decide_eq_true_eq] at hbf
      have h1 := hmin i hi hbi
      have h2 := hfl _ (List.getElem_mem hi)
      have h3 := hfl _ (List.getElem_mem hk)
      omega
theorem cyc_zero (hfl : ∀ t ∈ T, 0 ≤ t.first ∧ t.first ≤ t.last) : ∀ (f left : Nat), cntB T.length left = f → left < 2 ^ T.length → cycF (afterR T) f left = 0
  | 0, left, hc, hlt => bits_zero hlt (cntB_zero hc)
  | f + 1, left, hc, hlt => by
    have h0 : left ≠ 0 := fun e => by
      subst e
      have : ∀ n, cntB n 0 = 0 := fun n => by
        induction n with
        | zero => rfl
        | succ n ih => rw [cntB, ih, Nat.zero_testBit]; rfl
      rw [this] at hc; cases hc
    rw [cycF, afterR_len1]
    cases hf : (List.range T.length).find? (extS (afterR T) left) with
    | none =>
      obtain ⟨k, hk, he⟩ := ext_some hfl hlt h0
      rw [List.find?_eq_none] at hf
      exact absurd he (hf k (List.mem_range.2 hk))
    | some k =>
      have he : extS (afterR T) left k = true := List.find?_some hf
      have hk := List.mem_range.1 (List.mem_of_find?_eq_some hf)
      have hb : left.testBit k = true := by simp only [extS, Bool.and_eq_true] at he; exact he.1
      have := cntB_clr hb hk
      exact cyc_zero hfl f _ (by omega) (andN_lt2 hlt)
theorem afterR_lt {b : Nat} (h : b ∈ afterR T) : b < 2 ^ T.length := by
  obtain ⟨i, _, rfl⟩ := List.mem_map.1 h
  exact bitsN_lt _ _
theorem may_all (hT : T.length ≤ 6) (hfl : ∀ t ∈ T, 0 ≤ t.first ∧ t.first ≤ t.last) : mayX (afterR T) = 0 := by
  have h1 : 1 ≤ 2 ^ T.length := Nat.one_le_two_pow
  have hany : (afterR T).any (oddA (afterR T)) = false := by
    rw [List.any_eq_false]
    intro b hb
    rw [oddA, afterR_len1, Nat.div_eq_of_lt (afterR_lt hb)]; decide
  have hcyc : cycE (afterR T) = false := by
    rw [cycE, afterR_len1, cyc_zero hfl T.length _ (cntB_all _ _ (Nat.le_refl _)) (by omega)]; rfl
  rw [mayX, if_neg (by rw [hany, afterR_len1]; simp; omega), if_neg (by rw [hcyc]; decide)]
theorem good_leg {who : Nat} : ∀ (rest done : List Nat), LegR T C done → goodF T who C done rest → LegR T C (done ++ rest)
  | [], done, h, _ => by simpa using h
  | k :: rest, done, h, hg => by
    have := good_leg rest (done ++ [k]) (leg_s.2 ⟨h, hg.2.1⟩) hg.2.2
    simpa using this
theorem good_at {who : Nat} : ∀ (rest done : List Nat), goodF T who C done rest → ∀ j (hj : j < rest.length), mayGo T who (done ++ rest.take j) rest[j] = true
  | k :: rest, done, hg, 0, _ => by simpa using hg.1
  | k :: rest, done, hg, j + 1, hj => by
    have := good_at rest (done ++ [k]) hg.2.2 j (by simpa using hj)
    simpa using this
theorem good_keeps {who : Nat} {row : List Nat} (hg : goodF T who C [] row) : keepsFrom T (rowI row) 0 = true := by
  have hw := good_who row [] hg
  unfold keepsFrom
  rw [List.drop_zero, List.all_eq_true]
  intro i hi
  have hi := List.mem_range.1 hi
  rw [rowI_len] at hi
  have hx : (rowI row)[i]? = some ((row[i] : Nat) : Int) := by simp [rowI, hi]
  unfold okAt
  rw [hx]
  dsimp only
  rw [List.all_eq_true]
  intro y hy
  obtain ⟨j, hj, rfl⟩ := List.mem_iff_getElem.1 hy
  rw [List.length_take, rowI_len] at hj
  have hji : j < i := by omega
  have hjl : j < row.length := by omega
  have hyj : ((rowI row).take i)[j]'(by rw [List.length_take, rowI_len]; omega) = ((row[j] : Nat) : Int) := by simp [rowI]
  rw [hyj]
  have hmi := good_at row [] hg i hi
  have hmj := good_at row [] hg j hjl
  rw [List.nil_append] at hmi hmj
  simp only [mayGo, Bool.and_eq_true, Bool.not_eq_true'] at hmi hmj
  have h1 : row[j] ∈ row.take i := List.mem_iff_getElem.2 ⟨j, by rw [List.length_take]; omega, by simp⟩
  have h2 : ¬ row[i] = row[j] := fun e => by
    have := hmi.1.2
    rw [e] at this
    simp at this
    exact this h1
  have h3 : beforeB T row[i] row[j] = false := by
    cases hb : beforeB T row[i] row[j] with
    | false => rfl
    | true =>
      exfalso
      have hil : row[i] < T.length := by
        unfold beforeB at hb
        split at hb
        · rename_i h _; exact (List.getElem?_eq_some_iff.1 h).1
        · cases hb
      have h4 := List.all_eq_true.1 hmj.2 row[i] (List.mem_range.2 hil)
      have h5 : who.testBit row[i] = true := hw _ (List.getElem_mem hi)
      have h6 : (row.take j).contains row[i] = false := by
        cases hc : (row.take j).contains row[i] with
        | false => rfl
        | true =>
          exfalso
          have hm : row[i] ∈ row.take j := by simpa using hc
          have : row[i] ∈ row.take i := by
            have : row.take j = (row.take i).take j := by rw [List.take_take]; congr 1; omega
            rw [this] at hm; exact List.mem_of_mem_take hm
          have h7 := hmi.1.2
          simp at h7
          exact h7 this
      rw [h5, h6, hb] at h4
      cases h4
  have h4 : (((row[i] : Nat) : Int) == ((row[j] : Nat) : Int)) = false := by
    simp only [beq_eq_false_iff_ne]; omega
  rw [h4, Int.toNat_natCast, Int.toNat_natCast, h3]; rfl
end
end Go.VC
end
section
set_option maxRecDepth 100000
set_option linter.unusedSimpArgs false
set_option linter.unusedVariables false
set_option linter.unnecessarySimpa false
namespace Go.VC
open Go.RowKit Go.Proofs Go.IntWalk
/-- Does a row explain all, for some choice? -/
def expC (T : List Txn) (c : Nat) : Bool := (allRows (afterR T)).any fun r => decide (legalN T c (rowI r) = r.length)
def expB (T : List Txn) : Bool := (choicesL T).any (expC T)
theorem rows_nd {T : List Txn} : ∀ (f : Nat) (row : List Nat) (left : Nat) (r : List Nat), row.Nodup → (∀ k ∈ row, k < T.length) → (∀ q, left.testBit q = true → q ∉ row) → r ∈ rowsF (afterR T) f row left → r.Nodup ∧ ∀ k ∈ r, k < T.length
  | 0, row, left, r, h1, h2, h3, hm => by
    obtain rfl : r = row := by simpa [rowsF] using hm
    exact ⟨h1, h2⟩
  | f + 1, row, left, r, h1, h2, h3, hm => by
    by_cases h0 : left = 0
    · subst h0
      rw [rowsF_0] at hm
      obtain rfl : r = row := by simpa using hm
      exact ⟨h1, h2⟩
    · rw [rowsF_s h0, partF, List.mem_flatMap] at hm
      obtain ⟨k, hk, hm⟩ := hm
      have hk := List.mem_range.1 hk
      rw [afterR_len1] at hk
      split at hm
      · rename_i he
        have hb : left.testBit k = true := by simp only [extS, Bool.and_eq_true] at he; exact he.1
        have hn := h3 k hb
        refine rows_nd f (row ++ [k]) _ r (List.nodup_append.2 ⟨h1, by simp, fun a ha b hb => by
          obtain rfl := List.mem_singleton.1 hb
          intro e; subst e; exact hn ha⟩) (fun q hq => by
          rcases List.mem_append.1 hq with h | h
          · exact h2 q h
          · obtain rfl := List.mem_singleton.1 h; exact hk) (fun q hq hm => ?_) hm
        rw [andN_bit, Bool.and_eq_true, Nat.testBit_two_pow] at hq
        rcases List.mem_append.1 hm with h | h
        · exact h3 q hq.1 h
        · obtain rfl := List.mem_singleton.1 h
          simp at hq
      · cases hm
theorem all_nd {T : List Txn} {r : List Nat} (hr : r ∈ allRows (afterR T)) : r.Nodup ∧ ∀ k ∈ r, k < T.length := rows_nd _ [] _ r List.nodup_nil (fun k hk => by cases hk) (fun q _ h => by cases h) hr
/-- The rows that are all, as data. -/
abbrev rowsDD (T : List Txn) : List (List D) := ((allRows (afterR T)).map rowI).map fun r => [.sl (r.map ienc)]
theorem t1077 (h : List Ev) (hE : checkE h = 0) : Holds Tryd.prog GL 14 [evsA h] [.a (B (expB (txns h))), .a (B true)] := by
  refine fn_holds (vs := [.tmp 2, .tmp 3]) (by kernel_rfl) Tryd.func14 rfl rfl (by kernel_rfl) (by kernel_rfl) rfl ?_
  have hT := txns_len6 h
  have hfl : ∀ t ∈ txns h, 0 ≤ t.first ∧ t.first ≤ t.last := fun t ht => ⟨(txn_ok hE ht).f0.1, txns_fl hE t ht⟩
  have hA : aftersV h = afterR (txns h) := by unfold aftersV; rw [if_pos hE]
  have hC : choicesV h = choicesL (txns h) := by unfold choicesV; rw [if_pos hE]
  have hcl := choices_lt hT
  have hcl64 : (choicesL (txns h)).length ≤ 64 := choices_len (bitsN (isSt (txns h) 2) (txns h).length) (bitsN (isSt (txns h) 1) (txns h).length)
  have hal : (afterR (txns h)).length ≤ 6 := by rw [afterR_len1]; exact hT
  have h64 := two6 hT
  have hab : ∀ b ∈ afterR (txns h), b < 2 ^ 32 := fun b hb => by have := afterR_lt hb; omega
  have hcnt := all_count hT
  have hAll := t1140 (afterR (txns h)) hal hab (may_all hT hfl) hcnt
  have hleg : ∀ r ∈ allRows (afterR (txns h)), mayE h (rowI r) = 0 := fun r hr => may_row hE (all_nd hr).1 (all_nd hr).2
  have hexp : expB (txns h) = (choicesL (txns h)).any (expC (txns h)) := rfl
  have hexc : ∀ c, expC (txns h) c = (allRows (afterR (txns h))).any fun r => decide (legalN (txns h) c (rowI r) = r.length) := fun c => rfl
  have hlg : ∀ r C, C < 2 ^ 32 → r ∈ allRows (afterR (txns h)) → Holds Tryd.prog GL 11 [evsA h, intsA (rowI r), U C] [.a (I (legalN (txns h) C (rowI r))), .a (I 0)] := fun r C h32 hr => by
    have := t48 h (rowI r) C h32
    rw [legV, if_pos (hleg r hr), hleg r hr] at this
    exact this
  generalize hT' : txns h = T at *
  (refine rO ?_; repeat' ((with_reducible first | refine rG ?_ | (refine rS ?_ ?_ <;> intro hp) | (refine rB ?_ ?_ <;> intro hb <;> try rw [hb]) | refine rD ?_ | apply c15 | apply c1042 | refine rA ?_ | fail) <;> try simp only [go_sem, simprocAttr, hE, hA, hC]))
  refine call_inl (inl_rows hAll rfl (by simp; omega) fun vals hvl => ?_)
  (refine rO ?_; repeat' ((with_reducible first | refine rG ?_ | (refine rS ?_ ?_ <;> intro hp) | (refine rB ?_ ?_ <;> intro hb <;> try rw [hb]) | refine rD ?_ | refine rA ?_ | fail) <;> try simp only [go_sem, simprocAttr, PBR, List.length_map]))
  have hg := fun (σ : S) (h0 : σ.mem 700000 = some (.log 24 1 (vals.map fun v => [.v v]))) (h1 : σ.mem 700001 = some (.sem (ties 710000 vals))) (hr : ∀ i r, ((allRows (afterR T)).map rowI)[i]? = some r → σ.mem (710000 + i) = some (.log 3 1 (r.map ienc))) => g_rests (e0 := 24) (e1 := 3) hvl (by simp; omega) h0 h1 hr
  refine awp_loopG (fun i σ => i ≤ (choicesL T).length ∧ (∀ q c, q < i → (choicesL T)[q]? = some c → expC T c = false) ∧ σ.regs 0 = .a (evsA h) ∧ σ.regs 8 = .own 700000 ∧ σ.regs 41 = .a (unsA (choicesL T)) ∧ σ.regs 42 = .a (I (choicesL T).length) ∧ σ.regs 43 = .a (I i) ∧ σ.mem 700000 = some (.log 24 1 (rowsDD T))) (fun i => (choicesL T).length - i) 0 ⟨_, (hg _ ?_ ?_ ?_).1, Nat.zero_le _, fun q c hq => by omega, restN_r ?_ (fun _ _ _ => rfl) _, restN_r ?_ (fun _ _ hq => frz_own7 hq) _, restN_r ?_ (fun _ _ _ => rfl) _, restN_r ?_ (fun _ _ _ => rfl) _, restN_r ?_ (fun _ _ _ => rfl) _, (hg _ ?_ ?_ ?_).2⟩ ?_
  · simp only [go_sem, simprocAttr, PBR]
  · simp only [go_sem, simprocAttr, PBR]
  · exact fun i r hr => br_i (by simp; omega) hr
  iterate 5 (· simp only [go_sem, simprocAttr, PBR])
  · simp only [go_sem, simprocAttr, PBR]
  · simp only [go_sem, simprocAttr, PBR]
  · exact fun i r hr => br_i (by simp; omega) hr
  rintro i τ ⟨hi, hno, r0, r8, r41, r42, r43, m7⟩
  have hrl : (rowsDD T).length = (allRows (afterR T)).length := by simp [rowsDD]
  by_cases hil : i < (choicesL T).length
  · have hiI : ((i : Int) < ((choicesL T).length : Int)) = True := eq_true (by omega)
    have hwi := wrap_succ (n := (choicesL T).length) hil (by simp only [maxLen]; omega)
    have hx : (choicesL T)[i]? = some (choicesL T)[i] := List.getElem?_eq_getElem hil
    have hxl := hcl _ (List.getElem_mem hil)
    generalize (choicesL T)[i] = C at hx hxl
    (refine rO ?_; repeat' ((with_reducible first | refine rG ?_ | (refine rS ?_ ?_ <;> intro hp) | (refine rB ?_ ?_ <;> intro hb <;> try rw [hb]) | refine rD ?_ | refine rA ?_ | fail) <;> try simp only [go_sem, simprocAttr, r0, r8, r41, r42, r43, m7, hiI, hx, uenc_eq, hrl, List.length_map]))
    refine awp_loopG (fun j σ => j ≤ (allRows (afterR T)).length ∧ (∀ q r, q < j → (allRows (afterR T))[q]? = some r → decide (legalN T C (rowI r) = r.length) = false) ∧ σ.regs 0 = .a (evsA h) ∧ σ.regs 8 = .own 700000 ∧ σ.regs 11 = .a (U C) ∧ σ.regs 41 = .a (unsA (choicesL T)) ∧ σ.regs 42 = .a (I (choicesL T).length) ∧ σ.regs 43 = .a (I i) ∧ σ.regs 47 = .own 700000 ∧ σ.regs 48 = .a (I (allRows (afterR T)).length) ∧ σ.regs 49 = .a (I j) ∧ σ.mem 700000 = some (.log 24 1 (rowsDD T))) (fun j => (allRows (afterR T)).length - j) 0 ⟨_, Ghost.refl _, Nat.zero_le _, fun q c hq => by omega, ?_, ?_, ?_, ?_, ?_, ?_, ?_, ?_, ?_, ?_⟩ ?_
    iterate 10 (· simp only [go_sem, simprocAttr, r0, r8, r41, r42, r43, m7, hrl, List.length_map])
    rintro j τ2 ⟨hj, hnj, r0, r8, r11, r41, r42, r43, r47, r48, r49, m7⟩
    by_cases hjl : j < (allRows (afterR T)).length
    · have hjI : ((j : Int) < ((allRows (afterR T)).length : Int)) = True := eq_true (by omega)
      have hwj := wrap_succ (n := (allRows (afterR T)).length) hjl (by simp only [maxLen]; omega)
      have hy : (allRows (afterR T))[j]? = some (allRows (afterR T))[j] := List.getElem?_eq_getElem hjl
      have hyl := hlg _ C hxl.2 (List.getElem_mem hjl)
      generalize (allRows (afterR T))[j] = r at hy hyl
      have hyd : (rowsDD T)[j]? = some [.sl ((rowI r).map ienc)] := by simp [rowsDD, hy]
      (refine rO ?_; repeat' ((with_reducible first | refine rG ?_ | (refine rS ?_ ?_ <;> intro hp) | (refine rB ?_ ?_ <;> intro hb <;> try rw [hb]) | refine rD ?_ | refine rA ?_ | fail) <;> try simp only [go_sem, simprocAttr, r0, r8, r11, r41, r42, r43, r47, r48, r49, m7, hjI, hyd, hwj]))
      refine call_dat hyl ?_
      (refine rO ?_; repeat' ((with_reducible first | refine rG ?_ | (refine rS ?_ ?_ <;> intro hp) | (refine rB ?_ ?_ <;> intro hb <;> try rw [hb]) | refine rD ?_ | refine rA ?_ | fail) <;> try simp only [go_sem, simprocAttr, r0, r8, r11, r41, r42, r43, r47, r48, r49, m7, hjI, hyd, hwj, List.length_map, rowI_len]))
      · rw [hexp]
        have h1 : expC T C = true := by
          rw [hexc, List.any_eq_true]
          exact ⟨r, List.mem_of_getElem? hy, decide_eq_true (by omega)⟩
        rw [List.any_eq_true.2 ⟨C, List.mem_of_getElem? hx, h1⟩]
      · refine ⟨_, j + 1, Ghost.refl _, ⟨hjl, fun q r' hq hr' => ?_, ?_, ?_, ?_, ?_, ?_, ?_, ?_, ?_, ?_, ?_⟩, by omega⟩
        · rcases Nat.lt_succ_iff_lt_or_eq.1 hq with h1 | rfl
          · exact hnj q r' h1 hr'
          · rw [hy] at hr'; cases hr'; exact decide_eq_false (by omega)
        iterate 10 (· simp only [go_sem, simprocAttr, r0, r8, r11, r41, r42, r43, r47, r48, r49, m7, hwj])
    · have hjI : ((j : Int) < ((allRows (afterR T)).length : Int)) = False := eq_false (by omega)
      (refine rO ?_; repeat' ((with_reducible first | refine rG ?_ | (refine rS ?_ ?_ <;> intro hp) | (refine rB ?_ ?_ <;> intro hb <;> try rw [hb]) | refine rD ?_ | refine rA ?_ | fail) <;> try simp only [go_sem, simprocAttr, r0, r8, r11, r41, r42, r43, r47, r48, r49, m7, hjI, hwi]))
      refine ⟨_, i + 1, Ghost.refl _, ⟨hil, fun q c hq hc => ?_, ?_, ?_, ?_, ?_, ?_, ?_⟩, by omega⟩
      · rcases Nat.lt_succ_iff_lt_or_eq.1 hq with h1 | rfl
        · exact hno q c h1 hc
        · rw [hx] at hc; cases hc
          rw [hexc, List.any_eq_false]
          intro r hr
          obtain ⟨q, hq'⟩ := List.getElem?_of_mem hr
          rw [hnj q r (by have := (List.getElem?_eq_some_iff.1 hq').1; omega) hq']; decide
      iterate 6 (· simp only [go_sem, simprocAttr, r0, r8, r41, r42, r43, m7, hwi])
  · have hiI : ((i : Int) < ((choicesL T).length : Int)) = False := eq_false (by omega)
    (refine rO ?_; repeat' ((with_reducible first | refine rG ?_ | (refine rS ?_ ?_ <;> intro hp) | (refine rB ?_ ?_ <;> intro hb <;> try rw [hb]) | refine rD ?_ | refine rA ?_ | fail) <;> try simp only [go_sem, simprocAttr, r0, r8, r41, r42, r43, m7, hiI]))
    rw [hexp]
    symm
    rw [List.any_eq_false]
    intro c hc
    obtain ⟨q, hq⟩ := List.getElem?_of_mem hc
    rw [hno q c (by have := (List.getElem?_eq_some_iff.1 hq).1; omega) hq]; decide
theorem srch_s1 {T : List Txn} {who B : Nat} : ∀ (L : List Nat) (st : Nat), st ≤ B → (srchN T who B L st).s ≤ B
  | [], st, h => h
  | c :: cs, st, h => by
    have := found_s T who c (B - st)
    simp only [srchN]
    split
    · exact srch_s1 cs _ (by omega)
    · show st + _ ≤ B; omega
theorem srchF_v {h : List Ev} {n : Int} (hM : maySE h n = 0) : ((srchF h n).s : Int) ≤ n ∧ (((srchF h n).v = 0) ∨ ((srchF h n).v = 1 ∧ (srchF h n).c = 0 ∧ (srchF h n).row = [] ∧ expB (txns h) = false) ∨ ((srchF h n).v = 2 ∧ (srchF h n).c = 0 ∧ (srchF h n).row = [] ∧ ((srchF h n).s : Int) = n ∧ n < 125184)) := by
  obtain ⟨hE, h0, h1⟩ := mayS_ok hM
  have hT := txns_len6 h
  have e : srchF h n = srchN (txns h) (allN (txns h)) n.toNat (choicesL (txns h)) 0 := by rw [srchF, if_pos hM]
  rw [e]
  have hs := srch_s1 (T := txns h) (who := allN (txns h)) (B := n.toNat) (choicesL (txns h)) 0 (Nat.zero_le _)
  refine ⟨by omega, ?_⟩
  rcases srch_v (T := txns h) (who := allN (txns h)) (B := n.toNat) (choicesL (txns h)) 0 with hv | ⟨hv, hc, hr, hn⟩ | ⟨hv, hc, hr, ha⟩
  · exact .inl hv
  · refine .inr (.inl ⟨hv, hc, hr, ?_⟩)
    unfold expB
    rw [List.any_eq_false]
    intro c hcm hex
    obtain ⟨B', hB'⟩ := hn c hcm
    unfold expC at hex
    obtain ⟨r, hr, hl⟩ := List.any_eq_true.1 hex
    have hleg := leg_iff.1 (of_decide_eq_true hl)
    obtain ⟨hg, hb⟩ := all_good hr hleg
    have h2 : 1 ≤ 2 ^ (txns h).length := Nat.one_le_two_pow
    have hw : allN (txns h) < 2 ^ (txns h).length := by unfold allN; omega
    have hln := good_len hw hg
    unfold foundF at hB'
    cases hx : goF (txns h) (allN (txns h)) c B' ((txns h).length + 1) [] 0 with
    | ret s' => exact goF_no hw _ [] r 0 s' (by omega) leg_nil hg (by simpa using hb) hx
    | fin v r' s' =>
      rw [hx] at hB'
      have := goF_ok (T := txns h) (who := allN (txns h)) (C := c) (B := B') ((txns h).length + 1) [] 0 (Nat.zero_le _)
      rw [hx] at this
      rcases this.2 with rfl | rfl
      · simp [Out.fnd] at hB'
      · simp [Out.fnd] at hB'
  · refine .inr (.inr ⟨hv, hc, hr, ?_, ?_⟩)
    · have := ha (Nat.zero_le _)
      omega
    · rcases Int.lt_or_le n 125184 with hlt | hge
      · exact hlt
      · have hcl : (choicesL (txns h)).length ≤ 64 := choices_len (bitsN (isSt (txns h) 2) (txns h).length) (bitsN (isSt (txns h) 1) (txns h).length)
        exact absurd hv (srch_many hT _ _ (by omega))
theorem srchF_more {h : List Ev} {n n' : Int} (hM : maySE h n = 0) (hM' : maySE h n' = 0) (hnn : n ≤ n') (hv : (srchF h n).v ≠ 2) : srchF h n' = srchF h n := by
  have e : srchF h n = srchN (txns h) (allN (txns h)) n.toNat (choicesL (txns h)) 0 := by rw [srchF, if_pos hM]
  have e' : srchF h n' = srchN (txns h) (allN (txns h)) n'.toNat (choicesL (txns h)) 0 := by rw [srchF, if_pos hM']
  rw [e] at hv ⊢
  rw [e']
  exact srch_more (by omega) _ _ hv
theorem srchF_yes {h : List Ev} {n : Int} (hM : maySE h n = 0) (hv : (srchF h n).v = 0) : (srchF h n).c ∈ choicesL (txns h) ∧ (srchF h n).c < 2 ^ 32 ∧ kepV h (rowI (srchF h n).row) = true ∧ kepE h (rowI (srchF h n).row) = 0 ∧
    mayE h (rowI (srchF h n).row) = 0 ∧ legalN (txns h) (srchF h n).c (rowI (srchF h n).row) = (txns h).length ∧ (srchF h n).row.length = (txns h).length := by
  obtain ⟨hE, h0, h1⟩ := mayS_ok hM
  have hT := txns_len6 h
  rw [srchF, if_pos hM] at hv ⊢
  obtain ⟨C, hCm, B', hf, hc, hr⟩ := srch_yes (choicesL (txns h)) 0 hv
  obtain ⟨_, hg, hb⟩ := found_row hf
  rw [← hr] at hg hb
  rw [hc]
  generalize (srchN (txns h) (allN (txns h)) n.toNat (choicesL (txns h)) 0).row = row at *
  have hnd : row.Nodup := by simpa using good_nodup row [] hg List.nodup_nil
  have hrn : ∀ k ∈ row, k < (txns h).length := fun k hk => by
    have h1 := row_all hb k
    rw [show row.contains k = true by simpa using hk] at h1
    exact of_decide_eq_true h1.symm
  have hlen : row.length = (txns h).length := by
    have h2 : (List.range (txns h).length).length ≤ row.length := (List.nodup_range).length_le_of_subset fun k hk => by
      have h1 := row_all hb k
      rw [decide_eq_true (List.mem_range.1 hk)] at h1
      simpa using h1
    have h3 : row.length ≤ (List.range (txns h).length).length := hnd.length_le_of_subset fun k hk => List.mem_range.2 (hrn k hk)
    rw [List.length_range] at h2 h3
    omega
  have hin : (rowI row).all (inT (txns h).length) = true := by
    rw [List.all_eq_true]
    intro x hx
    obtain ⟨k, hk, rfl⟩ := List.mem_map.1 hx
    rw [inT_nat]; exact decide_eq_true (hrn k hk)
  refine ⟨hCm, (choices_lt hT C hCm).2, ?_, ?_, may_row hE hnd hrn, ?_, hlen⟩
  · rw [kepV, decide_eq_true hE, hin, good_keeps hg]; rfl
  · rw [kepE, if_pos hE, if_pos hin]
  · rw [← hlen]
    exact leg_iff.2 (by simpa using good_leg row [] leg_nil hg)
theorem rem_in (m : Int) : 0 ≤ (m.tmod 1000000 + 1000000).tmod 1000000 ∧ (m.tmod 1000000 + 1000000).tmod 1000000 < 1000000 ∧ IntKind.i64.wrap (m.tmod 1000000 + 1000000) = m.tmod 1000000 + 1000000 := by
  have h1 := Int.tmod_lt_of_pos m (show (0 : Int) < 1000000 by decide)
  have h2 : -1000000 < m.tmod 1000000 := by
    have := Int.lt_tmod_of_pos m (show (0 : Int) < 1000000 by decide)
    exact this
  refine ⟨Int.tmod_nonneg _ (by omega), Int.tmod_lt_of_pos _ (by decide), i64_in _ (by omega)⟩
theorem t1018 (h0 : List Ev) (n m : Int) : Holds Tryd.prog GL 3 [evsA h0, I n, I m] [.a (B true)] := by
  refine fn_holds (vs := [.tmp 6]) (by kernel_rfl) Tryd.func3 rfl rfl (by kernel_rfl) (by kernel_rfl) rfl ?_
  have m0 : (0 : Int) ≤ min (h0.length : Int) 65 := by omega
  have m1 : min (h0.length : Int) 65 ≤ (h0.length : Int) := by omega
  have hc : List.take (min (h0.length : Int) 65).toNat (h0.map Ev.enc) = (h0.take 65).map Ev.enc := cutN 65 h0
  generalize h0.take 65 = h at hc
  have hs := t1061 h n
  by_cases hM : maySE h n = 0
  · obtain ⟨hE, hn0, hn1⟩ := mayS_ok hM
    obtain ⟨r0, r1, r2⟩ := rem_in m
    generalize hm' : (m.tmod 1000000 + 1000000).tmod 1000000 = m' at r0 r1
    have hmx : (if n < m' then m' else n) = max n m' := by omega
    have hM' : maySE h (max n m') = 0 := by
      unfold maySE
      rw [if_pos hE, if_pos (by omega)]
    have hs' := t1061 h (max n m')
    obtain ⟨fs, fv⟩ := srchF_v hM
    have fy := srchF_yes hM
    have fm := srchF_more hM hM' (by omega)
    have hT := txns_len6 h
    rw [hM] at hs
    rw [hM'] at hs'
    have hA : aftersV h = afterR (txns h) := by unfold aftersV; rw [if_pos hE]
    have hC : choicesV h = choicesL (txns h) := by unfold choicesV; rw [if_pos hE]
    have hex := t1077 h hE
    have hal : (afterR (txns h)).length = (txns h).length := afterR_len1
    have hsame := t1034 (srchF h n).fd (srchF h n).fd
    rw [sameFd_refl] at hsame
    generalize hF : srchF h n = F at *
    generalize srchF h (max n m') = G at *
    rcases fv with hv | ⟨hv, hfc, hfr, hxp⟩ | ⟨hv, hfc, hfr, hfs, hfn⟩
    · obtain ⟨y1, y2, y3, y4, y5, y6, y7⟩ := fy hv
      obtain rfl : G = F := fm (by omega)
      have hk := t18 h (rowI G.row)
      rw [y3, y4] at hk
      have hl := t48 h (rowI G.row) G.c y2
      rw [legV, if_pos y5, y5, y6] at hl
      have hcon : (choicesL (txns h)).any (fun y => G.c == y) = true := List.any_eq_true.2 ⟨_, y1, by simp⟩
      have hct := t1076 (choicesL (txns h)) G.c
      rw [hcon] at hct
      obtain ⟨v, c, row, s⟩ := G
      dsimp only at hv y7 fs
      subst hv
      have s1 : ((s : Int) > n) = False := eq_false (by omega)
      (refine rO ?_; repeat' ((with_reducible first | refine rG ?_ | (refine rS ?_ ?_ <;> intro hp) | (refine rB ?_ ?_ <;> intro hb <;> try rw [hb]) | refine rD ?_ | refine rA ?_ | fail) <;> try simp only [go_sem, simprocAttr, List.length_map, m0, m1, hc, Int.toNat_zero]))
      refine call_dat hs ?_
      (refine rO ?_; repeat' ((with_reducible first | refine rG ?_ | (refine rS ?_ ?_ <;> intro hp) | (refine rB ?_ ?_ <;> intro hb <;> try rw [hb]) | refine rD ?_ | refine rA ?_ | fail) <;> try simp only [go_sem, simprocAttr, hc, r2, hm', hmx]))
      refine call_dat hs' ?_
      (refine rO ?_; repeat' ((with_reducible first | refine rG ?_ | (refine rS ?_ ?_ <;> intro hp) | (refine rB ?_ ?_ <;> intro hb <;> try rw [hb]) | refine rD ?_ | refine rA ?_ | fail) <;> try simp only [go_sem, simprocAttr, hc, s1]))
      refine call_dat hsame ?_
      (refine rO ?_; repeat' ((with_reducible first | refine rG ?_ | (refine rS ?_ ?_ <;> intro hp) | (refine rB ?_ ?_ <;> intro hb <;> try rw [hb]) | refine rD ?_ | apply c1057 | apply c1042 | refine rA ?_ | fail) <;> try simp only [go_sem, simprocAttr, hc, s1, hE, hA, hC, hal, y7, List.length_map, rowI_len]))
      refine call_dat hk ?_
      (refine rO ?_; repeat' ((with_reducible first | refine rG ?_ | (refine rS ?_ ?_ <;> intro hp) | (refine rB ?_ ?_ <;> intro hb <;> try rw [hb]) | refine rD ?_ | refine rA ?_ | fail) <;> try simp only [go_sem, simprocAttr, hc]))
      refine call_dat hl ?_
      (refine rO ?_; repeat' ((with_reducible first | refine rG ?_ | (refine rS ?_ ?_ <;> intro hp) | (refine rB ?_ ?_ <;> intro hb <;> try rw [hb]) | refine rD ?_ | apply c15 | refine rA ?_ | fail) <;> try simp only [go_sem, simprocAttr, hc, hE, hA, List.length_map, hal, rowI_len, y7]))
      refine call_dat hct ?_
      (refine rO ?_; repeat' ((with_reducible first | refine rG ?_ | (refine rS ?_ ?_ <;> intro hp) | (refine rB ?_ ?_ <;> intro hb <;> try rw [hb]) | refine rD ?_ | refine rA ?_ | fail) <;> try simp only [go_sem, simprocAttr]))
    · obtain rfl : G = F := fm (by omega)
      rw [hxp] at hex
      obtain ⟨v, c, row, s⟩ := G
      dsimp only at hv fs hfc hfr
      subst hv hfc hfr
      have s1 : ((s : Int) > n) = False := eq_false (by omega)
      (refine rO ?_; repeat' ((with_reducible first | refine rG ?_ | (refine rS ?_ ?_ <;> intro hp) | (refine rB ?_ ?_ <;> intro hb <;> try rw [hb]) | refine rD ?_ | refine rA ?_ | fail) <;> try simp only [go_sem, simprocAttr, List.length_map, m0, m1, hc, Int.toNat_zero]))
      refine call_dat hs ?_
      (refine rO ?_; repeat' ((with_reducible first | refine rG ?_ | (refine rS ?_ ?_ <;> intro hp) | (refine rB ?_ ?_ <;> intro hb <;> try rw [hb]) | refine rD ?_ | refine rA ?_ | fail) <;> try simp only [go_sem, simprocAttr, hc, r2, hm', hmx]))
      refine call_dat hs' ?_
      (refine rO ?_; repeat' ((with_reducible first | refine rG ?_ | (refine rS ?_ ?_ <;> intro hp) | (refine rB ?_ ?_ <;> intro hb <;> try rw [hb]) | refine rD ?_ | refine rA ?_ | fail) <;> try simp only [go_sem, simprocAttr, hc, s1]))
      refine call_dat hsame ?_
      (refine rO ?_; repeat' ((with_reducible first | refine rG ?_ | (refine rS ?_ ?_ <;> intro hp) | (refine rB ?_ ?_ <;> intro hb <;> try rw [hb]) | refine rD ?_ | apply c1057 | refine rA ?_ | fail) <;> try simp only [go_sem, simprocAttr, hc, s1]))
      refine call_dat hex ?_
      (refine rO ?_; repeat' ((with_reducible first | refine rG ?_ | (refine rS ?_ ?_ <;> intro hp) | (refine rB ?_ ?_ <;> intro hb <;> try rw [hb]) | refine rD ?_ | refine rA ?_ | fail) <;> try simp only [go_sem, simprocAttr, rowI, List.map_nil, List.length_nil]))
    · obtain ⟨v, c, row, s⟩ := F
      dsimp only at hv fs hfc hfr hfs
      subst hv hfc hfr
      have s1 : ((s : Int) > n) = False := eq_false (by omega)
      have s2 : ((s : Int) = n) = True := eq_true hfs
      have s3 : (n ≥ 125184) = False := eq_false (by omega)
      (refine rO ?_; repeat' ((with_reducible first | refine rG ?_ | (refine rS ?_ ?_ <;> intro hp) | (refine rB ?_ ?_ <;> intro hb <;> try rw [hb]) | refine rD ?_ | refine rA ?_ | fail) <;> try simp only [go_sem, simprocAttr, List.length_map, m0, m1, hc, Int.toNat_zero]))
      refine call_dat hs ?_
      (refine rO ?_; repeat' ((with_reducible first | refine rG ?_ | (refine rS ?_ ?_ <;> intro hp) | (refine rB ?_ ?_ <;> intro hb <;> try rw [hb]) | refine rD ?_ | refine rA ?_ | fail) <;> try simp only [go_sem, simprocAttr, hc, r2, hm', hmx]))
      refine call_dat hs' ?_
      (refine rO ?_; repeat' ((with_reducible first | refine rG ?_ | (refine rS ?_ ?_ <;> intro hp) | (refine rB ?_ ?_ <;> intro hb <;> try rw [hb]) | refine rD ?_ | apply c1057 | refine rA ?_ | fail) <;> try simp only [go_sem, simprocAttr, hc, s1, s2, s3, rowI, List.map_nil, List.length_nil]))
  · have e2 : srchF h n = ⟨0, 0, [], 0⟩ := by rw [srchF, if_neg hM]
    rw [e2] at hs
    (refine rO ?_; repeat' ((with_reducible first | refine rG ?_ | (refine rS ?_ ?_ <;> intro hp) | (refine rB ?_ ?_ <;> intro hb <;> try rw [hb]) | refine rD ?_ | refine rA ?_ | fail) <;> try simp only [go_sem, simprocAttr, List.length_map, m0, m1, hc, Int.toNat_zero]))
    refine call_dat hs ?_
    (refine rO ?_; repeat' ((with_reducible first | refine rG ?_ | (refine rS ?_ ?_ <;> intro hp) | (refine rB ?_ ?_ <;> intro hb <;> try rw [hb]) | refine rD ?_ | apply c1057 | refine rA ?_ | fail) <;> try simp only [go_sem, simprocAttr, hc, hM]))
end Go.VC
end
