/- Part 5 of the texts that stand behind the row: what the statement's functions do, and plain laws. -/
import Derived.RecoverIn
import Derived.Test.YtmdedloggaibjaaDoorP4
set_option maxRecDepth 100000
set_option linter.unusedSimpArgs false
set_option linter.unusedVariables false
set_option linter.unnecessarySimpa false
set_option linter.defProp false
section
set_option maxRecDepth 100000
set_option linter.unusedSimpArgs false
set_option linter.unusedVariables false
namespace Go.VC
open Go.RowKit Go.Proofs
/-- A piece of code by what it does; the deferred calls stay as they are. -/
def SemD (P : Program) (gl : Nat → Option (List D)) (code : Code) (Q : Ex → S → Prop) (σ : S) : Prop :=
  ∀ (c : Cx) (β : Nat → Value) (a : Act) (w : World) (n : Nat), c.P = P → c.gl = gl → c.P.follows .mixedOrders = true → dstOK c.N code = true → Sim c σ β a w → code.wpIn (WF none) n c.P (fun e a' w' => a'.defers = a.defers ∧ Qh c Q e a' w') a w
section
variable {P : Program} {gl : Nat → Option (List D)} {σ : S} {Q : Ex → S → Prop}
theorem sd_skip (h : Q .normal σ) : SemD P gl .skip Q σ := fun c β a w n hP hgl hm hd hs => wpIn_skip ⟨rfl, σ, β, hs, h⟩
theorem sd_seq {x y : Code} (h : SemD P gl x (Ex.then (SemD P gl y Q) Q) σ) : SemD P gl (.seq x y) Q σ := fun c β a w n hP hgl hm hd hs => by
  simp only [dstOK, Bool.and_eq_true] at hd
  refine wpIn_seq (wpIn_mono (h c β a w n hP hgl hm hd.1 hs) fun e a' w' he => ?_)
  obtain ⟨hD, he⟩ := he
  cases e with
  | normal =>
    obtain ⟨σ', β', hs', hk⟩ := he
    exact wpIn_mono (hk c β' a' w' n hP hgl hm hd.2 hs') fun e a2 w2 h2 => ⟨h2.1.trans hD, h2.2⟩
  | exit id => exact ⟨hD, he⟩
  | ret => exact ⟨hD, he⟩
  | goto l => exact ⟨hD, he⟩
  | panic ch => exact ⟨hD, he⟩
  | outgrown => exact he.elim
theorem sd_cond {x : Operand} {y z : Code} {b : Bool} (hb : σ.eval gl x = .a (.d (.v (.bool b)))) (hy : b = true → SemD P gl y Q σ) (hz : b = false → SemD P gl z Q σ) : SemD P gl (.cond x y z) Q σ := fun c β a w n hP hgl hm hd hs => by
  simp only [dstOK, Bool.and_eq_true] at hd
  have hv := hs.eval x
  rw [hgl, hb] at hv
  exact wpIn_cond_split hv.inv_v (fun e => hy e c β a w n hP hgl hm hd.1 hs) (fun e => hz e c β a w n hP hgl hm hd.2 hs)
theorem sd_block {id : Nat} {x : Code} (h : SemD P gl x (Ex.inBlock id Q) σ) : SemD P gl (.block id x) Q σ := fun c β a w n hP hgl hm hd hs => by
  refine wpIn_block (wpIn_mono (h c β a w n hP hgl hm hd hs) fun e a' w' he => ?_)
  obtain ⟨hD, he⟩ := he
  cases e with
  | normal => exact ⟨hD, he⟩
  | exit id' =>
    obtain ⟨σ', β', hs', hk⟩ := he
    simp only [Ex.inBlock] at hk
    simp only [Exit.inBlock]
    split at hk
    · rw [if_pos ‹_›]; exact ⟨hD, σ', β', hs', hk⟩
    · rw [if_neg ‹_›]; exact ⟨hD, σ', β', hs', hk⟩
  | ret => exact ⟨hD, he⟩
  | goto l => exact ⟨hD, he⟩
  | panic ch => exact ⟨hD, he⟩
  | outgrown => exact he.elim
theorem dst_ok {N : Nat} {id : Nat} {ops : Array Oper} {draw : Bool} (hd : dstOK N (.region id ops draw) = true) : ∀ o ∈ ops.toList, ∀ d, o.dst = some d → d < N := fun o ho d hod => by
  have := List.all_eq_true.1 hd o ho
  rw [hod] at this
  simpa using this
theorem sd_region {id : Nat} {l : List Oper} (h : opsA P gl l.toArray l σ (Q .normal)) : SemD P gl (.region id l.toArray false) Q σ := fun c β a w n hP hgl hm hd hs => by
  subst hP; subst hgl
  exact wpIn_region_list (opsA_sound (K := Q .normal) (D := a.defers) (Q := fun e a' w' => a'.defers = a.defers ∧ Qh c Q e a' w') (fun σ β a w hs hD hk => ⟨hD, σ, β, hs, hk⟩) l (by simpa using dst_ok hd) hs rfl h)
theorem sd_draw {id : Nat} {l : List Oper} (h : opsQ P gl l.toArray l σ (Q .normal)) (hok : DrawOk l.toArray := by unfold DrawOk; decide +kernel) : SemD P gl (.region id l.toArray true) Q σ := fun c β a w n hP hgl hm hd hs => by
  subst hP; subst hgl
  simp only [DrawOk, Bool.and_eq_true] at hok
  have := any_lex (K := Q .normal) l 0 true (Array.replicate l.toArray.size false) σ (by simp) hok.2 h
  exact wpIn_region_any hm (anyA_sound (K := Q .normal) (D := a.defers) (Q := fun e a' w' => a'.defers = a.defers ∧ Qh c Q e a' w') (fun σ β a w hs hD hk => ⟨hD, σ, β, hs, hk⟩) (dst_ok hd) l.toArray.size _ (hs.drawn _) rfl (by simpa using this))
theorem sd_lag {id : Nat} {ops : Array Oper} (hB : lagB ops = true) (h : opsL P gl ops ops.toList 0 σ (Q .normal)) : SemD P gl (.region id ops true) Q σ := by
  intro c β a w n hP hgl hm hdN hs
  subst hP; subst hgl
  refine wpIn_region_any hm (lag_sound (K := Q .normal) (D := a.defers) (Q := fun e a' w' => a'.defers = a.defers ∧ Qh c Q e a' w') hB (fun σ β a w hs hD hk => ⟨hD, σ, β, hs, hk⟩) (dst_ok hdN) ops.size ops.toList 0 _ (by simp) (by simp) ?_ ?_ ((hs.drawn _).part rfl rfl rfl fun t => .inr ⟨?_, rfl⟩) rfl h)
  · have : ∀ m, cnt (List.replicate m false) = m := fun m => by simp [cnt]
    simp [this]
  · refine ⟨by simp, fun j _ hj => by simp [hj], fun i o d hi => absurd hi (Nat.not_lt_zero _), fun i o hi => absurd hi (Nat.not_lt_zero _), fun k' j hk' hd => ?_⟩
    have hk : k' < ops.size := by
      rcases Nat.lt_or_ge k' ops.size with h | h
      · exact h
      · simp [Array.getElem?_eq_none, h] at hk'
    obtain ⟨oj, hoj, _⟩ := (lag_at hB (Array.getElem?_eq_getElem hk)).dep j hd
    simp [size_of_at hoj]
  · rw [lagP_else]
    rintro ⟨i, o, hU, _, _⟩
    exact absurd hU.1 (Nat.not_lt_zero _)
theorem sd_drawF {id : Nat} {l : List Oper} (F : List (List Nat)) (hB : (lagB l.toArray && lagFs l.toArray l F 0) = true) (h : opsF P gl l l F σ (Q .normal)) : SemD P gl (.region id l.toArray true) Q σ := by
  rw [Bool.and_eq_true] at hB
  exact sd_lag hB.1 (opsF_L l F 0 hB.2 h)
end
/-- An object that stands for a value of an interface's type: what it holds. -/
def ifaceOb (T : TypeId) (x : A) : SemOb where
  os := []
  p := fun _ st w bv => ∃ v, bv = .iface T v ∧ RelA st w v x
  lt := fun h b hb => by obtain ⟨v, rfl, _⟩ := h; cases hb
  mono := fun H h _ => by obtain ⟨v, e, hr⟩ := h; exact ⟨v, e, hr.mono H⟩
  dep := fun _ h => h
section
variable {P : Program} {gl : Nat → Option (List D)} {σ : S} {K : S → Prop} {dst : Option Tmp} {ty : TypeId} {pos : String} {after : Array Edge} {g : Option (Nat × Bool)}
theorem run_eq_iface {w : World} {d : Nat} {t : TypeId} {ms : Array (String × TypeId)} {T : TypeId} {v : Value} (ht : P.underlying t = some (.interface ms)) : (Op.equalIn (d + 1) t (.iface T v) .nilIface).run P w = .ok false w := by
  simp only [Op.equalIn, Sem.run_bind, run_under ht, Result.andThen_ok]
  rfl
theorem run_eq_nil {w : World} {d : Nat} {t : TypeId} {ms : Array (String × TypeId)} (ht : P.underlying t = some (.interface ms)) : (Op.equalIn (d + 1) t .nilIface .nilIface).run P w = .ok true w := by
  simp only [Op.equalIn, Sem.run_bind, run_under ht, Result.andThen_ok]
  rfl
/-- It is not nil. -/
theorem sem_if_nil {ms : Array (String × TypeId)} {t t' q : Nat} (ht : P.underlying t = some (.interface ms)) {x : Operand} {T : TypeId} {y : A} (hx : σ.eval gl x = .own q) (hm : σ.mem q = some (.sem (ifaceOb T y))) (hk : K (σ.put dst (.a (.d (.v (.bool false)))))) : SemOp P gl ⟨dst, .binOp .eql t x (.const .nilIface) t', ty, pos, after, g⟩ σ K := by
  intro c β a w hP hgl hs hd
  subst hP; subst hgl
  have hv := (hx ▸ hs.eval x).inv_own
  obtain ⟨v, hb, hr⟩ := hs.obj _ _ hm
  rw [hb] at hv
  refine Run.val (v := .bool false) (w' := w) (fun _ e => by cases e) ?_ ⟨_, β, hk, hs.put hd (.a (.v rfl))⟩
  have hr := run_eq_iface (P := c.P) (w := w) (d := 9999) (T := T) (v := v) ht
  have hn : a.eval (.const .nilIface) = .nilIface := rfl
  simp [execOp, hv, hn, eqGuard, binOp, Op.equal, Op.maxDepth, hr]
theorem sem_nil_nil {ms : Array (String × TypeId)} {t t' : Nat} (ht : P.underlying t = some (.interface ms)) {x : Operand} (hx : σ.eval gl x = .a (.d (.v .nilIface))) (hk : K (σ.put dst (.a (.d (.v (.bool true)))))) : SemOp P gl ⟨dst, .binOp .eql t x (.const .nilIface) t', ty, pos, after, g⟩ σ K := by
  intro c β a w hP hgl hs hd
  subst hP; subst hgl
  have hv := (hx ▸ hs.eval x).inv_v
  refine Run.val (v := .bool true) (w' := w) (fun _ e => by cases e) ?_ ⟨_, β, hk, hs.put hd (.a (.v rfl))⟩
  have hr := run_eq_nil (P := c.P) (w := w) (d := 9999) ht
  have hn : a.eval (.const .nilIface) = .nilIface := rfl
  simp [execOp, hv, hn, eqGuard, binOp, Op.equal, Op.maxDepth, hr]
/-- What it holds. -/
theorem sem_assert {q tI T : Nat} {x : Operand} {y : A} {offs : List (Nat × Nat × Bool)} (hT : tk P T = .struct offs) (hx : σ.eval gl x = .own q) (hm : σ.mem q = some (.sem (ifaceOb T y))) (hk : K (σ.put dst (.tp [.a y, .a (.d (.v (.bool true)))]))) : SemOp P gl ⟨dst, .typeAssert x tI T true, ty, pos, after, g⟩ σ K := by
  intro c β a w hP hgl hs hd
  subst hP; subst hgl
  have hv := (hx ▸ hs.eval x).inv_own
  obtain ⟨v, hb, hr⟩ := hs.obj _ _ hm
  rw [hb] at hv
  obtain ⟨fs, hu, _⟩ := tk_struct hT
  have hrun : (Instr.typeAssert (.iface T v) tI T true).run c.P w = .ok (.tuple #[v, .bool true]) w := by
    simp only [Instr.typeAssert, Sem.run_bind, run_under hu, Result.andThen_ok, if_true]
    rfl
  refine Run.val (v := .tuple #[v, .bool true]) (w' := w) (fun _ e => by cases e) ?_ ⟨_, β, hk, hs.put hd (.tp (vs := [v, .bool true]) rfl fun j u r hu hr' => ?_)⟩
  · simp [execOp, hv, hrun]
  · match j with
    | 0 => simp at hu hr'; subst hu; subst hr'; exact .a hr
    | 1 => simp at hu hr'; subst hu; subst hr'; exact .a (.v rfl)
    | j + 2 => simp at hu
end
section
variable {c : Cx} {σ : S} {β : Nat → Value} {a : Act} {w : World}
/-- Other deferred calls below. -/
def cxDf (c : Cx) (df : List Deferred) : Cx := { c with df := df }
theorem Sim.redf {df : List Deferred} {a' : Act} (h : Sim c σ β a w) (ht : a'.tmps = a.tmps) (hd : a'.defers = df) : Sim (cxDf c df) σ β a' w := by
  obtain ⟨Ds, _, m⟩ := h.df
  exact ⟨h.keep, by rw [ht]; exact h.size, ⟨[], (by rw [hd]; rfl), (List.nodup_append.1 m.nd).2.1, fun D hD => m.ok D (List.mem_append_right _ hD)⟩, h.ext, h.obj, h.blk, h.dis, fun t => by rw [ht]; exact h.reg t, h.env⟩
theorem enter_st {N : Nat} {rs : List R} {Ds : List Nat} {vs : List Value} : ∀ b, stF c σ β w b → stF (cxIn c N Ds) (S.enter vs rs σ) (βIn β) w b ∧ w.heap[b]? = w.heap[b]? := fun b hb => ⟨⟨hb.1, hb.2.1, fun o x hx => by
    rcases enter_at hx with ⟨rfl, _⟩ | ⟨o', y, rfl, hy, _⟩
    · simp [βIn, undef_own]
    · rw [βIn_add]; exact hb.2.2.1 o' y hy, hb.2.2.2⟩, rfl⟩
/-- A frame leaves by its marks, down to the deferred calls below. -/
theorem marks_outD {n : Nat} {fn : Func} {R : Ending → World → Prop} {u : FrameMode} (hu : u ≠ .run) : ∀ (Ds : List Nat) {a : Act} {w : World}, Sim c σ β a w → a.defers = Ds.map markD ++ c.df → MarksOk c σ β w (Ds ++ c.M) →
    (∀ a' w', a'.tmps = a.tmps → a'.defers = c.df → Sim c σ β a' w' → (∀ b, stF c σ β w b → stF c σ β w' b ∧ w'.heap[b]? = w.heap[b]?) → LeavesInM Fence.wide n c.P fn a'.tmps R c.df u w') → LeavesInM Fence.wide n c.P fn a.tmps R (Ds.map markD ++ c.df) u w
  | [], a, w, hs, hd, hm, hR => hR a w rfl hd hs fun b hb => ⟨hb, rfl⟩
  | D :: Ds, a, w, hs, hd, hm, hR => by
    obtain ⟨h1, h2, h3⟩ := hm.ok D (by simp)
    have hlt := lt_of_some h2
    have hnd := hm.nd
    simp only [List.cons_append, List.nodup_cons] at hnd
    refine ⟨hu, .inl ⟨D, w.putObj D (.deferred none), rfl, run_takeDeferred h2, ?_⟩⟩
    have ho : ∀ k, k ≠ D → (w.putObj D (.deferred none)).heap[k]? = w.heap[k]? := fun k hk => World.putObj_heap_other hk
    have hk : Keep (fun b => b = D) w (w.putObj D (.deferred none)) := ⟨rfl, rfl, rfl, by simp [World.putObj], fun k _ hk => ho k hk⟩
    have H : ∀ b, stF c σ β w b → stF c σ β (w.putObj D (.deferred none)) b ∧ (w.putObj D (.deferred none)).heap[b]? = w.heap[b]? := fun b hb => by
      have hne : b ≠ D := fun e => hb.2.2.2 _ (e ▸ h2)
      exact ⟨⟨Nat.lt_of_lt_of_le hb.1 hk.size, hb.2.1, hb.2.2.1, hb.2.2.2.same (ho b hne)⟩, ho b hne⟩
    have hm' : MarksOk c σ β (w.putObj D (.deferred none)) (Ds ++ c.M) := ⟨hnd.2, fun D' hD' => by
      obtain ⟨g1, g2, g3⟩ := hm.ok D' (by simp only [List.cons_append, List.mem_cons]; exact .inr hD')
      exact ⟨g1, (ho D' fun e => hnd.1 (e ▸ hD')).trans g2, g3⟩⟩
    exact marks_outD hu Ds (a := { a with defers := Ds.map markD ++ c.df }) (w := w.putObj D (.deferred none))
      ⟨hs.keep.trans hk (fun j e hj => by omega), hs.size, ⟨Ds, rfl, hm'⟩, c.hE H hs.ext, fun o x hx => (hs.obj o x hx).mono H fun b hb => ho b fun e => h3 o x hx (e ▸ hb), hs.blk, hs.dis, fun t => (hs.reg t).mono H, hs.env.mono H⟩
      rfl hm' fun a' w' h1 h2 h3 h4 => hR a' w' h1 h2 h3 fun b hb => ⟨(h4 b (H b hb).1).1, (h4 b (H b hb).1).2.trans (H b hb).2⟩
end
/-- The end of a deferred closure's body. -/
noncomputable def postC (vs : List Value) (K : S → Prop) : Ex → S → Prop
  | .normal, σ | .ret, σ => fvOf (σ.mem 999999) = some vs ∧ K σ.leave
  | _, _ => False
/-- What is known of a panic. -/
def PanOk (c : Cx) (σ : S) (β : Nat → Value) (w : World) (u : FrameMode) (p : Option (TypeId × A)) : Prop := match p with
  | none => u = .returning
  | some (T, x) => ∃ v, u = .panicking [{ v := .iface T v, recovered := false }] ∧ RelA (stF c σ β w) w v x
/-- A deferred closure's state behind 'recover'. -/
noncomputable def S.recov (σ : S) (d : Tmp) : Option (TypeId × A) → S
  | none => σ.put (some d) (.a (.d (.v .nilIface)))
  | some (T, x) => (σ.newOb 999990 (.sem (ifaceOb T x))).put (some d) (.own 999990)
/-- A deferred closure that asks 'recover' first. -/
theorem closD {P : Program} {gl : Nat → Option (List D)} {f : FuncId} {fn : Func} {y : Code} {id : Nat} {d : Tmp} {ty : TypeId} {pos : String} {after : Array Edge} {rs : List R} {σ : S} {K : S → Prop} {p : Option (TypeId × A)} {at_ : Array TypeId} (hm : P.follows .mixedOrders = true)
    (hf : P.funcs[f]? = some fn) (hb : fn.body = some (.seq (.region id #[⟨some d, .call { callee := .builtin .recover, args := #[], argTypes := at_ }, ty, pos, after, none⟩] false) y)) (hres : fn.results = #[]) (hd : dstOK fn.ntmps y = true) (hdn : d < fn.ntmps) (hN : decide (rs.length ≤ fn.ntmps) = true)
    (h : ∀ vs, SemD P gl y (postC vs K) ((S.enter vs rs σ).recov d p))
    {c : Cx} {β : Nat → Value} {a : Act} {w : World} {vs : List Value} {u : FrameMode} {n : Nat} (hP : c.P = P) (hgl : c.gl = gl) (hs : Sim c σ β a w) (hv : F2 (RelR β (stF c σ β w) w) vs rs) (hp : PanOk c σ β w u p) :
    CallsDIn Fence.wide n P f vs.toArray u w fun e u' w' => ∃ v, e = .returned v ∧ settle u' = .returning ∧ ∃ σ' β', Sim c σ' β' a w' ∧ K σ' := by
  subst hP; subst hgl
  refine callsDIn_of_wpSIn hf hb trivial fun c₀ cs hu => wpSIn_seq (wpSIn_region ?_)
  obtain ⟨Ds, hds, hM⟩ := hs.df
  have hs1 := enter_sim hs hM hv (N := fn.ntmps) (by simpa using hN)
  have hst := enter_st (c := c) (σ := σ) (β := β) (w := w) (N := fn.ntmps) (rs := rs) (Ds := Ds) (vs := a.tmps.toList)
  -- what is done behind 'recover'
  have main : ∀ (v : Value) (m : FrameMode), settle m = .returning → (∃ β1, Sim (cxIn c fn.ntmps Ds) ((S.enter a.tmps.toList rs σ).recov d p) β1 (({ tmps := vs.toArray ++ Array.replicate (fn.ntmps - vs.toArray.size) undef, defers := [] } : Act).put (some d) v) w) →
      (Exit.thenS (y.wpSIn Fence.wide n c.P (bodyPostS c.P fn c₀ cs fun e u' w' => ∃ v, e = .returned v ∧ settle u' = .returning ∧ ∃ σ' β', Sim c σ' β' a w' ∧ K σ')) (bodyPostS c.P fn c₀ cs fun e u' w' => ∃ v, e = .returned v ∧ settle u' = .returning ∧ ∃ σ' β', Sim c σ' β' a w' ∧ K σ')) .normal (({ tmps := vs.toArray ++ Array.replicate (fn.ntmps - vs.toArray.size) undef, defers := [] } : Act).put (some d) v) ({ c₀ with mode := m } :: cs) w := by
    rintro v m hmode ⟨β1, hs2⟩
    refine wpSIn_of_wpIn rfl (wpIn_mono (h a.tmps.toList (cxIn c fn.ntmps Ds) β1 _ w n rfl rfl hm hd hs2) fun e a' w' he => ?_)
    obtain ⟨hD, he⟩ := he
    have hD : a'.defers = [] := hD
    have out : ∀ σ' β', Sim (cxIn c fn.ntmps Ds) σ' β' a' w' → postC a.tmps.toList K .ret σ' → bodyPostS c.P fn c₀ cs (fun e u' w' => ∃ v, e = .returned v ∧ settle u' = .returning ∧ ∃ σ' β', Sim c σ' β' a w' ∧ K σ') .ret a' ({ c₀ with mode := m } :: cs) w' := by
      rintro σ' β' hs' ⟨hfv, hk⟩
      obtain ⟨rs', hfr⟩ : ∃ rs', σ'.mem 999999 = some (.frame a.tmps.toList rs') := by
        unfold fvOf at hfv
        split at hfv
        · rename_i vs' rs' e; cases hfv; exact ⟨rs', e⟩
        · cases hfv
      obtain ⟨hl, _⟩ := leave_sim (a := a) hs' hfr hs.size hds
      refine ⟨hD, m, rfl, .tuple #[], ?_, .tuple #[], rfl, hmode, _, _, hl, hk⟩
      have e1 : results fn a'.tmps = (do let vs ← fn.results.mapM (resG a'.tmps); pure (if h : vs.size = 1 then vs[0] else .tuple vs)) := rfl
      have e2 : (fn.results.mapM (resG a'.tmps)).run c.P w' = .ok #[] w' := by rw [hres]; simp
      rw [e1, Sem.run_bind, e2, Result.andThen_ok]
      rfl
    cases e with
    | normal => obtain ⟨σ', β', hs', hk⟩ := he; exact out σ' β' hs' hk
    | ret => obtain ⟨σ', β', hs', hk⟩ := he; exact out σ' β' hs' hk
    | exit id => obtain ⟨σ', β', hs', hk⟩ := he; exact hk.elim
    | goto l => exact he.elim
    | panic ch => obtain ⟨_, _, _, _, _, _, _, _, hk⟩ := he; exact hk.elim
    | outgrown => exact he.elim
  have hrun : ∀ ev : Operand → Value, (execOp ev ⟨some d, .call { callee := .builtin .recover, args := #[], argTypes := at_ }, ty, pos, after, none⟩).run c.P w = .ok .recover w := fun ev => by
    simp [execOp, resolve, invoke, builtin]
  cases p with
  | none =>
    have hp : u = .returning := hp
    subst hp
    have e0 : recoverD (c₀ :: cs) = none := by simp [recoverD, hu]
    rw [show List.range (#[(⟨some d, .call { callee := .builtin .recover, args := #[], argTypes := at_ }, ty, pos, after, none⟩ : Oper)]).size = [0] from rfl]
    simp only [wpOpsSIn, List.getElem?_toArray, List.getElem?_cons_zero, wanted_none, if_true]
    refine ⟨fun _ _ => trivial, ?_⟩
    rw [hrun]
    simp only [e0]
    have hc0 : ({ c₀ with mode := .returning } : Frame) = c₀ := by rw [← hu]
    have hq := hs1.put (dst := some d) (r := .a (.d (.v .nilIface))) (v := .nilIface) (fun d' e => by cases e; exact hdn) (.a (show Rd _ _ _ _ from .v rfl))
    have := main .nilIface .returning rfl ⟨_, hq⟩
    rw [hc0] at this
    exact this
  | some q =>
    obtain ⟨T, x⟩ := q
    obtain ⟨v, rfl, hr⟩ := hp
    have e0 : recoverD (c₀ :: cs) = some (.iface T v, { c₀ with mode := .panicking [{ v := .iface T v, recovered := true }] } :: cs) := by simp [recoverD, hu]
    rw [show List.range (#[(⟨some d, .call { callee := .builtin .recover, args := #[], argTypes := at_ }, ty, pos, after, none⟩ : Oper)]).size = [0] from rfl]
    simp only [wpOpsSIn, List.getElem?_toArray, List.getElem?_cons_zero, wanted_none, if_true]
    refine ⟨fun _ _ => trivial, ?_⟩
    rw [hrun]
    simp only [e0]
    have hn := hs1.new (o := 999990) (x := .sem (ifaceOb T x)) (bv := .iface T v) (w' := w) ⟨rfl, rfl, rfl, Nat.le_refl _, fun _ _ _ => rfl⟩ (fun b hb => by cases hb) ⟨v, rfl, (hr.mono hst).mono fun b hb => ⟨st_new (Nat.le_refl _) (fun b hb => rfl) (fun b hb => by cases hb) hb, rfl⟩⟩
    have hq := hn.put (dst := some d) (r := .own 999990) (v := .iface T v) (fun d' e => by cases e; exact hdn) (.own (by simp [upd]) rfl)
    exact main (.iface T v) (.panicking [{ v := .iface T v, recovered := true }]) rfl ⟨_, hq⟩
end Go.VC
end
section
set_option maxRecDepth 100000
set_option linter.unusedSimpArgs false
set_option linter.unusedVariables false
namespace Go.VC
open Go.RowKit Go.Proofs
theorem CallsDIn.mono' {F : Fence} {n : Nat} {P : Program} {f : FuncId} {args : Array Value} {u : FrameMode} {w : World} {R R' : Ending → FrameMode → World → Prop} (h : CallsDIn F n P f args u w R) (k : ∀ e u' w', R e u' w' → R' e u' w') : CallsDIn F n P f args u w R' :=
  ⟨h.1, fun c cs hu hr => let ⟨e, u', w', fr, hR, rest⟩ := h.2 c cs hu hr; ⟨e, u', w', fr, k _ _ _ hR, rest⟩⟩
/-- What the deferred closure must do, behind the body that returned (none) or panicked. -/
def ClosK (P : Program) (gl : Nat → Option (List D)) (y : Code) (dg : Tmp) (caps : List (Nat × Nat)) (K5 : S → Prop) (p : Option (TypeId × A)) (σ : S) : Prop :=
  ∀ vs', SemD P gl y (postC vs' K5) ((S.enter vs' (caps.map fun c => .ref c.1 c.2) σ).recov dg p)
/-- How the body behind the 'defer' may end. -/
def postX (cvs : List Value) (caps : List (Nat × Nat)) (cl : Option (TypeId × A) → S → Prop) : Ex → S → Prop
  | .normal, σ => (∃ rs, σ.mem 999991 = some (.frame cvs rs) ∧ ∀ (j : Nat) (c : Nat × Nat), caps[j]? = some c → rs j = .ref c.1 c.2) ∧ cl none σ
  | .panic t r, σ => (∃ rs, σ.mem 999991 = some (.frame cvs rs) ∧ ∀ (j : Nat) (c : Nat × Nat), caps[j]? = some c → rs j = .ref c.1 c.2) ∧ ∃ x, r = .a x ∧ cl (some (t, x)) σ
  | _, _ => False
def capsR (caps : List (Nat × Nat)) (t : Nat) : R := match caps[t]? with
  | some c => .ref c.1 c.2
  | none => .any
/-- What a function with a deferred closure tells, when the closure is done. -/
noncomputable def endDf (P : Program) (vs : List Value) (t : Tmp) (T : TypeId) (K : S → List R → Prop) (σ : S) : Prop :=
  fvOf (σ.mem 999999) = some vs ∧ ∃ o off r, σ.regs t = .ref o off ∧ loadR P σ T (.ref o off) = some r ∧ K σ.leave [r.down]
theorem inl_defer {P : Program} {gl : Nat → Option (List D)} {f g : FuncId} {fn gn : Func} {x0 x2 y : Code} {rs : List R} {t : Tmp} {T : TypeId} {σ : S} {K : S → List R → Prop} {caps : List (Nat × Nat)} {cl : List Operand} {d dg : Tmp} {id idg : Nat} {k : Call} {ty ty' tyg : TypeId} {pos pos' posg : String} {after after' afterg : Array Edge} {at_ : Array TypeId} (hm : P.follows .mixedOrders = true)
    (hf : P.funcs[f]? = some fn) (hb : fn.body = some (.seq x0 (.seq (.region id #[⟨some d, .makeFunc (.func g) #[] cl.toArray, ty, pos, after, none⟩, ⟨none, .defer k, ty', pos', after', none⟩] false) (.seq x2 .ret)))) (hk : k.callee = .value (.tmp d)) (hka : k.args = #[]) (hres : fn.results = #[.cell t T]) (hname : (fn.name == "runtime.NumGoroutine") = false) (hd : dstOK fn.ntmps x0 = true) (hdd : d < fn.ntmps) (hd2 : dstOK fn.ntmps x2 = true) (hN : decide (rs.length ≤ fn.ntmps) = true)
    (hg : P.funcs[g]? = some gn) (hgb : gn.body = some (.seq (.region idg #[⟨some dg, .call { callee := .builtin .recover, args := #[], argTypes := at_ }, tyg, posg, afterg, none⟩] false) y)) (hgres : gn.results = #[]) (hgd : dstOK gn.ntmps y = true) (hgdn : dg < gn.ntmps) (hgN : decide (caps.length ≤ gn.ntmps) = true) (hgname : (gn.name == "runtime.NumGoroutine") = false)
    (hc9 : ∀ c ∈ caps, c.1 ≠ 999991)
    (h : ∀ vs, SemD P gl x0 (fun e σ1 => e = .normal ∧ cl.map (σ1.eval gl) = caps.map (fun c => .ref c.1 c.2) ∧ ∀ cvs, SemCode P gl x2 (postX cvs caps (ClosK P gl y dg caps (endDf P vs t T K))) ((σ1.put (some d) (.clo g caps)).newOb 999991 (.frame cvs (capsR caps)))) (S.enter vs rs σ)) : Inl P gl f rs σ K := by
  refine ⟨⟨fn, hf, by rw [hb]; rfl, hname⟩, fun c β a w vs hP hgl hs hv => ?_⟩
  subst hP; subst hgl
  have h := h a.tmps.toList
  rw [← callsIn_wide (n := 0)]
  refine callsIn_of_wp_marks hf hb trivial ?_
  obtain ⟨Ds, hds, hM⟩ := hs.df
  refine wpIn_seq (wpIn_mono (h (cxIn c fn.ntmps Ds) _ _ _ 0 rfl rfl hm hd (enter_sim hs hM hv (by simpa using hN))) fun e a1 w1 he => ?_)
  obtain ⟨hD1, he⟩ := he
  have hD1 : a1.defers = [] := hD1
  cases e with
  | exit id => obtain ⟨_, _, _, hk⟩ := he; cases hk.1
  | ret => obtain ⟨_, _, _, hk⟩ := he; cases hk.1
  | goto l => exact he.elim
  | panic ch => obtain ⟨_, _, _, _, _, _, _, _, hk⟩ := he; cases hk.1
  | outgrown => exact he.elim
  | normal =>
  obtain ⟨σ1, β1, hs1, _, hcaps, hx2⟩ := he
  show Code.wpIn _ _ _ (.seq _ _) _ _ _
  refine wpIn_seq (wpIn_region_list ?_)
  simp only [wpListIn, wanted_none (o := ⟨some d, .makeFunc (.func g) #[] cl.toArray, ty, pos, after, none⟩) rfl, if_true]
  refine sem_clo (P := c.P) (gl := c.gl) (K := fun σ' => σ' = σ1.put (some d) (.clo g caps)) hcaps rfl (cxIn c fn.ntmps Ds) β1 a1 w1 rfl rfl hs1 (fun d' e => by cases e; exact hdd) none 0 _ _ ?_
  rintro v w2 ⟨σ2, β2, rfl, hs2⟩
  have hsz : d < a1.tmps.size := by rw [hs1.size]; exact hdd
  have htd : (a1.put (some d) v).tmps.getD d undef = v := by simp [Act.put, hsz]
  have hrv := hs2.reg d
  rw [show (a1.put (some d) v).tmps.getD d undef = v from htd, show (σ1.put (some d) (.clo g caps)).regs d = .clo g caps by simp [S.put, upd]] at hrv
  obtain ⟨cvs, rfl, hcv⟩ : ∃ cvs : List Value, v = .func (.func g) #[] cvs.toArray ∧ F2 (fun v c => ∃ b, β2 c.1 = .pointer (some ⟨b, 0, none⟩) ∧ v = .pointer (some ⟨b, c.2, none⟩)) cvs caps := by
    cases hrv with
    | clo hl => exact ⟨_, rfl, hl⟩
  have hev : (a1.put (some d) (.func (.func g) #[] cvs.toArray)).eval (.tmp d) = .func (.func g) #[] cvs.toArray := htd
  simp only [wanted_none (o := ⟨none, .defer k, ty', pos', after', none⟩) rfl, if_true]
  refine ⟨fun _ _ => trivial, ?_⟩
  have hdef : (Oper.semAt Fence.wide.round (a1.put (some d) (.func (.func g) #[] cvs.toArray)).eval ⟨none, .defer k, ty', pos', after', none⟩).run c.P w2 = .ok (.defer { target := .fn (.func g) cvs.toArray, args := #[] }) w2 := by
    rw [show Fence.wide.round = none from rfl, Oper.semAt_none]
    simp [execOp, resolve, hk, hka, hev, Deferred.ofValue]
  rw [hdef]
  have hs3 := Sim.redf (df := [{ target := .fn (.func g) cvs.toArray, args := #[] }]) (a' := { (a1.put (some d) (.func (.func g) #[] cvs.toArray)) with defers := { target := .fn (.func g) cvs.toArray, args := #[] } :: (a1.put (some d) (.func (.func g) #[] cvs.toArray)).defers }) hs2 rfl (by
    show _ :: a1.defers = _
    rw [hD1])
  generalize hc2 : cxDf (cxIn c fn.ntmps Ds) [{ target := .fn (.func g) cvs.toArray, args := #[] }] = c2 at hs3
  have hs4 := hs3.new (o := 999991) (x := .frame cvs (capsR caps)) (bv := undef) (w' := w2) ⟨rfl, rfl, rfl, Nat.le_refl _, fun _ _ _ => rfl⟩ (fun b hb => by simp [undef_own] at hb) ⟨undef_own, fun j => by
    unfold capsR
    split
    · rename_i cp hcp
      obtain ⟨u, hu, b, hb, rfl⟩ := hcv.get hcp
      rw [List.getD_eq_getElem?_getD, hu]
      refine .ref (b := b) ?_
      rw [show upd β2 999991 undef cp.1 = β2 cp.1 by simp [upd, hc9 cp (List.mem_of_getElem? hcp)]]
      exact hb
    · exact .any⟩
  have hc2P : c2.P = c.P := by rw [← hc2]; rfl
  have hc2g : c2.gl = c.gl := by rw [← hc2]; rfl
  have hc2N : c2.N = fn.ntmps := by rw [← hc2]; rfl
  have hc2d : c2.df = [{ target := .fn (.func g) cvs.toArray, args := #[] }] := by rw [← hc2]; rfl
  -- the closure is called
  have leave : ∀ (p : Option (TypeId × A)) (u : FrameMode) (σ3 : S) (β3 : Nat → Value) (a3 : Act) (w3 : World), u ≠ .run → Sim c2 σ3 β3 a3 w3 → PanOk c2 σ3 β3 w3 u p →
      (∃ rs, σ3.mem 999991 = some (.frame cvs rs) ∧ ∀ (j : Nat) (c : Nat × Nat), caps[j]? = some c → rs j = .ref c.1 c.2) → ClosK c.P c.gl y dg caps (endDf c.P a.tmps.toList t T K) p σ3 →
      LeavesInM Fence.wide 0 c.P fn a3.tmps (fun e w' => ∃ (us : List Value) (rs' : List R) (σ' : S) (β' : Nat → Value), e = .returned (retV us) ∧ Sim c σ' β' a w' ∧ F2 (RelR β' (stF c σ' β' w') w') us rs' ∧ K σ' rs') a3.defers u w3 := by
    intro p u σ3 β3 a3 w3 hu hs3 hpan hfr hcl
    obtain ⟨Ds3, hds3, hM3⟩ := hs3.df
    rw [hds3, ← hc2P]
    refine marks_outD hu Ds3 hs3 hds3 hM3 fun a4 w4 ht4 hd4 hs4 hH => ?_
    rw [hc2d]
    have hvs : F2 (RelR β3 (stF c2 σ3 β3 w4) w4) cvs (caps.map fun c => .ref c.1 c.2) := by
      obtain ⟨rs3, hfr, hrs⟩ := hfr
      obtain ⟨_, hfr⟩ := hs4.obj _ _ hfr
      refine ⟨by rw [List.length_map]; exact hcv.1, fun j u r hu hr => ?_⟩
      rw [List.getElem?_map] at hr
      obtain ⟨cp, hcp, rfl⟩ := Option.map_eq_some_iff.1 hr
      have := hfr j
      rw [hrs j cp hcp, List.getD_eq_getElem?_getD, hu] at this
      exact this
    have hpan4 : PanOk c2 σ3 β3 w4 u p := by
      cases p with
      | none => exact hpan
      | some q => obtain ⟨v, e, hr⟩ := hpan; exact ⟨v, e, hr.mono hH⟩
    refine ⟨hu, .inr ⟨fun h => by simp [Fence.wide] at h, .func g, cvs.toArray, g, (#[] ++ cvs.toArray : Array Value), rfl, ?_, fun _ _ => trivial, ?_⟩⟩
    · simp only [invoke]
      exact funcs_run ⟨gn, by rw [hc2P]; exact hg, by rw [hgb]; rfl, hgname⟩
    · have hca : (#[] ++ cvs.toArray : Array Value) = cvs.toArray := by simp
      rw [hca, hc2P]
      refine CallsDIn.mono' (closD (n := 0 - 1) hm hg hgb hgres hgd hgdn (by simpa using hgN) hcl hc2P hc2g hs4 hvs hpan4) fun e u' w' hq => ?_
      obtain ⟨v, rfl, hset, σ5, β5, hs5, hfv, o5, off5, r5, hr5, hl5, hk5⟩ := hq
      show LeavesInM _ _ _ _ _ _ [] (settle u') w'
      rw [hset]
      have hs6 := Sim.redf (df := []) (a' := { a4 with defers := [] }) hs5 rfl rfl
      rw [show cxDf c2 [] = cxIn c fn.ntmps Ds by rw [← hc2]; rfl] at hs6
      obtain ⟨rs', hfr'⟩ : ∃ rs', σ5.mem 999999 = some (.frame a.tmps.toList rs') := by
        unfold fvOf at hfv
        split at hfv
        · rename_i vs' rs' e; cases hfv; exact ⟨rs', e⟩
        · cases hfv
      obtain ⟨hl, hst⟩ := leave_sim (a := a) hs6 hfr' hs.size hds
      have hβ : ∀ o, 1000000 ≤ o → (fun o => β5 (upId o)) (o - 1000000) = β5 o := fun o ho => congrArg β5 (upId_of ho)
      obtain ⟨val, hrun, hrel⟩ := load_run (p := .tmp t) hs6 (show loadR (cxIn c fn.ntmps Ds).P σ5 T (σ5.eval _ (.tmp t)) = some r5 by rw [show σ5.eval (cxIn c fn.ntmps Ds).gl (.tmp t) = σ5.regs t from rfl, hr5]; exact hl5)
      have hpt := hs6.reg t
      rw [hr5] at hpt
      obtain ⟨b, _, hpt⟩ := hpt.inv_ref
      have hrg : (resG a4.tmps (.cell t T)).run c.P w' = .ok val w' := by
        have h1 : ({ a4 with defers := [] } : Act).eval (.tmp t) = .pointer (some ⟨b, off5, none⟩) := hpt
        have h2 : a4.tmps.getD t undef = .pointer (some ⟨b, off5, none⟩) := hpt
        rw [h1] at hrun
        have hrun : (loadVar T ⟨b, off5, none⟩).run (cxIn c fn.ntmps Ds).P w' = .ok val w' := by simpa [Instr.loadAt, Instr.sureAddr] using hrun
        simp only [resG, h2, asAddr, Sem.run_bind, Sem.run_pure, Result.andThen_ok]
        exact hrun
      refine ⟨val, ?_, [val], [r5.down], _, _, rfl, hl, F2.cons (RelR.down (β' := fun o => β5 (upId o)) hβ (hrel.mono hst)) F2.nil, hk5⟩
      have e1 : results fn a4.tmps = (do let vs ← fn.results.mapM (resG a4.tmps); pure (if h : vs.size = 1 then vs[0] else .tuple vs)) := rfl
      have e2 : (fn.results.mapM (resG a4.tmps)).run c.P w' = .ok (fn.results.toList.map (resV c.P a4.tmps w')).toArray w' := run_mapM_arr _ (resV c.P a4.tmps w') fun v hv => by
        rw [hres] at hv
        simp only [List.mem_singleton, Array.mem_toList_iff, Array.mem_singleton] at hv
        subst hv
        rw [resV_of hrg]; exact hrg
      rw [e1, Sem.run_bind, e2, Result.andThen_ok, hres]
      show Result.ok (resV c.P a4.tmps w' (.cell t T)) w' = _
      rw [resV_of hrg]
  show Code.wpIn _ _ _ (.seq x2 .ret) _ _ _
  have hx := hx2 cvs c2 _ _ _ none 0 hc2P hc2g (by rw [hc2P]; exact hm) (by rw [hc2N]; exact hd2) (.inl rfl) hs4
  rw [hc2P] at hx
  refine wpIn_seq (wpIn_mono hx fun e a3 w3 he => ?_)
  cases e with
  | exit id => obtain ⟨_, _, _, hk⟩ := he; exact hk.elim
  | ret => obtain ⟨_, _, _, hk⟩ := he; exact hk.elim
  | goto l => exact he.elim
  | outgrown => exact he.elim
  | normal =>
    obtain ⟨σ3, β3, hs3', hfr, hcl⟩ := he
    exact wpIn_ret (leave none .returning σ3 β3 a3 w3 (by simp) hs3' rfl hfr hcl)
  | panic ch =>
    obtain ⟨σ3, β3, t3, v3, r3, rfl, hs3', hr3, hfr, x3, rfl, hcl⟩ := he
    exact leave (some (t3, x3)) (.panicking [{ v := .iface t3 v3, recovered := false }]) σ3 β3 a3 w3 (by simp) hs3' ⟨v3, rfl, by cases hr3 with | a h => exact h⟩ hfr hcl
end Go.VC
end
section
set_option maxRecDepth 100000
set_option linter.unusedSimpArgs false
set_option linter.unusedVariables false
set_option linter.unnecessarySimpa false
namespace Go.VC
open Go.RowKit Go.Proofs Go.IntWalk
def andN (a b : Nat) : Nat := a ^^^ (a &&& b)
theorem andN_bit (a b i : Nat) : (andN a b).testBit i = (a.testBit i && !b.testBit i) := by
  rw [andN, Nat.testBit_xor, Nat.testBit_and]; cases a.testBit i <;> cases b.testBit i <;> rfl
theorem andN_lt {a b : Nat} (ha : a < 2 ^ 32) : andN a b < 2 ^ 32 := Nat.xor_lt_two_pow ha (Nat.lt_of_le_of_lt Nat.and_le_left ha)
theorem u32_andn {a b : Nat} (ha : a < 2 ^ 32) (hb : b < 2 ^ 32) : andnK .u32 a b = ((andN a b : Nat) : Int) := by
  show IntKind.u32.wrap (BitVec.ofInt 32 (a : Int) &&& ~~~ BitVec.ofInt 32 (b : Int)).toNat = _
  have e : (BitVec.ofInt 32 (a : Int) &&& ~~~ BitVec.ofInt 32 (b : Int)) = BitVec.ofNat 32 (andN a b) := by
    rw [BitVec.ofInt_natCast, BitVec.ofInt_natCast]
    refine BitVec.eq_of_getLsbD_eq fun i hi => ?_
    simp only [BitVec.getLsbD_and, BitVec.getLsbD_not, BitVec.getLsbD_ofNat, andN_bit, hi, decide_true, Bool.true_and]
  have hl := andN_lt (a := a) (b := b) ha
  have e2 : (BitVec.ofInt 32 (a : Int) &&& ~~~ BitVec.ofInt 32 (b : Int)).toNat = andN a b := by
    rw [e, BitVec.toNat_ofNat, Nat.mod_eq_of_lt hl]
  rw [show (BitVec.ofInt 32 (a : Int) &&& ~~~BitVec.ofInt 32 (b : Int)).toNat = andN a b from e2]
  exact u32_in _ (by omega)
/-- The bits of a row of places. -/
def rowB (row : List Nat) : Nat := row.foldl (fun b k => b ||| 2 ^ k) 0
theorem rowB_s (row : List Nat) (k : Nat) : rowB (row ++ [k]) = rowB row ||| 2 ^ k := by simp [rowB]
theorem rowB_bit : ∀ (row : List Nat) (i : Nat), (rowB row).testBit i = row.contains i := by
  have : ∀ (row : List Nat) (b i : Nat), (row.foldl (fun b k => b ||| 2 ^ k) b).testBit i = (b.testBit i || row.contains i) := by
    intro row
    induction row with
    | nil => intro b i; simp
    | cons k row ih =>
      intro b i
      rw [List.foldl_cons, ih, Nat.testBit_or, Nat.testBit_two_pow, List.contains_cons, Bool.or_assoc]
      congr 2
      by_cases h : k = i
      · simp [h]
      · have : ¬ i = k := fun e => h e.symm
        simp [h, this]
  intro row i
  rw [rowB, this]; simp
theorem rowB_lt {row : List Nat} {n : Nat} (h : ∀ k ∈ row, k < n) (hn : n ≤ 30) : rowB row < 2 ^ 32 := by
  refine Nat.lt_pow_two_of_testBit _ fun i hi => ?_
  rw [rowB_bit]
  cases hc : row.contains i with
  | false => rfl
  | true => have := h i (by simpa using hc); omega
def rowI (row : List Nat) : List Int := row.map fun (k : Nat) => (k : Int)
inductive Out where
  | ret (s : Nat)
  | fin (v : Nat) (row : List Nat) (s : Nat)
def freeR (T : List Txn) (who : Nat) (row : List Nat) (k : Nat) : Bool := (List.range T.length).all fun i => !(who.testBit i && !row.contains i && beforeB T i k)
def mayGo (T : List Txn) (who : Nat) (row : List Nat) (k : Nat) : Bool := who.testBit k && !row.contains k && freeR T who row k
def goStep (T : List Txn) (who C B : Nat) (rec : List Nat → Nat → Out) (row : List Nat) (o : Out) (k : Nat) : Out := match o with
  | .fin v r s => .fin v r s
  | .ret s => if mayGo T who row k = true then (if s = B then .fin 2 [] s else if legalN T C (rowI (row ++ [k])) = row.length + 1 then rec (row ++ [k]) (s + 1) else .ret (s + 1)) else .ret s
def goF (T : List Txn) (who C B : Nat) : Nat → List Nat → Nat → Out
  | 0, row, s => .ret s
  | f + 1, row, s => if rowB row = who then .fin 0 row s else (List.range T.length).foldl (goStep T who C B (goF T who C B f) row) (.ret s)
abbrev seaD (h : List Ev) (T : List Txn) (who C l s : Int) : List D := [.sl (h.map Ev.enc), .sl ((afterR T).map uenc), .v (.int .u32 who), .v (.int .u32 C), dI l, dI s]
def freeAt (T : List Txn) (who : Nat) (row : List Nat) (k i : Nat) : Bool := !(who.testBit i && !row.contains i && beforeB T i k)
theorem nx_all {p : Nat → Bool} {k : Nat} (hl : ∀ i, i < k → p i = true) (hb : p k = true) : ∀ i, i < k + 1 → p i = true := fun i hi => by
  by_cases h : i = k
  · subst h; exact hb
  · exact hl i (by omega)
theorem t1229 (h : List Ev) (T : List Txn) (who : Nat) (C l s : Int) (row : List Nat) (k : Nat) (hT : T.length ≤ 30) (hw : who < 2 ^ 32) (hr : ∀ k ∈ row, k < T.length) (hk : k < T.length) :
    Holds Tryd.prog GL 116 [.d (.pt (seaD h T who C l s)), U (rowB row), I k] [.a (B (freeR T who row k))] := by
  refine fn_holds (vs := [.tmp 6]) (by kernel_rfl) Tryd.func116 rfl rfl (by kernel_rfl) (by kernel_rfl) rfl ?_
  have hal := afterR_len T
  have hin := rowB_lt hr hT
  have hfr : freeR T who row k = (List.range T.length).all (freeAt T who row k) := rfl
  (refine rO ?_; repeat' ((with_reducible first | refine rG ?_ | (refine rS ?_ ?_ <;> intro hp) | (refine rB ?_ ?_ <;> intro hb <;> try rw [hb]) | refine rD ?_ | refine rA ?_ | fail) <;> try simp only [go_sem, simprocAttr, List.length_map]))
  refine awp_loopA (fun i : Nat => [(0, .a (.d (.pt (seaD h T who C l s)))), (1, .a (U (rowB row))), (2, .a (I k)), (12, .a (unsA (afterR T))), (13, .a (I (afterR T).length)), (14, .a (I i))]) (fun _ => []) (fun i => i ≤ T.length ∧ ∀ q, q < i → freeAt T who row k q = true) (T.length - ·) 0 ?_ ?_ ⟨Nat.zero_le _, fun i hi => by omega⟩ ?_
  · simp only [go_sem, simprocAttr, List.length_map]
  · simp only [go_sem, simprocAttr]
  intro i j ⟨hi, hq⟩
  (refine rO ?_; repeat' ((with_reducible first | refine rG ?_ | (refine rS ?_ ?_ <;> intro hp) | (refine rB ?_ ?_ <;> intro hb <;> try rw [hb]) | refine rD ?_ | refine rA ?_ | fail) <;> try simp only [go_sem, simprocAttr, hal]))
  · have hil : i < T.length := by omega
    have hwi := wrap_succ (n := T.length) hil (by simp only [maxLen]; omega)
    have hx := afterR_at hil
    have hb0 : freeAt T who row k i = !(who.testBit i && !row.contains i && beforeB T i k) := rfl
    have hbi : (bitsN (beforeB T i) T.length).testBit k = beforeB T i k := by rw [bitsN_test, decide_eq_true hk, Bool.true_and]
    have hb32 := bits32 (beforeB T i) (n := T.length) (by omega)
    generalize bitsN (beforeB T i) T.length = b at hx hbi hb32
    have h1 := u32_andn hw hin
    have hA := andN_lt (b := rowB row) hw
    have hbA : (andN who (rowB row)).testBit i = (who.testBit i && !row.contains i) := by rw [andN_bit, rowB_bit]
    generalize andN who (rowB row) = A at h1 hA hbA
    have h2 := u32_bit (k := i) hA
    have h3 := u32_bit (k := k) hb32
    rw [hbA] at h2
    rw [hbi] at h3
    generalize (who.testBit i && !row.contains i) = c1 at h2 hb0
    generalize beforeB T i k = c2 at h3 hb0
    have s1 := u32_shr (b := A) (k := i) (by omega)
    have s2 := u32_shr (b := b) (k := k) (by omega)
    cases c1 with
    | false =>
      simp only [Bool.false_eq_true, if_false] at h2
      (refine rO ?_; repeat' ((with_reducible first | refine rG ?_ | (refine rS ?_ ?_ <;> intro hp) | (refine rB ?_ ?_ <;> intro hb <;> try rw [hb]) | refine rD ?_ | refine rA ?_ | fail) <;> try simp only [go_sem, simprocAttr, hx, uenc_eq, h1, s1, h2, hwi]))
      (refine ⟨i + 1, ?_, ?_, ⟨hil, nx_all hq hb0⟩, by dsimp only; omega⟩ <;> simp only [go_sem, simprocAttr, hwi])
    | true =>
      simp only [if_true] at h2
      cases c2 with
      | false =>
        simp only [Bool.false_eq_true, if_false] at h3
        (refine rO ?_; repeat' ((with_reducible first | refine rG ?_ | (refine rS ?_ ?_ <;> intro hp) | (refine rB ?_ ?_ <;> intro hb <;> try rw [hb]) | refine rD ?_ | refine rA ?_ | fail) <;> try simp only [go_sem, simprocAttr, hx, uenc_eq, h1, s1, h2, s2, h3, hwi]))
        (refine ⟨i + 1, ?_, ?_, ⟨hil, nx_all hq hb0⟩, by dsimp only; omega⟩ <;> simp only [go_sem, simprocAttr, hwi])
      | true =>
        simp only [if_true] at h3
        (refine rO ?_; repeat' ((with_reducible first | refine rG ?_ | (refine rS ?_ ?_ <;> intro hp) | (refine rB ?_ ?_ <;> intro hb <;> try rw [hb]) | refine rD ?_ | refine rA ?_ | fail) <;> try simp only [go_sem, simprocAttr, hx, uenc_eq, h1, s1, h2, s2, h3, hwi]))
        rw [hfr]; symm
        rw [List.all_eq_false]
        exact ⟨i, List.mem_range.2 hil, by rw [hb0]; decide⟩
  · have : (List.range T.length).all (freeAt T who row k) = true := by
      rw [List.all_eq_true]; intro q hqm; exact hq q (by have := List.mem_range.1 hqm; omega)
    rw [hfr, this]
theorem t138 (r : List Int) : Holds Tryd.prog GL 117 [intsA r] [.clip (r.map ienc)] := by
  refine fn_holds (vs := [.tmp 2]) (by kernel_rfl) Tryd.func117 rfl rfl (by kernel_rfl) (by kernel_rfl) rfl ?_
  have ht : List.take r.length (List.map ienc r) = List.map ienc r := List.take_of_length_le (by simp)
  (refine rO ?_; repeat' ((with_reducible first | refine rG ?_ | (refine rS ?_ ?_ <;> intro hp) | (refine rB ?_ ?_ <;> intro hb <;> try rw [hb]) | refine rD ?_ | refine rA ?_ | fail) <;> try simp only [go_sem, simprocAttr, List.length_map, ht, Int.le_refl]))
end Go.VC
end
section
set_option maxRecDepth 100000
set_option linter.unusedSimpArgs false
set_option linter.unusedVariables false
set_option linter.unnecessarySimpa false
namespace Go.VC
open Go.RowKit Go.Proofs Go.IntWalk
section
variable {Bd : Nat} {vs : List Value} {n : Nat} {σ0 τ : S}
theorem KeepsB.put {d : Option Tmp} {r : R} (h : KeepsB Bd vs n σ0 τ) : KeepsB Bd vs n σ0 (τ.put d r) := by
  cases d <;> exact ⟨h.fr, h.ob⟩
theorem KeepsB.new {d : Nat} {x : Ob} (hd : decide (d < 999999) = true) (h : KeepsB Bd vs n σ0 τ) : KeepsB Bd vs n σ0 (τ.newOb d x) := by
  have h0 := of_decide_eq_true hd
  have hd1 : decide (d < 1000000) = true := decide_eq_true (by omega)
  have h9 : (d == 999999) = false := by simp; omega
  refine ⟨by simp only [go_sem, simprocAttr, PI, hd1, h.fr, h9], fun o x h1 h2 h3 => ?_⟩
  have h5 := h.ob o x h1 h2 h3
  simp only [go_sem, simprocAttr, PI, hd1, h5, okill_lo (of_decide_eq_true hd1)]
theorem KeepsB.set {d : Nat} {x : Ob} (hd : decide (d < 999999) = true) (h : KeepsB Bd vs n σ0 τ) : KeepsB Bd vs n σ0 (τ.setOb d x) := by
  have h0 := of_decide_eq_true hd
  have hd1 : decide (d < 1000000) = true := decide_eq_true (by omega)
  have h9 : (d == 999999) = false := by simp; omega
  refine ⟨by simp only [go_sem, simprocAttr, PI, hd1, h.fr, h9], fun o x h1 h2 h3 => ?_⟩
  have h5 := h.ob o x h1 h2 h3
  simp only [go_sem, simprocAttr, PI, hd1, h5]
theorem KeepsB.setU {x : Ob} (h : KeepsB Bd vs n σ0 τ) : KeepsB Bd vs n σ0 (τ.setOb (upId n) x) := by
  refine ⟨by simp only [go_sem, simprocAttr, PI, h.fr], fun o x h1 h2 h3 => ?_⟩
  have h5 := h.ob o x h1 h2 h3
  have h6 : (n == o) = false := Bool.beq_comm.trans h1
  simp only [go_sem, simprocAttr, PI, h5, h1, h6]
theorem ofrz_lo {x : Ob} {d : Nat} {f : Nat → D} (h : d < 1000000) : x.up.frz d f = x.up := by
  cases x with
  | box cs =>
    simp only [Ob.up, Ob.frz, List.map_map]
    congr 1
    exact List.map_congr_left fun r _ => frz_up_lo h
  | log e z xs => rfl
  | mpo kv => rfl
  | iter kv seen => rfl
  | frame vs rs => simp only [Ob.up, Ob.frz]; congr 1; funext t; exact frz_up_lo h
  | sem x =>
    simp only [Ob.up, Ob.frz, SemOb.up]
    rw [any_up1 h]; rfl
  | lost => rfl
theorem KeepsB.frz {d : Nat} {f : Nat → D} (hd : decide (d < 999999) = true) (h : KeepsB Bd vs n σ0 τ) : KeepsB Bd vs n σ0 (τ.frz d f) := by
  have h0 := of_decide_eq_true hd
  have hd1 : d < 1000000 := by omega
  have hu : ∀ {o}, ¬ upId o = d := fun {o} e => by have := upId_le o; omega
  refine ⟨?_, fun o x h1 h2 h3 => ?_⟩
  · simp only [S.frz]; rw [if_neg (by omega), h.fr, Option.map_some, ff_lo (decide_eq_true hd1)]
  · simp only [S.frz]; rw [if_neg hu, h.ob o x h1 h2 h3, Option.map_some, ofrz_lo hd1]
theorem KeepsB.left {B' : Nat} {σ' : S} (h : KeepsB Bd vs n σ0 τ) (hB : Bd + 1000000 ≤ B') (hL : LeftB B' (upId n) τ σ') : KeepsB Bd vs n σ0 σ' := by
  refine ⟨hL.m (by have := upId_le n; simp; omega) (decide_eq_true (by omega)) h.fr up_frame, fun o x h1 h2 h3 => ?_⟩
  have := of_decide_eq_true h2
  have := upId_eq o
  exact hL.m (by simp only [go_sem, simprocAttr, PI, h1]) (decide_eq_true (by omega)) (h.ob o x h1 h2 h3) (up_obj x)
end
theorem KeepsB.leave {Bd : Nat} {vs : List Value} {n : Nat} {σ0 τ : S} (hB : Bd ≤ 900000000) (h : KeepsB Bd vs n σ0 τ) : LeftB Bd n σ0 τ.leave :=
  ⟨fun {t r} ht hr => by rw [lv_r, h.fr, lv_f, ht]; exact hr, fun {o x} h1 h2 h3 h4 => by rw [lv_m (loB hB h2), h.ob o x h1 h2 h3]; exact congrArg some h4⟩
theorem KeepsB.enter {Bd : Nat} {vs : List Value} {n : Nat} {rs : List R} {σ : S} (hB : Bd ≤ 900000000) : KeepsB Bd vs n σ (S.enter vs rs σ) :=
  ⟨me_f, fun o x h1 h2 h3 => by rw [me_hi (loB hB h2), h3]; rfl⟩
theorem callQ_own {P : Program} {gl : Nat → Option (List D)} {σ : S} {f : FuncId} {rs : List R} {KR : R → Prop} (ys zs : List A) (h : Holds P gl f ys (zs.map Rv.a)) (ha : argsA σ rs = some ys) (hf : zs.all A.flat = true) (k : KR (retR zs)) : callVQ P gl f rs σ KR := callQ_flat h ha hf k
theorem foldl_range_s {α : Type} (g : α → Nat → α) (a : α) (k : Nat) : (List.range (k + 1)).foldl g a = g ((List.range k).foldl g a) k := by rw [List.range_succ, List.foldl_append]; rfl
def Bd (f : Nat) : Nat := 900000000 - f * 1000000
abbrev seaR (h : List Ev) (T : List Txn) (who C B s : Nat) : List R := [.a (evsA h), .a (unsA (afterR T)), .a (U who), .a (U C), .a (I ((B : Int) - (s : Int))), .a (I s)]
theorem fold_fin {T : List Txn} {who C B : Nat} {rec : List Nat → Nat → Out} {row row' : List Nat} {v s' : Nat} {a : Out} {k n : Nat} (hk : k < n) (h : (List.range (k + 1)).foldl (goStep T who C B rec row) a = .fin v row' s') : (List.range n).foldl (goStep T who C B rec row) a = .fin v row' s' := by
  induction n with
  | zero => omega
  | succ n ih =>
    by_cases e : k = n
    · subst e; exact h
    · rw [foldl_range_s, ih (by omega)]; rfl
theorem may_row {h : List Ev} (hE : checkE h = 0) {row : List Nat} (hnd : row.Nodup) (hin : ∀ k ∈ row, k < (txns h).length) : mayE h (rowI row) = 0 := by
  rw [mayE, if_pos hE, if_pos, if_pos]
  · simp only [noDup, List.drop_zero, List.all_eq_true, List.mem_range, Bool.not_eq_true']
    intro i hi
    rw [rowI, List.length_map] at hi
    simp only [dupAt, rowI, List.getElem?_map, List.getElem?_eq_getElem hi, Option.map_some, ← List.map_take, List.any_map, List.any_eq_false, Function.comp, beq_iff_eq]
    intro y hy e
    have hyi : y = row[i] := by omega
    subst hyi
    obtain ⟨j, hj, hje⟩ := List.mem_iff_getElem.1 hy
    rw [List.length_take] at hj
    rw [List.getElem_take] at hje
    rw [List.nodup_iff_pairwise_ne, List.pairwise_iff_getElem] at hnd
    exact hnd j i (by omega) hi (by omega) hje
  · rw [List.all_eq_true]
    intro x hx
    obtain ⟨k, hk, rfl⟩ := List.mem_map.1 hx
    rw [inT_nat]; exact decide_eq_true (hin k hk)
structure FrI (vs : List Value) (σ0 : S) (o : Nat) (h : List Ev) (T : List Txn) (who C B f : Nat) (row : List Nat) (s0 : Nat) (k : Nat) (τ : S) : Prop where
  le : k ≤ T.length
  r0 : τ.regs 0 = .ref (upId o) 0
  r1 : τ.regs 1 = .a (intsA (rowI row))
  r2 : τ.regs 2 = .a (U (rowB row))
  r23 : τ.regs 23 = .a (I T.length)
  r24 : τ.regs 24 = .a (I k)
  st : ∃ s, (List.range k).foldl (goStep T who C B (goF T who C B f) row) (.ret s0) = .ret s ∧ s ≤ B ∧ τ.mem (upId o) = some (.box (seaR h T who C B s))
  kp : KeepsB (Bd (f + 1)) vs o σ0 τ
theorem from_inl (h : List Ev) (hE : checkE h = 0) (who C B : Nat) (hw : who < 2 ^ (txns h).length) (hC : C < 2 ^ 32) (hB : B ≤ 1000000) : ∀ (f : Nat) (row : List Nat) (s : Nat) {σ : S} {o : Nat} {K : S → List R → Prop} {KP : TypeId → R → S → Prop},
    f ≤ 10 → row.length + f = (txns h).length + 1 → row.Nodup → (∀ k ∈ row, k < (txns h).length) → s ≤ B → decide (o < Bd f) = true → σ.mem o = some (.box (seaR h (txns h) who C B s)) →
    (∀ s' σ', goF (txns h) who C B f row s = .ret s' → s' ≤ B → LeftB (Bd f) o σ σ' → σ'.mem o = some (.box (seaR h (txns h) who C B s')) → K σ' []) →
    (∀ v row' s' σ', goF (txns h) who C B f row s = .fin v row' s' → s' ≤ B → LeftB (Bd f) o σ σ' → σ'.mem o = some (.box (seaR h (txns h) who C B s')) → KP 138 (.a (.ag [dI v, .sl ((rowI row').map ienc)])) σ') →
    InlP Tryd.prog GL 90 [.ref o 0, .a (intsA (rowI row)), .a (U (rowB row))] σ K KP := by
  intro f
  induction f with
  | zero =>
    intro row s σ o K KP _ hl hnd hin
    have := nodup_le (txns h).length row hnd hin
    omega
  | succ f ih =>
    intro row s σ o K KP hf hl hnd hin hs ho mo hK hKP
    have hl6 := txns_len6 h
    have hw32 : who < 2 ^ 32 := Nat.lt_of_lt_of_le hw (Nat.pow_le_pow_right (by omega) (by omega))
    have hb32 := rowB_lt hin (by omega)
    have hal := afterR_len (txns h)
    have hoB := of_decide_eq_true ho
    have hBd : Bd (f + 1) + 1000000 = Bd f := by unfold Bd; omega
    have hB9 : Bd (f + 1) ≤ 900000000 := by unfold Bd; omega
    have hO : decide (o < 999000000) = true := decide_eq_true (by omega)
    have hO1 : decide (upId o < 1000000000) = true := up_lt hO
    refine inlP_body (by kernel_rfl) Tryd.func90 rfl rfl (by kernel_rfl) (by kernel_rfl) rfl fun vs => ?_
    have hK0 : KeepsB (Bd (f + 1)) vs o σ (S.enter vs [.ref o 0, .a (intsA (rowI row)), .a (U (rowB row))] σ) := KeepsB.enter hB9
    have hmo : (S.enter vs [.ref o 0, .a (intsA (rowI row)), .a (U (rowB row))] σ).mem (upId o) = some (.box (seaR h (txns h) who C B s)) := by simp only [go_sem, simprocAttr, PI, hO, mo]
    refine sc_seq (sc_seq (sc_awp ?_))
    (refine rO ?_; repeat' ((with_reducible first | refine rG ?_ | (refine rS ?_ ?_ <;> intro hp) | (refine rB ?_ ?_ <;> intro hb <;> try rw [hb]) | refine rD ?_ | refine rA ?_ | fail) <;> try simp only [go_sem, simprocAttr, PI, hO, hO1, mo]))
    · have hdone : rowB row = who := by omega
      refine sc_cond (b := true) (by simp only [go_sem, simprocAttr]) (fun _ => ?_) (fun e => by cases e)
      refine sc_region (raw_cons rfl ?_)
      simp only [go_sem, simprocAttr, PI]
      refine raw_cons rfl ?_
      simp only [go_sem, simprocAttr, PI]
      refine SemOp.old ?_
      simp only [go_sem, simprocAttr, PI, y_build0]
      refine raw_panic (offs := [(0, 1, false), (1, 1, false)]) (r := .a (.ag [dI 0, .sl ((rowI row).map ienc)])) (by kernel_rfl) (by simp only [go_sem, simprocAttr, PI]) ?_
      refine ⟨by simp only [go_sem, simprocAttr, PI]; try rfl, ?_⟩
      refine hKP 0 row s _ (by simp only [goF, hdone, if_true]) hs (KeepsB.leave (vs := vs) hB9 (by repeat' first | exact hK0 | refine KeepsB.put ?_)) ?_
      rw [lv_m hO]
      simp only [go_sem, simprocAttr, PI, hmo, hO, mo]
    · have hdone : ¬ rowB row = who := by omega
      refine sc_cond (b := false) (by simp only [go_sem, simprocAttr]) (fun e => by cases e) (fun _ => ?_)
      refine sc_awp ?_
      (refine rO ?_; repeat' ((with_reducible first | refine rG ?_ | (refine rS ?_ ?_ <;> intro hp) | (refine rB ?_ ?_ <;> intro hb <;> try rw [hb]) | refine rD ?_ | refine rA ?_ | fail) <;> try simp only [go_sem, simprocAttr]))
      refine sc_seq (sc_awp ?_)
      (refine rO ?_; repeat' ((with_reducible first | refine rG ?_ | (refine rS ?_ ?_ <;> intro hp) | (refine rB ?_ ?_ <;> intro hb <;> try rw [hb]) | refine rD ?_ | refine rA ?_ | fail) <;> try simp only [go_sem, simprocAttr, PI, hO, hO1, mo]))
      refine sc_block ?_
      have hgo : goF (txns h) who C B (f + 1) row s = (List.range (txns h).length).foldl (goStep (txns h) who C B (goF (txns h) who C B f) row) (.ret s) := by simp only [goF, if_neg hdone]
      refine sc_loop (FrI vs σ o h (txns h) who C B f row s) ((txns h).length - ·) 0 ⟨_, Ghost.refl _, Nat.zero_le _, ?_, ?_, ?_, ?_, ?_, ⟨s, rfl, hs, ?_⟩, (by repeat' first | exact hK0 | refine KeepsB.put ?_)⟩ ?_
      iterate 5 (· simp only [go_sem, simprocAttr, PI, hal, List.length_map]; try rfl)
      · simp only [go_sem, simprocAttr, PI, hmo, hO, mo]
      intro k τ ⟨hk, r0, r1, r2, r23, r24, ⟨s1, hs1, hsB, m1⟩, kp⟩
      refine sc_seq (sc_awp ?_)
      (refine rO ?_; repeat' ((with_reducible first | refine rG ?_ | (refine rS ?_ ?_ <;> intro hp) | (refine rB ?_ ?_ <;> intro hb <;> try rw [hb]) | refine rD ?_ | refine rA ?_ | fail) <;> try simp only [go_sem, simprocAttr, PI, r23, r24]))
      · have hkl : k < (txns h).length := by omega
        refine sc_seq (sc_awp ?_)
        (refine rO ?_; repeat' ((with_reducible first | refine rG ?_ | (refine rS ?_ ?_ <;> intro hp) | (refine rB ?_ ?_ <;> intro hb <;> try rw [hb]) | refine rD ?_ | refine rA ?_ | fail) <;> try simp only [go_sem, simprocAttr, PI]))
        refine sc_seq (sc_block ?_)
        refine sc_seq (sc_awp ?_)
        (refine rO ?_; repeat' ((with_reducible first | refine rG ?_ | (refine rS ?_ ?_ <;> intro hp) | (refine rB ?_ ?_ <;> intro hb <;> try rw [hb]) | refine rD ?_ | refine rA ?_ | fail) <;> try simp only [go_sem, simprocAttr, PI, r24]))
        have hw1 := wrap_succ (n := (txns h).length) hkl (by simp only [maxLen]; omega)
        refine sc_seq (sc_seq (sc_awp ?_))
        have h1 := u32_andn hw32 hb32
        have hA := andN_lt (b := rowB row) hw32
        have hbA : (andN who (rowB row)).testBit k = (who.testBit k && !row.contains k) := by rw [andN_bit, rowB_bit]
        generalize andN who (rowB row) = A at h1 hA hbA
        have h2 := u32_bit (k := k) hA
        rw [hbA] at h2
        have s1' := u32_shr (b := A) (k := k) (by omega)
        have hst := foldl_range_s (goStep (txns h) who C B (goF (txns h) who C B f) row) (.ret s) k
        rw [hs1] at hst
        have hmg : mayGo (txns h) who row k = ((who.testBit k && !row.contains k) && freeR (txns h) who row k) := rfl
        generalize hcb : (who.testBit k && !row.contains k) = c1 at h2 hmg
        cases c1 with
        | false =>
          simp only [Bool.false_eq_true, if_false] at h2
          (refine rO ?_; repeat' ((with_reducible first | refine rG ?_ | (refine rS ?_ ?_ <;> intro hp) | (refine rB ?_ ?_ <;> intro hb <;> try rw [hb]) | refine rD ?_ | refine rA ?_ | fail) <;> try simp only [go_sem, simprocAttr, PI, r0, r2, r24, m1, h1, s1', h2]))
          refine sc_cond (b := true) (by simp only [go_sem, simprocAttr]) (fun _ => ?_) (fun e => by cases e)
          refine sc_awp ?_
          (refine rO ?_; repeat' ((with_reducible first | refine rG ?_ | (refine rS ?_ ?_ <;> intro hp) | (refine rB ?_ ?_ <;> intro hb <;> try rw [hb]) | refine rD ?_ | refine rA ?_ | fail) <;> try simp only [go_sem, simprocAttr]))
          refine sc_awp ?_
          (refine rO ?_; repeat' ((with_reducible first | refine rG ?_ | (refine rS ?_ ?_ <;> intro hp) | (refine rB ?_ ?_ <;> intro hb <;> try rw [hb]) | refine rD ?_ | refine rA ?_ | fail) <;> try simp only [go_sem, simprocAttr, PI, r24, hw1]))
          refine ⟨_, k + 1, Ghost.refl _, ⟨hkl, ?_, ?_, ?_, ?_, ?_, ⟨s1, by rw [hst]; simp only [goStep, hmg, Bool.false_and, Bool.false_eq_true, if_false], hsB, ?_⟩, (by repeat' first | exact kp | refine KeepsB.put ?_)⟩, by omega⟩
          iterate 6 (· simp only [go_sem, simprocAttr, PI, r0, r1, r2, r23, r24, m1, hw1]; try rfl)
        | true =>
          simp only [if_true] at h2
          (refine rO ?_; repeat' ((with_reducible first | refine rG ?_ | (refine rS ?_ ?_ <;> intro hp) | (refine rB ?_ ?_ <;> intro hb <;> try rw [hb]) | refine rD ?_ | refine rA ?_ | fail) <;> try simp only [go_sem, simprocAttr, PI, r0, r2, r24, m1, h1, s1', h2]))
          refine call_own _ (t1229 h (txns h) who C ((B : Int) - s1) s1 row k (by omega) hw32 hin hkl) (by simp only [go_sem, simprocAttr, PI, argsA, argA, r0, r2, r24, m1, List.drop_zero]) rfl ?_
          generalize freeR (txns h) who row k = c2 at hmg
          cases c2 with
          | false =>
            (refine rO ?_; repeat' ((with_reducible first | refine rG ?_ | (refine rS ?_ ?_ <;> intro hp) | (refine rB ?_ ?_ <;> intro hb <;> try rw [hb]) | refine rD ?_ | refine rA ?_ | fail) <;> try simp only [go_sem, simprocAttr, PI]))
            refine sc_cond (b := true) (by simp only [go_sem, simprocAttr]) (fun _ => ?_) (fun e => by cases e)
            refine sc_awp ?_
            (refine rO ?_; repeat' ((with_reducible first | refine rG ?_ | (refine rS ?_ ?_ <;> intro hp) | (refine rB ?_ ?_ <;> intro hb <;> try rw [hb]) | refine rD ?_ | refine rA ?_ | fail) <;> try simp only [go_sem, simprocAttr]))
            refine sc_awp ?_
            (refine rO ?_; repeat' ((with_reducible first | refine rG ?_ | (refine rS ?_ ?_ <;> intro hp) | (refine rB ?_ ?_ <;> intro hb <;> try rw [hb]) | refine rD ?_ | refine rA ?_ | fail) <;> try simp only [go_sem, simprocAttr, PI, r24, hw1]))
            refine ⟨_, k + 1, Ghost.refl _, ⟨hkl, ?_, ?_, ?_, ?_, ?_, ⟨s1, by rw [hst]; simp only [goStep, hmg, Bool.true_and, Bool.false_eq_true, if_false], hsB, ?_⟩, (by repeat' first | exact kp | refine KeepsB.put ?_)⟩, by omega⟩
            iterate 6 (· simp only [go_sem, simprocAttr, PI, r0, r1, r2, r23, r24, m1, hw1]; try rfl)
          | true =>
            have hnk : ¬ k ∈ row := fun hkr => by
              have := hcb
              rw [show row.contains k = true by simpa using hkr] at this
              simp at this
            have hndk : (row ++ [k]).Nodup := by
              rw [List.nodup_append]; exact ⟨hnd, by simp, fun a ha b hb => by simp only [List.mem_singleton] at hb; subst hb; exact fun e => hnk (e ▸ ha)⟩
            have hink : ∀ q ∈ row ++ [k], q < (txns h).length := fun q hq => by
              rcases List.mem_append.1 hq with h | h
              · exact hin q h
              · simp only [List.mem_singleton] at h; omega
            (refine rO ?_; repeat' ((with_reducible first | refine rG ?_ | (refine rS ?_ ?_ <;> intro hp) | (refine rB ?_ ?_ <;> intro hb <;> try rw [hb]) | refine rD ?_ | refine rA ?_ | fail) <;> try simp only [go_sem, simprocAttr, PI]))
            refine sc_cond (b := false) (by simp only [go_sem, simprocAttr]) (fun e => by cases e) (fun _ => ?_)
            refine sc_awp ?_
            (refine rO ?_; repeat' ((with_reducible first | refine rG ?_ | (refine rS ?_ ?_ <;> intro hp) | (refine rB ?_ ?_ <;> intro hb <;> try rw [hb]) | refine rD ?_ | refine rA ?_ | fail) <;> try simp only [go_sem, simprocAttr]))
            refine sc_seq (sc_seq (sc_awp ?_))
            (refine rO ?_; repeat' ((with_reducible first | refine rG ?_ | (refine rS ?_ ?_ <;> intro hp) | (refine rB ?_ ?_ <;> intro hb <;> try rw [hb]) | refine rD ?_ | refine rA ?_ | fail) <;> try simp only [go_sem, simprocAttr, PI, r0, m1]))
            · have hsB2 : s1 = B := by omega
              refine sc_cond (b := true) (by simp only [go_sem, simprocAttr]) (fun _ => ?_) (fun e => by cases e)
              refine sc_region (raw_cons rfl ?_)
              simp only [go_sem, simprocAttr, PI]
              refine SemOp.old ?_
              simp only [go_sem, simprocAttr, PI, y_build0]
              refine raw_panic (offs := [(0, 1, false), (1, 1, false)]) (r := .a (.ag [dI 2, .sl []])) (by kernel_rfl) (by simp only [go_sem, simprocAttr, PI]) ?_
              refine ⟨by simp only [go_sem, simprocAttr, PI, kp.fr]; try rfl, ?_⟩
              refine hKP 2 [] s1 _ ?_ hsB (KeepsB.leave (vs := vs) hB9 (by repeat' first | exact kp | refine KeepsB.put ?_)) ?_
              · rw [hgo]
                refine fold_fin hkl ?_
                rw [hst]; simp only [goStep, hmg, Bool.true_and, if_true, if_pos hsB2]
              · rw [lv_m hO]
                simp only [go_sem, simprocAttr, PI, m1]
            · have hsB2 : ¬ s1 = B := by omega
              refine sc_cond (b := false) (by simp only [go_sem, simprocAttr]) (fun e => by cases e) (fun _ => ?_)
              refine sc_awp ?_
              (refine rO ?_; repeat' ((with_reducible first | refine rG ?_ | (refine rS ?_ ?_ <;> intro hp) | (refine rB ?_ ?_ <;> intro hb <;> try rw [hb]) | refine rD ?_ | refine rA ?_ | fail) <;> try simp only [go_sem, simprocAttr]))
              have hwl : IntKind.i64.wrap ((B : Int) - s1 - 1) = (B : Int) - ((s1 + 1 : Nat) : Int) := by rw [i64_in _ (by omega)]; omega
              have hws : IntKind.i64.wrap ((s1 : Int) + 1) = ((s1 + 1 : Nat) : Int) := by rw [i64_in _ (by omega)]; omega
              refine sc_seq (sc_awp ?_)
              (refine rO ?_; repeat' ((with_reducible first | refine rG ?_ | (refine rS ?_ ?_ <;> intro hp) | (refine rB ?_ ?_ <;> intro hb <;> try rw [hb]) | refine rD ?_ | refine rA ?_ | fail) <;> try simp only [go_sem, simprocAttr, PI, r0, m1, hO, hO1, hwl]))
              refine sc_seq (sc_awp ?_)
              (refine rO ?_; repeat' ((with_reducible first | refine rG ?_ | (refine rS ?_ ?_ <;> intro hp) | (refine rB ?_ ?_ <;> intro hb <;> try rw [hb]) | refine rD ?_ | refine rA ?_ | fail) <;> try simp only [go_sem, simprocAttr, PI, r0, m1, hO, hO1, hws]))
              refine sc_seq (sc_awp ?_)
              (refine rO ?_; repeat' ((with_reducible first | refine rG ?_ | (refine rS ?_ ?_ <;> intro hp) | (refine rB ?_ ?_ <;> intro hb <;> try rw [hb]) | refine rD ?_ | refine rA ?_ | fail) <;> try simp only [go_sem, simprocAttr, PI, r1]))
              refine call_dat (t138 (rowI row)) ?_
              have hril : (rowI row).length ≤ 100 := by rw [rowI, List.length_map]; omega
              (refine rO ?_; repeat' ((with_reducible first | refine rG ?_ | (refine rS ?_ ?_ <;> intro hp) | (refine rB ?_ ?_ <;> intro hb <;> try rw [hb]) | refine rD ?_ | refine rA ?_ | fail) <;> try simp only [go_sem, simprocAttr, PI, List.length_map]))
              refine sc_seq (sc_awp ?_)
              have hmore : (rowI row).map ienc ++ [[dI k]] = (rowI (row ++ [k])).map ienc := by simp [rowI, ienc]
              have hmI := may_row hE hndk hink
              (refine rO ?_; repeat' ((with_reducible first | refine rG ?_ | (refine rS ?_ ?_ <;> intro hp) | (refine rB ?_ ?_ <;> intro hb <;> try rw [hb]) | refine rD ?_ | refine rA ?_ | fail) <;> try simp only [go_sem, simprocAttr, PI, r0, m1, hO, hO1, hmore]))
              have hmlen : (rowI (row ++ [k])).length = row.length + 1 := by rw [rowI, List.length_map, List.length_append]; rfl
              refine callQ_own [evsA h, intsA (rowI (row ++ [k])), U C] [I (legV h (rowI (row ++ [k])) C), I (mayE h (rowI (row ++ [k])))] (t48 h (rowI (row ++ [k])) C hC) (by simp only [go_sem, simprocAttr, PI, argsA, argA, hmore]) rfl ?_
              rw [legV, if_pos hmI, hmI]
              (refine rO ?_; repeat' ((with_reducible first | refine rG ?_ | (refine rS ?_ ?_ <;> intro hp) | (refine rB ?_ ?_ <;> intro hb <;> try rw [hb]) | refine rD ?_ | refine rA ?_ | fail) <;> try simp only [go_sem, simprocAttr, PI]))
              refine sc_seq (sc_awp ?_)
              (refine rO ?_; repeat' ((with_reducible first | refine rG ?_ | (refine rS ?_ ?_ <;> intro hp) | (refine rB ?_ ?_ <;> intro hb <;> try rw [hb]) | refine rD ?_ | refine rA ?_ | fail) <;> try simp only [go_sem, simprocAttr, PI, hmlen, List.length_map]))
              · have hp2 := hp
                rw [hmore, List.length_map, hmlen] at hp2
                have hleg : legalN (txns h) C (rowI (row ++ [k])) = row.length + 1 := by omega
                have hsh := u32_shl (k := k) (by omega)
                have h2k : 2 ^ k < 2 ^ 32 := Nat.pow_lt_pow_right (by omega) (by omega)
                have hor := u32_or hb32 h2k
                rw [← rowB_s] at hor
                have hstep : goStep (txns h) who C B (goF (txns h) who C B f) row (.ret s1) k = goF (txns h) who C B f (row ++ [k]) (s1 + 1) := by
                  simp only [goStep, hmg, Bool.true_and, if_true, if_neg hsB2, if_pos hleg]
                rw [hstep] at hst
                have hoU : decide (upId o < Bd f) = true := decide_eq_true (by have := upId_eq o; omega)
                refine sc_cond (b := true) (by simp only [go_sem, simprocAttr]) (fun _ => ?_) (fun e => by cases e)
                refine sc_ghost (g_frz (t := 7) (o := 69) (xs := (rowI (row ++ [k])).map ienc) (by simp only [go_sem, simprocAttr, PI]) (by simp only [go_sem, simprocAttr, PI, hmore]; rfl) (by omega)) ?_
                refine sc_region (raw_cons rfl ?_)
                simp only [go_sem, simprocAttr, PI, r0]
                refine raw_cons rfl ?_
                simp only [go_sem, simprocAttr, PI]
                refine raw_cons rfl ?_
                simp only [go_sem, simprocAttr, PI, r2]
                refine raw_cons rfl ?_
                simp only [go_sem, simprocAttr, PI]
                refine raw_cons rfl ?_
                simp only [go_sem, simprocAttr, PI, hsh]
                refine raw_cons rfl ?_
                simp only [go_sem, simprocAttr, PI, hsh, hor]
                refine raw_call (g := 90) (rs := [.ref (upId o) 0, .a (intsA (rowI (row ++ [k]))), .a (U (rowB (row ++ [k])))]) rfl rfl (by simp only [go_sem, simprocAttr, PI, r0, r2, List.map_cons, List.map_nil]) ?_
                refine ih (row ++ [k]) (s1 + 1) (by omega) (by rw [List.length_append, List.length_cons, List.length_nil]; omega) hndk hink (by omega) hoU (by simp only [go_sem, simprocAttr, PI, m1]) ?_ ?_
                · intro s2 σ' hg2 hs2 hL hm2
                  have kp2 := KeepsB.left (Bd := Bd (f + 1)) (vs := vs) (σ0 := σ) (h := (by repeat' first | (with_reducible exact kp) | (with_reducible refine KeepsB.put ?_) | (with_reducible refine KeepsB.setU ?_) | refine KeepsB.frz rfl ?_ | refine KeepsB.new rfl ?_ | exact kp)) (Nat.le_of_eq hBd) hL
                  have q24 := hL.r (t := 24) (r := .a (I k)) (by simp only [go_sem, simprocAttr, PI, r24]) rfl
                  have q23 := hL.r (t := 23) (r := .a (I (txns h).length)) (by simp only [go_sem, simprocAttr, PI, r23]) rfl
                  have q0 := hL.r (t := 0) (r := .ref (upId o) 0) (by simp only [go_sem, simprocAttr, PI, r0]) up_ref1
                  have q1 := hL.r (t := 1) (r := .a (intsA (rowI row))) (by simp only [go_sem, simprocAttr, PI, r1]) rfl
                  have q2 := hL.r (t := 2) (r := .a (U (rowB row))) (by simp only [go_sem, simprocAttr, PI, r2]) rfl
                  refine sc_awp ?_
                  (refine rO ?_; repeat' ((with_reducible first | refine rG ?_ | (refine rS ?_ ?_ <;> intro hp) | (refine rB ?_ ?_ <;> intro hb <;> try rw [hb]) | refine rD ?_ | refine rA ?_ | fail) <;> try simp only [go_sem, simprocAttr, PI, q24, hw1]))
                  refine ⟨_, k + 1, Ghost.refl _, ⟨hkl, ?_, ?_, ?_, ?_, ?_, ⟨s2, by rw [hst, hg2], hs2, ?_⟩, (by repeat' first | exact kp2 | refine KeepsB.put ?_)⟩, by omega⟩
                  iterate 6 (· simp only [go_sem, simprocAttr, PI, q0, q1, q2, q23, q24, hm2, hw1]; try rfl)
                · intro v row' s2 σ' hg2 hs2 hL hm2
                  have kp2 := KeepsB.left (Bd := Bd (f + 1)) (vs := vs) (σ0 := σ) (h := (by repeat' first | (with_reducible exact kp) | (with_reducible refine KeepsB.put ?_) | (with_reducible refine KeepsB.setU ?_) | refine KeepsB.frz rfl ?_ | refine KeepsB.new rfl ?_ | exact kp)) (Nat.le_of_eq hBd) hL
                  refine ⟨by simp only [go_sem, simprocAttr, PI, kp2.fr]; try rfl, ?_⟩
                  refine hKP v row' s2 _ ?_ hs2 (KeepsB.leave (vs := vs) hB9 kp2) ?_
                  · rw [hgo]
                    exact fold_fin hkl (by rw [hst, hg2])
                  · rw [lv_m hO, hm2]
                    simp only [go_sem, simprocAttr, PI]
              · have hp2 := hp
                rw [hmore, List.length_map, hmlen] at hp2
                have hleg : ¬ legalN (txns h) C (rowI (row ++ [k])) = row.length + 1 := by omega
                refine sc_cond (b := false) (by simp only [go_sem, simprocAttr]) (fun e => by cases e) (fun _ => ?_)
                refine sc_awp ?_
                (refine rO ?_; repeat' ((with_reducible first | refine rG ?_ | (refine rS ?_ ?_ <;> intro hp) | (refine rB ?_ ?_ <;> intro hb <;> try rw [hb]) | refine rD ?_ | refine rA ?_ | fail) <;> try simp only [go_sem, simprocAttr]))
                refine sc_awp ?_
                (refine rO ?_; repeat' ((with_reducible first | refine rG ?_ | (refine rS ?_ ?_ <;> intro hp) | (refine rB ?_ ?_ <;> intro hb <;> try rw [hb]) | refine rD ?_ | refine rA ?_ | fail) <;> try simp only [go_sem, simprocAttr, PI, r24, hw1]))
                refine ⟨_, k + 1, Ghost.refl _, ⟨hkl, ?_, ?_, ?_, ?_, ?_, ⟨s1 + 1, by rw [hst]; simp only [goStep, hmg, Bool.true_and, if_true, if_neg hsB2, if_neg hleg], by omega, ?_⟩, (by repeat' first | (with_reducible exact kp) | (with_reducible refine KeepsB.put ?_) | (with_reducible refine KeepsB.setU ?_) | refine KeepsB.new rfl ?_ | exact kp)⟩, by omega⟩
                iterate 6 (· simp only [go_sem, simprocAttr, PI, r0, r1, r2, r23, r24, m1, hw1]; try rfl)
      · refine sc_awp ?_
        (refine rO ?_; repeat' ((with_reducible first | refine rG ?_ | (refine rS ?_ ?_ <;> intro hp) | (refine rB ?_ ?_ <;> intro hb <;> try rw [hb]) | refine rD ?_ | refine rA ?_ | fail) <;> try simp only [go_sem, simprocAttr]))
        have hkn : k = (txns h).length := by omega
        subst hkn
        refine ⟨_, Ghost.refl _, by simp only [go_sem, simprocAttr, PI, kp.fr]; try rfl, ?_⟩
        refine hK s1 _ (by rw [hgo, hs1]) hsB (KeepsB.leave (vs := vs) hB9 (by repeat' first | exact kp | refine KeepsB.put ?_)) ?_
        rw [lv_m hO]
        simp only [go_sem, simprocAttr, PI, m1]
end Go.VC
end
section
set_option maxRecDepth 100000
set_option linter.unusedSimpArgs false
set_option linter.unusedVariables false
set_option linter.unnecessarySimpa false
namespace Go.VC
open Go.RowKit Go.Proofs Go.IntWalk
theorem InlP.nilArg {P : Program} {gl : Nat → Option (List D)} {f : FuncId} {r1 r3 : R} {σ : S} {K : S → List R → Prop} {KP : TypeId → R → S → Prop} (h : InlP P gl f [r1, .a (.d (.sl [])), r3] σ K KP) : InlP P gl f [r1, .cs [], r3] σ K KP :=
  ⟨h.1, fun c β a w vs hP hgl hs hv => h.2 c β a w vs hP hgl hs (by
    obtain ⟨u1, l1, rfl, h1, hv⟩ := hv.of_cons
    obtain ⟨u2, l2, rfl, h2, hv2⟩ := hv.of_cons
    obtain ⟨p, n, rfl, h3⟩ := h2.inv_cs
    exact F2.cons h1 (F2.cons (RelR.a (x := .d (.sl [])) (show Rd _ _ _ _ from h3)) hv2))⟩
/-- What a search found. -/
structure Fnd where
  v : Nat
  c : Nat
  row : List Nat
  s : Nat
abbrev Fnd.a (x : Fnd) : A := .ag [dI x.v, .v (.int .u32 x.c), .sl ((rowI x.row).map ienc), dI x.s]
def Out.fnd (C : Nat) : Out → Fnd
  | .ret s => ⟨1, 0, [], s⟩
  | .fin v row s => if v = 0 then ⟨0, C, row, s⟩ else ⟨v, 0, [], s⟩
def foundF (T : List Txn) (who C B : Nat) : Fnd := (goF T who C B (T.length + 1) [] 0).fnd C
/-- The end of search's closure. -/
theorem clos_end {P : Program} {vs vs' : List Value} {T : TypeId} {bs : Nat} {z : List Value} {σ σ3 τ : S} {o : Nat} {K : S → List R → Prop} {ds : List D} (hT : tinf P T = some ⟨4, bs, true, z⟩) (kpc : KeepsB 900000000 vs' 2 σ3 τ) (kp : KeepsB 800000000 vs o σ σ3) (r2 : σ3.regs 2 = .ref 2 0)
    (m2 : τ.mem (upId 2) = some (.box (ds.map fun d => .a (.d d)))) (hl : ds.length = 4) (hK : ∀ σ' : S, LeftB 800000000 o σ σ' → K σ' [.a (.ag ds)]) : postC vs' (endDf P vs 2 T K) .normal τ := by
  have L := KeepsB.leave (Nat.le_refl _) kpc
  have kp2 : KeepsB 800000000 vs o σ τ.leave := ⟨L.m rfl rfl kp.fr up_frame, fun o' x h1 h2 h3 => by
    have := of_decide_eq_true h2
    have := upId_eq o'
    exact L.m (by simp; omega) (decide_eq_true (by omega)) (kp.ob o' x h1 h2 h3) (up_obj x)⟩
  have hm2 : τ.leave.mem 2 = some (.box (ds.map fun d => .a (.d d))) := by
    rw [lv_m rfl, m2]
    simp only [Option.map_some, Ob.down, List.map_map]
    rfl
  refine ⟨by rw [kpc.fr]; rfl, by rw [kp2.fr]; rfl, 2, 0, .a (.ag ds), L.r r2 up_ref1, ?_, hK _ (KeepsB.leave (by omega) kp2)⟩
  have ht : List.take 4 (ds.map fun d => R.a (.d d)) = ds.map fun d => R.a (.d d) := List.take_of_length_le (by simp [hl])
  simp only [loadR, hT, hm2, List.drop_zero, ht, allD_map, Nat.zero_add, List.length_map, hl, Nat.le_refl, if_true, Option.map_some]
theorem search_inl (h : List Ev) (hE : checkE h = 0) (who C B : Nat) (hw : who < 2 ^ (txns h).length) (hC : C < 2 ^ 32) (hB : B ≤ 1000000) {σ : S} {o : Nat} {K : S → List R → Prop} (ho : decide (o < 800000000) = true) (mo : σ.mem o = some (.box (seaR h (txns h) who C B 0)))
    (hK : ∀ σ' : S, LeftB 800000000 o σ σ' → K σ' [.a (foundF (txns h) who C B).a]) : Inl Tryd.prog GL 54 [.ref o 0] σ K := by
  have hO1 := of_decide_eq_true ho
  have hO : decide (o < 999000000) = true := decide_eq_true (by omega)
  have hOU : decide (upId o < 1000000000) = true := up_lt hO
  refine inl_defer (caps := [(1, 0), (2, 0)]) (by kernel_rfl) Tryd.func54 rfl rfl rfl rfl (by kernel_rfl) rfl (by decide) rfl rfl Tryd.func89 rfl rfl rfl (by decide) rfl (by kernel_rfl) (by decide) fun vs => ?_
  refine sd_region ?_
  (refine rO ?_; repeat' ((with_reducible first | refine rG ?_ | (refine rS ?_ ?_ <;> intro hp) | (refine rB ?_ ?_ <;> intro hb <;> try rw [hb]) | refine rD ?_ | refine rA ?_ | fail) <;> try simp only [go_sem, simprocAttr, PI, hO, hOU, mo]))
  generalize hcl : ClosK Tryd.prog GL _ _ _ _ = CL
  have hoU : decide (upId o < Bd ((txns h).length + 1)) = true := decide_eq_true (by have := upId_eq o; have := txns_len6 h; unfold Bd; omega)
  have hl6 := txns_len6 h
  -- what the closure does
  have clos : ∀ (p : Option (TypeId × A)) (σ3 : S) (s' : Nat), KeepsB 800000000 vs o σ σ3 → σ3.mem 1 = some (.box [.ref (upId o) 0]) → σ3.mem 2 = some (.box [.a (I 0), .a (U 0), .a (.d (.sl [])), .a (I 0)]) → σ3.mem (upId o) = some (.box (seaR h (txns h) who C B s')) → σ3.regs 2 = .ref 2 0 →
      ((p = none ∧ goF (txns h) who C B ((txns h).length + 1) [] 0 = .ret s') ∨ ∃ v row', p = some (138, .ag [dI (v : Nat), .sl ((rowI row').map ienc)]) ∧ goF (txns h) who C B ((txns h).length + 1) [] 0 = .fin v row' s') → CL p σ3 := by
    intro p σ3 s' kp m1 m2 mo3 r2 hp
    rw [← hcl]
    intro vs'
    have hU2 : decide (upId o < 999000000) = true := decide_eq_true (by have := upId_eq o; omega)
    have kpc0 : KeepsB 900000000 vs' 2 σ3 (S.enter vs' [.ref 1 0, .ref 2 0] σ3) := KeepsB.enter (Nat.le_refl _)
    have hT44 : tinf Tryd.prog 44 = some ⟨4, 48, true, [.int .i64 0, .int .u32 0, .slice none 0 0, .int .i64 0]⟩ := by kernel_rfl
    have hfo : foundF (txns h) who C B = (goF (txns h) who C B ((txns h).length + 1) [] 0).fnd C := rfl
    rcases hp with ⟨rfl, hgo⟩ | ⟨v, row', rfl, hgo⟩
    · rw [hgo] at hfo
      simp only [S.recov, List.map_cons, List.map_nil]
      refine sd_block (sd_seq (sd_region ?_))
      (refine rO ?_; repeat' ((with_reducible first | refine rG ?_ | (refine rS ?_ ?_ <;> intro hp) | (refine rB ?_ ?_ <;> intro hb <;> try rw [hb]) | refine rD ?_ | refine rA ?_ | fail) <;> try simp only [go_sem, simprocAttr, PI]))
      refine sem_nil_nil Tryd.underlying20 (by simp only [go_sem, simprocAttr]) ?_
      (refine rO ?_; repeat' ((with_reducible first | refine rG ?_ | (refine rS ?_ ?_ <;> intro hp) | (refine rB ?_ ?_ <;> intro hb <;> try rw [hb]) | refine rD ?_ | refine rA ?_ | fail) <;> try simp only [go_sem, simprocAttr, PI]))
      refine sd_cond (b := true) (by simp only [go_sem, simprocAttr]) (fun _ => ?_) (fun e => by cases e)
      refine sd_seq (sd_region ?_)
      (refine rO ?_; repeat' ((with_reducible first | refine rG ?_ | (refine rS ?_ ?_ <;> intro hp) | (refine rB ?_ ?_ <;> intro hb <;> try rw [hb]) | refine rD ?_ | refine rA ?_ | fail) <;> try simp only [go_sem, simprocAttr, PI]))
      refine sd_region ?_
      (refine rO ?_; repeat' ((with_reducible first | refine rG ?_ | (refine rS ?_ ?_ <;> intro hp) | (refine rB ?_ ?_ <;> intro hb <;> try rw [hb]) | refine rD ?_ | refine rA ?_ | fail) <;> try simp only [go_sem, simprocAttr, PI, m1, m2, mo3, hU2]))
      refine SemOp.old ?_
      (refine rO ?_; repeat' ((with_reducible first | refine rG ?_ | (refine rS ?_ ?_ <;> intro hp) | (refine rB ?_ ?_ <;> intro hb <;> try rw [hb]) | refine rD ?_ | refine rA ?_ | fail) <;> try simp only [go_sem, simprocAttr, PI, y_load0, m1, m2, mo3, hU2]))
      refine SemOp.old ?_
      (refine rO ?_; repeat' ((with_reducible first | refine rG ?_ | (refine rS ?_ ?_ <;> intro hp) | (refine rB ?_ ?_ <;> intro hb <;> try rw [hb]) | refine rD ?_ | refine rA ?_ | fail) <;> try simp only [go_sem, simprocAttr, PI, y_build0, m1, m2, mo3, hU2]))
      refine clos_end (ds := [dI 1, .v (.int .u32 0), .sl [], dI s']) hT44 (by repeat' first | (with_reducible exact kpc0) | (with_reducible refine KeepsB.put ?_) | (with_reducible refine KeepsB.setU ?_) | refine KeepsB.new rfl ?_ | exact kpc0) kp r2 (by simp only [go_sem, simprocAttr, PI, m2]; try rfl) rfl (fun σ' hL => ?_)
      have := hK σ' hL
      rw [hfo] at this; exact this
    · rw [hgo] at hfo
      simp only [S.recov, List.map_cons, List.map_nil]
      refine sd_block (sd_seq (sd_region ?_))
      (refine rO ?_; repeat' ((with_reducible first | refine rG ?_ | (refine rS ?_ ?_ <;> intro hp) | (refine rB ?_ ?_ <;> intro hb <;> try rw [hb]) | refine rD ?_ | refine rA ?_ | fail) <;> try simp only [go_sem, simprocAttr, PI]))
      refine sem_if_nil Tryd.underlying20 (q := 999990) (T := 138) (y := .ag [dI (v : Nat), .sl ((rowI row').map ienc)]) (by simp only [go_sem, simprocAttr]) (by simp only [go_sem, simprocAttr]) ?_
      (refine rO ?_; repeat' ((with_reducible first | refine rG ?_ | (refine rS ?_ ?_ <;> intro hp) | (refine rB ?_ ?_ <;> intro hb <;> try rw [hb]) | refine rD ?_ | refine rA ?_ | fail) <;> try simp only [go_sem, simprocAttr, PI]))
      refine sd_cond (b := false) (by simp only [go_sem, simprocAttr]) (fun e => by cases e) (fun _ => ?_)
      refine sd_seq (sd_region ?_)
      (refine rO ?_; repeat' ((with_reducible first | refine rG ?_ | (refine rS ?_ ?_ <;> intro hp) | (refine rB ?_ ?_ <;> intro hb <;> try rw [hb]) | refine rD ?_ | refine rA ?_ | fail) <;> try simp only [go_sem, simprocAttr, PI]))
      refine sem_assert (q := 999990) (y := .ag [dI (v : Nat), .sl ((rowI row').map ienc)]) (offs := [(0, 1, false), (1, 1, false)]) (by kernel_rfl) (by simp only [go_sem, simprocAttr]) (by simp only [go_sem, simprocAttr]) ?_
      (refine rO ?_; repeat' ((with_reducible first | refine rG ?_ | (refine rS ?_ ?_ <;> intro hp) | (refine rB ?_ ?_ <;> intro hb <;> try rw [hb]) | refine rD ?_ | refine rA ?_ | fail) <;> try simp only [go_sem, simprocAttr, PI]))
      refine sd_cond (b := true) (by simp only [go_sem, simprocAttr]) (fun _ => ?_) (fun e => by cases e)
      refine sd_seq (sd_region ?_)
      (refine rO ?_; repeat' ((with_reducible first | refine rG ?_ | (refine rS ?_ ?_ <;> intro hp) | (refine rB ?_ ?_ <;> intro hb <;> try rw [hb]) | refine rD ?_ | refine rA ?_ | fail) <;> try simp only [go_sem, simprocAttr, PI]))
      refine sd_seq (sd_draw ?_)
      (refine rO ?_; repeat' ((with_reducible first | refine rG ?_ | (refine rS ?_ ?_ <;> intro hp) | (refine rB ?_ ?_ <;> intro hb <;> try rw [hb]) | refine rD ?_ | refine rA ?_ | fail) <;> try simp only [go_sem, simprocAttr, PI, m1, m2, mo3, hU2]))
      refine sd_seq (sd_region ?_)
      (refine rO ?_; repeat' ((with_reducible first | refine rG ?_ | (refine rS ?_ ?_ <;> intro hp) | (refine rB ?_ ?_ <;> intro hb <;> try rw [hb]) | refine rD ?_ | refine rA ?_ | fail) <;> try simp only [go_sem, simprocAttr, PI]))
      · have hv0 : v = 0 := by omega
        refine sd_cond (b := true) (by simp only [go_sem, simprocAttr]) (fun _ => ?_) (fun e => by cases e)
        refine sd_drawF [[4, 5], []] (by decide +kernel) ?_
        (refine rO ?_; repeat' ((with_reducible first | refine rG ?_ | (refine rS ?_ ?_ <;> intro hp) | (refine rB ?_ ?_ <;> intro hb <;> try rw [hb]) | refine rD ?_ | refine rA ?_ | fail) <;> try simp only [go_sem, simprocAttr, PG, PI, m1, m2, mo3, hU2]))
        refine clos_end (ds := [dI v, .v (.int .u32 C), .sl ((rowI row').map ienc), dI s']) hT44 (by repeat' first | (with_reducible exact kpc0) | (with_reducible refine KeepsB.put ?_) | (with_reducible refine KeepsB.setU ?_) | refine KeepsB.new rfl ?_ | refine KeepsB.set rfl ?_ | exact kpc0) kp r2 (by simp only [go_sem, simprocAttr, PI, m2]; try rfl) rfl (fun σ' hL => ?_)
        have := hK σ' hL
        rw [hfo] at this
        simp only [Out.fnd, if_pos hv0] at this
        rw [hv0]; exact this
      · have hv0 : ¬ v = 0 := by omega
        refine sd_cond (b := false) (by simp only [go_sem, simprocAttr]) (fun e => by cases e) (fun _ => ?_)
        refine sd_skip ?_
        (refine rO ?_; repeat' ((with_reducible first | refine rG ?_ | (refine rS ?_ ?_ <;> intro hp) | (refine rB ?_ ?_ <;> intro hb <;> try rw [hb]) | refine rD ?_ | refine rA ?_ | fail) <;> try simp only [go_sem, simprocAttr, PI]))
        refine clos_end (ds := [dI v, .v (.int .u32 0), .sl [], dI s']) hT44 (by repeat' first | (with_reducible exact kpc0) | (with_reducible refine KeepsB.put ?_) | (with_reducible refine KeepsB.setU ?_) | refine KeepsB.new rfl ?_ | refine KeepsB.set rfl ?_ | exact kpc0) kp r2 (by simp only [go_sem, simprocAttr, PI, m2]; try rfl) rfl (fun σ' hL => ?_)
        have := hK σ' hL
        rw [hfo] at this
        simp only [Out.fnd, if_neg hv0] at this
        exact this
  intro cvs
  refine sc_region (raw_cons rfl ?_)
  simp only [go_sem, simprocAttr, PI, hO, hOU, mo]
  refine SemOp.old ?_
  simp only [go_sem, simprocAttr, PI, y_load0, hO, hOU, mo]
  refine raw_call (g := 90) (rs := [.ref (upId o) 0, .cs [], .a (U 0)]) rfl rfl (by simp only [go_sem, simprocAttr, PI, List.map_cons, List.map_nil]; rfl) ?_
  refine InlP.nilArg ?_
  have hmo : (S.enter vs [.ref o 0] σ).mem (upId o) = some (.box (seaR h (txns h) who C B 0)) := by simp only [go_sem, simprocAttr, PI, hO, mo]; rfl
  have kp0 : KeepsB 800000000 vs o σ (S.enter vs [.ref o 0] σ) := KeepsB.enter (by omega)
  have hB8 : 800000000 + 1000000 ≤ Bd ((txns h).length + 1) := by unfold Bd; omega
  have d1 : decide (1 < Bd ((txns h).length + 1)) = true := decide_eq_true (by omega)
  have d2 : decide (2 < Bd ((txns h).length + 1)) = true := decide_eq_true (by omega)
  have d9 : decide (999991 < Bd ((txns h).length + 1)) = true := decide_eq_true (by omega)
  have hx1 : Ob.down (Ob.up (.box [.ref (upId o) 0])) = .box [.ref (upId o) 0] := by simp [Ob.up, Ob.down, R.up, R.down, upId_sub, upId_le]
  have hx9 : Ob.down (Ob.up (.frame cvs (capsR [(1, 0), (2, 0)]))) = .frame cvs (capsR [(1, 0), (2, 0)]) := by
    show Ob.frame cvs (fun t => ((capsR [(1, 0), (2, 0)] t).up).down) = _
    congr 1; funext t
    unfold capsR
    split
    · exact up_ref1
    · rfl
  have hcaps : ∀ (j : Nat) (c : Nat × Nat), ([(1, 0), (2, 0)] : List (Nat × Nat))[j]? = some c → capsR [(1, 0), (2, 0)] j = .ref c.1 c.2 := fun j c hc => by unfold capsR; rw [hc]
  refine from_inl h hE who C B hw hC hB ((txns h).length + 1) [] 0 (by omega) (by simp) List.nodup_nil (fun k hk => by cases hk) (Nat.zero_le _) hoU (by simp only [go_sem, simprocAttr, PI, hO, hOU, mo]; rfl) ?_ ?_
  · intro s' σ' hgo hs' hL hm
    have kp2 := KeepsB.left (Bd := 800000000) (vs := vs) (σ0 := σ) (h := (by repeat' first | (with_reducible exact kp0) | (with_reducible refine KeepsB.put ?_) | refine KeepsB.new rfl ?_ | exact kp0)) hB8 hL
    have m1 := hL.m (o := 1) (x := .box [.ref (upId o) 0]) (by simp only [go_sem, simprocAttr, PI]) d1 (by simp only [go_sem, simprocAttr, PI]) hx1
    have m2 := hL.m (o := 2) (x := .box [.a (I 0), .a (U 0), .a (.d (.sl [])), .a (I 0)]) (by simp only [go_sem, simprocAttr, PI]) d2 (by simp only [go_sem, simprocAttr, PI]; rfl) rfl
    have m9 := hL.m (o := 999991) (x := .frame cvs (capsR [(1, 0), (2, 0)])) (by simp only [go_sem, simprocAttr, PI]) d9 (by simp only [go_sem, simprocAttr, PI]) hx9
    have r2 := hL.r (t := 2) (r := .ref 2 0) (by simp only [go_sem, simprocAttr, PI]) up_ref1
    exact ⟨⟨_, m9, hcaps⟩, clos none _ s' (KeepsB.put kp2) m1 m2 hm (by simp only [go_sem, simprocAttr, PI, r2]) (.inl ⟨rfl, hgo⟩)⟩
  · intro v row' s' σ' hgo hs' hL hm
    have kp2 := KeepsB.left (Bd := 800000000) (vs := vs) (σ0 := σ) (h := (by repeat' first | (with_reducible exact kp0) | (with_reducible refine KeepsB.put ?_) | refine KeepsB.new rfl ?_ | exact kp0)) hB8 hL
    have m1 := hL.m (o := 1) (x := .box [.ref (upId o) 0]) (by simp only [go_sem, simprocAttr, PI]) d1 (by simp only [go_sem, simprocAttr, PI]) hx1
    have m2 := hL.m (o := 2) (x := .box [.a (I 0), .a (U 0), .a (.d (.sl [])), .a (I 0)]) (by simp only [go_sem, simprocAttr, PI]) d2 (by simp only [go_sem, simprocAttr, PI]; rfl) rfl
    have m9 := hL.m (o := 999991) (x := .frame cvs (capsR [(1, 0), (2, 0)])) (by simp only [go_sem, simprocAttr, PI]) d9 (by simp only [go_sem, simprocAttr, PI]) hx9
    have r2 := hL.r (t := 2) (r := .ref 2 0) (by simp only [go_sem, simprocAttr, PI]) up_ref1
    exact ⟨⟨_, m9, hcaps⟩, _, rfl, clos _ _ s' kp2 m1 m2 hm r2 (.inr ⟨v, row', rfl, hgo⟩)⟩
end Go.VC
end
section
set_option maxRecDepth 100000
set_option linter.unusedSimpArgs false
set_option linter.unusedVariables false
set_option linter.unnecessarySimpa false
namespace Go.VC
open Go.RowKit Go.Proofs Go.IntWalk
theorem rowI_get {row : List Nat} {k : Nat} (h : k < row.length) : (rowI row)[k]? = some (row[k] : Int) := by
  rw [rowI, List.getElem?_map, List.getElem?_eq_getElem h]; rfl
def leftL (n who : Nat) (row : List Nat) : List Nat := (List.range n).filter fun k => who.testBit k && !row.contains k
end Go.VC
end
section
set_option maxRecDepth 100000
set_option linter.unusedSimpArgs false
set_option linter.unusedVariables false
set_option linter.unnecessarySimpa false
namespace Go.VC
open Go.RowKit Go.Proofs Go.IntWalk
def OutOk (B : Nat) : Out → Prop
  | .ret s => s ≤ B
  | .fin v _ s => s ≤ B ∧ (v = 0 ∨ v = 2)
theorem goStep_ok {T : List Txn} {who C B : Nat} {rec : List Nat → Nat → Out} {row : List Nat} {o : Out} {k : Nat} (hrec : ∀ row s, s ≤ B → OutOk B (rec row s)) (h : OutOk B o) : OutOk B (goStep T who C B rec row o k) := by
  cases o with
  | fin v r s => exact h
  | ret s =>
    have h : s ≤ B := h
    simp only [goStep]
    split
    · split
      · exact ⟨h, .inr rfl⟩
      · split
        · exact hrec _ _ (by omega)
        · show s + 1 ≤ B; omega
    · exact h
theorem fold_ok {T : List Txn} {who C B : Nat} {rec : List Nat → Nat → Out} {row : List Nat} (hrec : ∀ row s, s ≤ B → OutOk B (rec row s)) : ∀ (l : List Nat) (o : Out), OutOk B o → OutOk B (l.foldl (goStep T who C B rec row) o)
  | [], o, h => h
  | k :: l, o, h => fold_ok hrec l _ (goStep_ok hrec h)
theorem goF_ok {T : List Txn} {who C B : Nat} : ∀ (f : Nat) (row : List Nat) (s : Nat), s ≤ B → OutOk B (goF T who C B f row s)
  | 0, row, s, h => h
  | f + 1, row, s, h => by
    simp only [goF]
    split
    · exact ⟨h, .inl rfl⟩
    · exact fold_ok (goF_ok f) _ _ h
theorem fold_left {T : List Txn} {who C B : Nat} {rec : List Nat → Nat → Out} {row : List Nat} (n : Nat) (o : Out) : (List.range n).foldl (goStep T who C B rec row) o = (leftL n who row).foldl (goStep T who C B rec row) o := by
  rw [leftL, List.foldl_filter]
  congr 1
  funext o k
  by_cases h : (who.testBit k && !row.contains k) = true
  · rw [if_pos h]
  · rw [if_neg h]
    cases o with
    | fin v r s => rfl
    | ret s =>
      have : mayGo T who row k = false := by
        unfold mayGo
        rw [Bool.not_eq_true] at h
        rw [h, Bool.false_and]
      simp only [goStep, this, Bool.false_eq_true, if_false]
theorem foldL_fin {T : List Txn} {who C B : Nat} {rec : List Nat → Nat → Out} {row row' : List Nat} {v s' : Nat} : ∀ (l : List Nat), l.foldl (goStep T who C B rec row) (.fin v row' s') = .fin v row' s'
  | [] => rfl
  | k :: l => foldL_fin l
/-- A table that may be searched. -/
structure TabOk (T : List Txn) : Prop where
  len : T.length ≤ 6
  st : StT T
  ops : ∀ t ∈ T, OpsIn t.ops
end Go.VC
end
section
set_option maxRecDepth 100000
set_option linter.unusedSimpArgs false
set_option linter.unusedVariables false
set_option linter.unnecessarySimpa false
namespace Go.VC
open Go.RowKit Go.Proofs Go.IntWalk
/-- What a search found, of any numbers. -/
structure Fd where
  v : Int
  c : Int
  row : List Int
  s : Int
abbrev Fd.a (x : Fd) : A := .ag [dI x.v, .v (.int .u32 x.c), .sl (x.row.map ienc), dI x.s]
def Fnd.fd (x : Fnd) : Fd := ⟨x.v, x.c, rowI x.row, x.s⟩
/-- Why nothing may be searched. -/
def maySE (h : List Ev) (n : Int) : Int := if checkE h = 0 then (if 0 ≤ n ∧ n ≤ 1000000 then 0 else 1) else checkE h
def maySV (h : List Ev) (n : Int) : List Nat := if maySE h n = 0 then afterR (txns h) else []
theorem t1128 (h : List Ev) (n : Int) : Holds Tryd.prog GL 53 [evsA h, I n] [.a (unsA (maySV h n)), .a (I (maySE h n))] := by
  refine fn_holds (vs := [.tmp 4, .tmp 5]) (by kernel_rfl) Tryd.func53 rfl rfl (by kernel_rfl) (by kernel_rfl) rfl ?_
  have h56 := t56 h
  rw [tabD_txns] at h56
  unfold maySV maySE
  by_cases hE : checkE h = 0
  · have hA : aftersV h = afterR (txns h) := by rw [aftersV, if_pos hE]
    rw [hE] at h56 ⊢
    generalize txns h = T at *
    (refine rO ?_; repeat' ((with_reducible first | refine rG ?_ | (refine rS ?_ ?_ <;> intro hp) | (refine rB ?_ ?_ <;> intro hb <;> try rw [hb]) | refine rD ?_ | refine rA ?_ | fail) <;> try simp only [go_sem, simprocAttr]))
    refine call_dat h56 ?_
    by_cases hn : 0 ≤ n ∧ n ≤ 1000000
    · rw [if_pos rfl, if_pos hn, if_pos rfl]
      have n1 : ¬ n < 0 := by omega
      have n2 : ¬ n > 1000000 := by omega
      (refine rO ?_; repeat' ((with_reducible first | refine rG ?_ | (refine rS ?_ ?_ <;> intro hp) | (refine rB ?_ ?_ <;> intro hb <;> try rw [hb]) | refine rD ?_ | apply c15 | refine rA ?_ | fail) <;> try simp only [go_sem, simprocAttr, hE, hA, n1, n2]))
    · rw [if_pos rfl, if_neg hn, if_neg (by decide)]
      (refine rO ?_; repeat' ((with_reducible first | refine rG ?_ | (refine rS ?_ ?_ <;> intro hp) | (refine rB ?_ ?_ <;> intro hb <;> try rw [hb]) | refine rD ?_ | apply c15 | refine rA ?_ | fail) <;> try simp only [go_sem, simprocAttr, hE, hA]))
      exact absurd ⟨by omega, by omega⟩ hn
  · generalize txns h = T at *
    generalize checkE h = c at *
    simp only [if_neg hE]
    (refine rO ?_; repeat' ((with_reducible first | refine rG ?_ | (refine rS ?_ ?_ <;> intro hp) | (refine rB ?_ ?_ <;> intro hb <;> try rw [hb]) | refine rD ?_ | refine rA ?_ | fail) <;> try simp only [go_sem, simprocAttr]))
    refine call_dat h56 ?_
    (refine rO ?_; repeat' ((with_reducible first | refine rG ?_ | (refine rS ?_ ?_ <;> intro hp) | (refine rB ?_ ?_ <;> intro hb <;> try rw [hb]) | refine rD ?_ | refine rA ?_ | fail) <;> try simp only [go_sem, simprocAttr, hE]))
theorem one_go {r : R} : one [r] = r := rfl
def rowE (h : List Ev) (who C : Nat) (n : Int) : Int := if maySE h n = 0 then (if (who ||| C) / 2 ^ (txns h).length = 0 then 0 else 7) else maySE h n
def rowF (h : List Ev) (who C : Nat) (n : Int) : Fnd := if rowE h who C n = 0 then foundF (txns h) who C n.toNat else ⟨0, 0, [], 0⟩
theorem mayS_ok {h : List Ev} {n : Int} (hm : maySE h n = 0) : checkE h = 0 ∧ 0 ≤ n ∧ n ≤ 1000000 := by
  unfold maySE at hm
  split at hm
  · split at hm
    · exact ⟨‹_›, ‹_ ∧ _›⟩
    · cases hm
  · exact absurd hm ‹_›
theorem t1056 (h : List Ev) (who C : Nat) (n : Int) (hw : who < 2 ^ 32) (hC : C < 2 ^ 32) : Holds Tryd.prog GL 20 [evsA h, U who, U C, I n] [.a (rowF h who C n).a, .a (I (rowE h who C n))] := by
  refine fn_holds (vs := [.cell 8 44, .tmp 9]) (by kernel_rfl) Tryd.func20 rfl rfl (by kernel_rfl) (by kernel_rfl) rfl ?_
  have hm := t1128 h n
  have hl6 := txns_len6 h
  have e2 : rowF h who C n = if rowE h who C n = 0 then foundF (txns h) who C n.toNat else ⟨0, 0, [], 0⟩ := rfl
  have hwc : who ||| C < 2 ^ 32 := Nat.or_lt_two_pow hw hC
  have hor := u32_or hw hC
  have hal := afterR_len (txns h)
  have hshr := u32_shr (b := who ||| C) (k := (txns h).length) (by omega)
  by_cases hM : maySE h n = 0
  · obtain ⟨hE, hn0, hn1⟩ := mayS_ok hM
    have e1 : rowE h who C n = if (who ||| C) / 2 ^ (txns h).length = 0 then 0 else 7 := by rw [rowE, if_pos hM]
    rw [maySV, if_pos hM, hM] at hm
    by_cases hb : (who ||| C) / 2 ^ (txns h).length = 0
    · rw [if_pos hb] at e1
      rw [e1, if_pos rfl] at e2
      rw [e1, e2]
      (refine rO ?_; repeat' ((with_reducible first | refine rG ?_ | (refine rS ?_ ?_ <;> intro hp) | (refine rB ?_ ?_ <;> intro hb <;> try rw [hb]) | refine rD ?_ | refine rA ?_ | fail) <;> try simp only [go_sem, simprocAttr]))
      refine call_dat hm ?_
      have hlt := (Nat.div_eq_zero_iff_lt (Nat.two_pow_pos _)).1 hb
      have hw2 : who < 2 ^ (txns h).length := Nat.lt_of_le_of_lt Nat.left_le_or hlt
      obtain ⟨N, rfl⟩ : ∃ N : Nat, n = N := ⟨n.toNat, by omega⟩
      rw [Int.toNat_natCast]
      (refine rO ?_; repeat' ((with_reducible first | refine rG ?_ | (refine rS ?_ ?_ <;> intro hp) | (refine rB ?_ ?_ <;> intro hb <;> try rw [hb]) | refine rD ?_ | refine rA ?_ | fail) <;> try simp only [go_sem, simprocAttr, hor, hshr, hal, List.length_map, hb]))
      refine SemOp.old ?_
      (refine rO ?_; repeat' ((with_reducible first | refine rG ?_ | (refine rS ?_ ?_ <;> intro hp) | (refine rB ?_ ?_ <;> intro hb <;> try rw [hb]) | refine rD ?_ | refine rA ?_ | fail) <;> try simp only [go_sem, simprocAttr, y_build0]))
      refine call_inl (search_inl h hE who C N hw2 hC (by omega) (o := 38) rfl (by simp only [go_sem, simprocAttr]; simp [seaR]) fun σ' hL => ?_)
      have m8 := hL.m (o := 8) (x := .box [.a (I 0), .a (U 0), .a (.d (.sl [])), .a (I 0)]) rfl rfl (by simp only [go_sem, simprocAttr]; rfl) rfl
      have r8 := hL.r (t := 8) (r := .ref 8 0) (by simp only [go_sem, simprocAttr]) up_ref1
      (refine rO ?_; repeat' ((with_reducible first | refine rG ?_ | (refine rS ?_ ?_ <;> intro hp) | (refine rB ?_ ?_ <;> intro hb <;> try rw [hb]) | refine rD ?_ | refine rA ?_ | fail) <;> try simp only [go_sem, simprocAttr, m8, r8, one_go]))
    · rw [if_neg hb] at e1
      rw [e1, if_neg (by decide)] at e2
      rw [e1, e2]
      have hbI : ¬ (((who ||| C) / 2 ^ (txns h).length : Nat) : Int) = 0 := by omega
      (refine rO ?_; repeat' ((with_reducible first | refine rG ?_ | (refine rS ?_ ?_ <;> intro hp) | (refine rB ?_ ?_ <;> intro hb <;> try rw [hb]) | refine rD ?_ | refine rA ?_ | fail) <;> try simp only [go_sem, simprocAttr]))
      refine call_dat hm ?_
      (refine rO ?_; repeat' ((with_reducible first | refine rG ?_ | (refine rS ?_ ?_ <;> intro hp) | (refine rB ?_ ?_ <;> intro hb <;> try rw [hb]) | refine rD ?_ | refine rA ?_ | fail) <;> try simp only [go_sem, simprocAttr, hor, hshr, hal, List.length_map, hbI]))
      refine SemOp.old ?_
      (refine rO ?_; repeat' ((with_reducible first | refine rG ?_ | (refine rS ?_ ?_ <;> intro hp) | (refine rB ?_ ?_ <;> intro hb <;> try rw [hb]) | refine rD ?_ | refine rA ?_ | fail) <;> try simp only [go_sem, simprocAttr, y_build0]))
      rfl
  · have e1 : rowE h who C n = maySE h n := by rw [rowE, if_neg hM]
    rw [e1, if_neg hM] at e2
    rw [maySV, if_neg hM] at hm
    rw [e1, e2]
    (refine rO ?_; repeat' ((with_reducible first | refine rG ?_ | (refine rS ?_ ?_ <;> intro hp) | (refine rB ?_ ?_ <;> intro hb <;> try rw [hb]) | refine rD ?_ | refine rA ?_ | fail) <;> try simp only [go_sem, simprocAttr]))
    refine call_dat hm ?_
    (refine rO ?_; repeat' ((with_reducible first | refine rG ?_ | (refine rS ?_ ?_ <;> intro hp) | (refine rB ?_ ?_ <;> intro hb <;> try rw [hb]) | refine rD ?_ | refine rA ?_ | fail) <;> try simp only [go_sem, simprocAttr, hM]))
    refine SemOp.old ?_
    (refine rO ?_; repeat' ((with_reducible first | refine rG ?_ | (refine rS ?_ ?_ <;> intro hp) | (refine rB ?_ ?_ <;> intro hb <;> try rw [hb]) | refine rD ?_ | refine rA ?_ | fail) <;> try simp only [go_sem, simprocAttr, y_build0]))
    rfl
end Go.VC
end
section
set_option maxRecDepth 100000
set_option linter.unusedSimpArgs false
set_option linter.unusedVariables false
set_option linter.unnecessarySimpa false
namespace Go.VC
open Go.RowKit Go.Proofs Go.IntWalk
/-- What is found of some choices, behind so many steps. -/
def srchN (T : List Txn) (who B : Nat) : List Nat → Nat → Fnd
  | [], st => ⟨1, 0, [], st⟩
  | c :: cs, st => if (foundF T who c (B - st)).v = 1 then srchN T who B cs (st + (foundF T who c (B - st)).s) else ⟨(foundF T who c (B - st)).v, (foundF T who c (B - st)).c, (foundF T who c (B - st)).row, st + (foundF T who c (B - st)).s⟩
def allN (T : List Txn) : Nat := 2 ^ T.length - 1
def srchF (h : List Ev) (n : Int) : Fnd := if maySE h n = 0 then srchN (txns h) (allN (txns h)) n.toNat (choicesL (txns h)) 0 else ⟨0, 0, [], 0⟩
theorem found_s (T : List Txn) (who C B : Nat) : (foundF T who C B).s ≤ B := by
  have := goF_ok (T := T) (who := who) (C := C) (B := B) (T.length + 1) [] 0 (Nat.zero_le _)
  unfold foundF
  generalize goF T who C B (T.length + 1) [] 0 = o at this
  cases o with
  | ret s => exact this
  | fin v r s =>
    simp only [Out.fnd]
    split
    · exact this.1
    · exact this.1
theorem choices_lt {l : List Txn} (hl : l.length ≤ 6) : ∀ C ∈ choicesL l, choiceB l C = true ∧ C < 2 ^ 32 := fun C hC => by
  have h1 : choiceB l C = true := by rw [← choice_any hl, List.any_eq_true]; exact ⟨C, hC, by simp⟩
  refine ⟨h1, ?_⟩
  have := h1
  simp only [choiceB, Bool.and_eq_true, decide_eq_true_eq] at this
  have h2 := (Nat.div_eq_zero_iff_lt (Nat.two_pow_pos _)).1 this.2
  exact Nat.lt_of_lt_of_le h2 (Nat.pow_le_pow_right (by omega) (by omega))
theorem srch_drop {T : List Txn} {who B : Nat} {L : List Nat} {j st : Nat} (hj : j < L.length) : srchN T who B (L.drop j) st = if (foundF T who L[j] (B - st)).v = 1 then srchN T who B (L.drop (j + 1)) (st + (foundF T who L[j] (B - st)).s) else ⟨(foundF T who L[j] (B - st)).v, (foundF T who L[j] (B - st)).c, (foundF T who L[j] (B - st)).row, st + (foundF T who L[j] (B - st)).s⟩ := by
  rw [List.drop_eq_getElem_cons hj]; rfl
theorem t1061 (h : List Ev) (n : Int) : Holds Tryd.prog GL 27 [evsA h, I n] [.a (srchF h n).a, .a (I (maySE h n))] := by
  refine fn_holds (vs := [.cell 4 44, .tmp 5]) (by kernel_rfl) Tryd.func27 rfl rfl (by kernel_rfl) (by kernel_rfl) rfl ?_
  have hm := t1128 h n
  have hl6 := txns_len6 h
  have e2 : srchF h n = if maySE h n = 0 then srchN (txns h) (allN (txns h)) n.toNat (choicesL (txns h)) 0 else ⟨0, 0, [], 0⟩ := rfl
  have hch := t1042 h
  by_cases hM : maySE h n = 0
  · obtain ⟨hE, hn0, hn1⟩ := mayS_ok hM
    obtain ⟨N, rfl⟩ : ∃ N : Nat, n = N := ⟨n.toNat, by omega⟩
    rw [if_pos hM, Int.toNat_natCast] at e2
    rw [maySV, if_pos hM, hM] at hm
    rw [choicesV, if_pos hE, hE] at hch
    have hal := afterR_len (txns h)
    have hCl := choices_lt hl6
    have hcl : (choicesL (txns h)).length ≤ 64 := choices_len (bitsN (isSt (txns h) 2) (txns h).length) (bitsN (isSt (txns h) 1) (txns h).length)
    have hwho : allN (txns h) < 2 ^ (txns h).length := by have := Nat.two_pow_pos (txns h).length; unfold allN; omega
    have h2p : 2 ^ (txns h).length ≤ 2 ^ 6 := Nat.pow_le_pow_right (by omega) hl6
    have hsub : IntKind.u32.wrap (((2 ^ (txns h).length : Nat) : Int) - 1) = ((allN (txns h) : Nat) : Int) := by
      have := Nat.two_pow_pos (txns h).length
      rw [show ((2 ^ (txns h).length : Nat) : Int) - 1 = ((allN (txns h) : Nat) : Int) by unfold allN; omega]
      exact u32_in _ (by unfold allN; omega)
    have hshl := u32_shl (k := (txns h).length) (by omega)
    generalize hL0 : choicesL (txns h) = L at *
    rw [e2, hM]
    (refine rO ?_; repeat' ((with_reducible first | refine rG ?_ | (refine rS ?_ ?_ <;> intro hp) | (refine rB ?_ ?_ <;> intro hb <;> try rw [hb]) | refine rD ?_ | refine rA ?_ | fail) <;> try simp only [go_sem, simprocAttr]))
    refine call_dat hm ?_
    (refine rO ?_; repeat' ((with_reducible first | refine rG ?_ | (refine rS ?_ ?_ <;> intro hp) | (refine rB ?_ ?_ <;> intro hb <;> try rw [hb]) | refine rD ?_ | refine rA ?_ | fail) <;> try simp only [go_sem, simprocAttr]))
    refine call_dat hch ?_
    (refine rO ?_; repeat' ((with_reducible first | refine rG ?_ | (refine rS ?_ ?_ <;> intro hp) | (refine rB ?_ ?_ <;> intro hb <;> try rw [hb]) | refine rD ?_ | refine rA ?_ | fail) <;> try simp only [go_sem, simprocAttr, List.length_map]))
    refine awp_loopA (fun p : Nat × Nat => [(0, .a (evsA h)), (1, .a (I N)), (4, .ref 4 0), (6, .a (unsA (afterR (txns h)))), (10, .a (I p.2)), (29, .a (unsA L)), (30, .a (I L.length)), (31, .a (I p.1))]) (fun _ => [(4, .box [.a (I 0), .a (U 0), .a (.d (.sl [])), .a (I 0)])]) (fun p => p.1 ≤ L.length ∧ p.2 ≤ N ∧ srchN (txns h) (allN (txns h)) N L 0 = srchN (txns h) (allN (txns h)) N (L.drop p.1) p.2) (fun p => L.length - p.1) (0, 0) ?_ ?_ ⟨Nat.zero_le _, Nat.zero_le _, rfl⟩ ?_
    · simp only [go_sem, simprocAttr, List.length_map]; try rfl
    · simp only [go_sem, simprocAttr]; try rfl
    rintro ⟨j, st⟩ jj ⟨hj, hst, hq⟩
    (refine rO ?_; repeat' ((with_reducible first | refine rG ?_ | (refine rS ?_ ?_ <;> intro hp) | (refine rB ?_ ?_ <;> intro hb <;> try rw [hb]) | refine rD ?_ | refine rA ?_ | fail) <;> try simp only [go_sem, simprocAttr]))
    · have hjl : j < L.length := by omega
      have hx : L[j]? = some L[j] := List.getElem?_eq_getElem hjl
      have hwj := wrap_succ (n := L.length) hjl (by simp only [maxLen]; omega)
      have hC := (hCl _ (List.getElem_mem hjl)).2
      dsimp only at hst hq
      rw [srch_drop hjl] at hq
      have hfs := found_s (txns h) (allN (txns h)) L[j] (N - st)
      have hinl := fun {σ : S} {o : Nat} {K : S → List R → Prop} => @search_inl h hE (allN (txns h)) L[j] (N - st) hwho hC (by omega) σ o K
      generalize foundF (txns h) (allN (txns h)) L[j] (N - st) = F at hq hfs hinl
      generalize L[j] = c at hx hC hinl
      have hws : IntKind.i64.wrap ((N : Int) - (st : Int)) = (N : Int) - (st : Int) := i64_in _ (by omega)
      have hwt : IntKind.i64.wrap ((st : Int) + (F.s : Int)) = ((st + F.s : Nat) : Int) := by rw [i64_in _ (by omega)]; omega
      (refine rO ?_; repeat' ((with_reducible first | refine rG ?_ | (refine rS ?_ ?_ <;> intro hp) | (refine rB ?_ ?_ <;> intro hb <;> try rw [hb]) | refine rD ?_ | refine rA ?_ | fail) <;> try simp only [go_sem, simprocAttr, hx, uenc_eq, List.length_map, hal, hshl, hsub, hws]))
      refine SemOp.old ?_
      (refine rO ?_; repeat' ((with_reducible first | refine rG ?_ | (refine rS ?_ ?_ <;> intro hp) | (refine rB ?_ ?_ <;> intro hb <;> try rw [hb]) | refine rD ?_ | refine rA ?_ | fail) <;> try simp only [go_sem, simprocAttr, y_build0, hws]))
      refine call_inl (hinl (o := 46) rfl (by simp only [go_sem, simprocAttr]; simp [seaR]; omega) fun σ' hL => ?_)
      have m4 := hL.m (o := 4) (x := .box [.a (I 0), .a (U 0), .a (.d (.sl [])), .a (I 0)]) rfl rfl (by simp only [go_sem, simprocAttr]) rfl
      have r0 := hL.r (t := 0) (r := .a (evsA h)) (by simp only [go_sem, simprocAttr]) rfl
      have r1 := hL.r (t := 1) (r := .a (I N)) (by simp only [go_sem, simprocAttr]) rfl
      have r4 := hL.r (t := 4) (r := .ref 4 0) (by simp only [go_sem, simprocAttr]) up_ref1
      have r6 := hL.r (t := 6) (r := .a (unsA (afterR (txns h)))) (by simp only [go_sem, simprocAttr]) rfl
      have r10 := hL.r (t := 10) (r := .a (I st)) (by simp only [go_sem, simprocAttr]) rfl
      have r29 := hL.r (t := 29) (r := .a (unsA L)) (by simp only [go_sem, simprocAttr]) rfl
      have r30 := hL.r (t := 30) (r := .a (I L.length)) (by simp only [go_sem, simprocAttr]) rfl
      have r31 := hL.r (t := 31) (r := .a (I j)) (by simp only [go_sem, simprocAttr]) rfl
      (refine rO ?_; repeat' ((with_reducible first | refine rG ?_ | (refine rS ?_ ?_ <;> intro hp) | (refine rB ?_ ?_ <;> intro hb <;> try rw [hb]) | refine rD ?_ | refine rA ?_ | fail) <;> try simp only [go_sem, simprocAttr, m4, r0, r1, r4, r6, r10, r29, r30, r31, one_go, hwt, hwj]))
      · rw [if_pos (show F.v = 1 by omega)] at hq
        exact ⟨(j + 1, st + F.s), by simp only [go_sem, simprocAttr, r0, r1, r4, r6, r10, r29, r30, r31, hwt, hwj], by simp only [go_sem, simprocAttr, m4], ⟨hjl, by dsimp only; omega, hq⟩, by dsimp only; omega⟩
      · rw [if_neg (show ¬ F.v = 1 by omega)] at hq
        rw [hq]
    · have hjl : j = L.length := by have := hj; dsimp only at this; omega
      dsimp only at hq
      rw [hjl, List.drop_length] at hq
      rw [hq]
      refine SemOp.old ?_
      (refine rO ?_; repeat' ((with_reducible first | refine rG ?_ | (refine rS ?_ ?_ <;> intro hp) | (refine rB ?_ ?_ <;> intro hb <;> try rw [hb]) | refine rD ?_ | refine rA ?_ | fail) <;> try simp only [go_sem, simprocAttr, y_build0]))
      rfl
  · rw [if_neg hM] at e2
    rw [maySV, if_neg hM] at hm
    rw [e2]
    (refine rO ?_; repeat' ((with_reducible first | refine rG ?_ | (refine rS ?_ ?_ <;> intro hp) | (refine rB ?_ ?_ <;> intro hb <;> try rw [hb]) | refine rD ?_ | refine rA ?_ | fail) <;> try simp only [go_sem, simprocAttr]))
    refine call_dat hm ?_
    (refine rO ?_; repeat' ((with_reducible first | refine rG ?_ | (refine rS ?_ ?_ <;> intro hp) | (refine rB ?_ ?_ <;> intro hb <;> try rw [hb]) | refine rD ?_ | refine rA ?_ | fail) <;> try simp only [go_sem, simprocAttr, hM]))
    refine SemOp.old ?_
    (refine rO ?_; repeat' ((with_reducible first | refine rG ?_ | (refine rS ?_ ?_ <;> intro hp) | (refine rB ?_ ?_ <;> intro hb <;> try rw [hb]) | refine rD ?_ | refine rA ?_ | fail) <;> try simp only [go_sem, simprocAttr, y_build0]))
    rfl
def aliveS : List Ev := [⟨0, 1, 0, 0⟩, ⟨1, 1, 0, 0⟩, ⟨4, 1, 0, 5⟩, ⟨5, 1, 0, 0⟩, ⟨6, 1, 0, 0⟩, ⟨0, 2, 0, 0⟩, ⟨1, 2, 0, 0⟩, ⟨2, 2, 0, 0⟩, ⟨3, 2, 0, 5⟩]
theorem aliveS_e : maySE aliveS 9 = 0 := by decide +kernel
theorem aliveS_v : srchF aliveS 9 = ⟨0, 1, [0, 1], 5⟩ := by kernel_rfl
theorem t1057 : Holds Tryd.prog GL 22 [] [.a (B true)] := by
  refine fn_holds (vs := [.tmp 0]) (by kernel_rfl) Tryd.func22 rfl rfl (by kernel_rfl) (by kernel_rfl) rfl ?_
  (refine rO ?_; repeat' ((with_reducible first | refine rG ?_ | (refine rS ?_ ?_ <;> intro hp) | (refine rB ?_ ?_ <;> intro hb <;> try rw [hb]) | refine rD ?_ | refine rA ?_ | fail) <;> try simp only [go_sem, simprocAttr]))
  refine call_rest _ (t1061 aliveS 9) ?_
  rw [aliveS_e, aliveS_v]
  simp only [go_sem, simprocAttr, aliveS, Ev.enc_eq]
  refine ⟨rfl, ?_⟩
  (refine rO ?_; repeat' ((with_reducible first | refine rG ?_ | (refine rS ?_ ?_ <;> intro hp) | (refine rB ?_ ?_ <;> intro hb <;> try rw [hb]) | refine rD ?_ | refine rA ?_ | fail) <;> try simp only [go_sem, simprocAttr, rowI, List.map_cons, List.map_nil, ienc_eq]))
theorem c1057 {dst : Option Tmp} {σ : S} {K : S → Prop} (hK : σ.ret dst [.a (B true)] K) : callV Tryd.prog GL 22 [] dst σ K := call_dat t1057 hK
end Go.VC
end
section
set_option maxRecDepth 100000
set_option linter.unusedSimpArgs false
set_option linter.unusedVariables false
set_option linter.unnecessarySimpa false
namespace Go.VC
open Go.RowKit Go.Proofs Go.IntWalk
theorem or_bits {a b n : Nat} : (a ||| b) / 2 ^ n = 0 ↔ a / 2 ^ n = 0 ∧ b / 2 ^ n = 0 := by
  rw [Nat.div_eq_zero_iff_lt (Nat.two_pow_pos _), Nat.div_eq_zero_iff_lt (Nat.two_pow_pos _), Nat.div_eq_zero_iff_lt (Nat.two_pow_pos _)]
  exact ⟨fun h => ⟨Nat.lt_of_le_of_lt Nat.left_le_or h, Nat.lt_of_le_of_lt Nat.right_le_or h⟩, fun h => Nat.or_lt_two_pow h.1 h.2⟩
end Go.VC
end
section
set_option maxRecDepth 100000
set_option linter.unusedSimpArgs false
set_option linter.unusedVariables false
set_option linter.unnecessarySimpa false
namespace Go.VC
open Go.RowKit Go.Proofs Go.IntWalk
theorem choice_fit {l : List Txn} {C : Nat} (h : choiceB l C = true) : C < 2 ^ l.length := by
  simp only [choiceB, Bool.and_eq_true, decide_eq_true_eq] at h
  exact (Nat.div_eq_zero_iff_lt (Nat.two_pow_pos _)).1 h.2
theorem may_less {h : List Ev} {n m : Int} (hm : maySE h n = 0) (h0 : 0 ≤ m) (h1 : m ≤ n) : maySE h m = 0 := by
  obtain ⟨hE, a, b⟩ := mayS_ok hm
  unfold maySE
  rw [if_pos hE, if_pos ⟨h0, by omega⟩]
end Go.VC
end
section
set_option maxRecDepth 100000
set_option linter.unusedSimpArgs false
set_option linter.unusedVariables false
set_option linter.unnecessarySimpa false
namespace Go.VC
open Go.RowKit Go.Proofs Go.IntWalk
/-- What memory is behind a row. -/
def memD (T : List Txn) (C : Nat) (done : List Nat) : List Int := done.foldl (fun m k => if C.testBit k = true then withF m (opsAt T (k : Int)) else m) [0, 0, 0, 0, 0, 0, 0, 0]
def okK (T : List Txn) (C : Nat) (done : List Nat) (k : Nat) : Bool := !decide (ownF (opsAt T (k : Int)) (memD T C done) < (opsAt T (k : Int)).length)
theorem memD_s (T : List Txn) (C : Nat) (done : List Nat) (k : Nat) : memD T C (done ++ [k]) = if C.testBit k = true then withF (memD T C done) (opsAt T (k : Int)) else memD T C done := by
  simp [memD]
theorem memTo_D (T : List Txn) (C : Nat) (row : List Nat) : ∀ j, j ≤ row.length → memTo T C (rowI row) j = memD T C (row.take j)
  | 0, _ => rfl
  | j + 1, h => by
    have hj : j < row.length := h
    have hx : (rowI row)[j]? = some ((row[j] : Nat) : Int) := by simp [rowI, hj]
    simp only [memTo, hx]
    rw [memTo_D T C row j (by omega), List.take_succ_eq_append_getElem hj, memD_s, Int.toNat_natCast]
def LegR (T : List Txn) (C : Nat) (row : List Nat) : Prop := ∀ j, (hj : j < row.length) → okK T C (row.take j) row[j] = true
theorem bad_ok {T : List Txn} {C : Nat} {row : List Nat} {j : Nat} (hj : j < row.length) : legBad T C (rowI row) j = !okK T C (row.take j) row[j] := by
  have hx : (rowI row)[j]? = some ((row[j] : Nat) : Int) := by simp [rowI, hj]
  simp only [legBad, hx, okK, memTo_D T C row j (Nat.le_of_lt hj), Bool.not_not]
theorem firstB_all {p : Nat → Bool} {n : Nat} (h : firstB p n = n) : ∀ i, i < n → p i = false := by
  intro i
  induction i using Nat.strongRecOn with
  | _ i ih =>
    intro hi
    cases hp : p i with
    | false => rfl
    | true =>
      have := firstB_hit hi (fun j hj => ih j hj (by omega)) hp
      omega
theorem leg_iff {T : List Txn} {C : Nat} {row : List Nat} : legalN T C (rowI row) = row.length ↔ LegR T C row := by
  have hl : (rowI row).length = row.length := by simp [rowI]
  unfold legalN
  rw [hl]
  constructor
  · intro h j hj
    have := firstB_all h j hj
    rw [bad_ok hj] at this
    simpa using this
  · intro h
    refine firstB_none fun i hi => ?_
    rw [bad_ok hi, h i hi]; rfl
theorem leg_s {T : List Txn} {C : Nat} {row : List Nat} {k : Nat} : LegR T C (row ++ [k]) ↔ LegR T C row ∧ okK T C row k = true := by
  constructor
  · intro h
    refine ⟨fun j hj => ?_, ?_⟩
    · have := h j (by simp; omega)
      rwa [List.take_append_of_le_length (by omega), List.getElem_append_left hj] at this
    · have := h row.length (by simp)
      simpa using this
  · rintro ⟨h1, h2⟩ j hj
    by_cases hjl : j < row.length
    · rw [List.take_append_of_le_length (by omega), List.getElem_append_left hjl]; exact h1 j hjl
    · obtain rfl : j = row.length := by simp at hj; omega
      simpa using h2
/-- A row goes on well. -/
def goodF (T : List Txn) (who C : Nat) : List Nat → List Nat → Prop
  | _, [] => True
  | done, k :: rest => mayGo T who done k = true ∧ okK T C done k = true ∧ goodF T who C (done ++ [k]) rest
theorem fold_hit {T : List Txn} {who C B : Nat} {rec : List Nat → Nat → Out} {row r : List Nat} {v s' : Nat} : ∀ (l : List Nat) (s : Nat), l.foldl (goStep T who C B rec row) (.ret s) = .fin v r s' → ∃ k ∈ l, ∃ s1, goStep T who C B rec row (.ret s1) k = .fin v r s'
  | [], s, h => by cases h
  | k :: l, s, h => by
    rw [List.foldl_cons] at h
    cases ho : goStep T who C B rec row (.ret s) k with
    | ret s2 =>
      rw [ho] at h
      obtain ⟨k', hk, hs⟩ := fold_hit l s2 h
      exact ⟨k', List.mem_cons_of_mem _ hk, hs⟩
    | fin v2 r2 s2 =>
      rw [ho, foldL_fin] at h
      exact ⟨k, List.mem_cons_self, s, by rw [ho, h]⟩
/-- What is found is good. -/
theorem goF_yes {T : List Txn} {who C B : Nat} : ∀ (f : Nat) (row : List Nat) (s : Nat) (r : List Nat) (s' : Nat), LegR T C row → goF T who C B f row s = .fin 0 r s' → ∃ rest, r = row ++ rest ∧ goodF T who C row rest ∧ rowB r = who
  | 0, row, s, r, s', hl, h => by cases h
  | f + 1, row, s, r, s', hl, h => by
    simp only [goF] at h
    split at h
    · rename_i hw
      cases h
      exact ⟨[], by simp, trivial, hw⟩
    · obtain ⟨k, hk, s1, hs⟩ := fold_hit _ _ h
      simp only [goStep] at hs
      split at hs
      · rename_i hm
        split at hs
        · cases hs
        · split at hs
          · rename_i hleg
            have hlr : LegR T C (row ++ [k]) := leg_iff.1 (by rw [hleg]; simp)
            obtain ⟨rest, hr, hg, hb⟩ := goF_yes f _ _ _ _ hlr hs
            exact ⟨k :: rest, by rw [hr]; simp, ⟨hm, (leg_s.1 hlr).2, hg⟩, hb⟩
          · cases hs
      · cases hs
theorem fold_ret {T : List Txn} {who C B : Nat} {rec : List Nat → Nat → Out} {row : List Nat} {s' : Nat} : ∀ (l : List Nat) (s : Nat), l.foldl (goStep T who C B rec row) (.ret s) = .ret s' → ∀ k ∈ l, ∃ s1 s2, goStep T who C B rec row (.ret s1) k = .ret s2
  | [], s, h, k, hk => by cases hk
  | x :: l, s, h, k, hk => by
    rw [List.foldl_cons] at h
    cases ho : goStep T who C B rec row (.ret s) x with
    | ret s2 =>
      rw [ho] at h
      rcases List.mem_cons.1 hk with rfl | hk
      · exact ⟨s, s2, ho⟩
      · exact fold_ret l s2 h k hk
    | fin v2 r2 s2 => rw [ho, foldL_fin] at h; cases h
/-- What is good is found. -/
theorem goF_no {T : List Txn} {who C B : Nat} (hw : who < 2 ^ T.length) : ∀ (f : Nat) (row rest : List Nat) (s s' : Nat), rest.length < f → LegR T C row → goodF T who C row rest → rowB (row ++ rest) = who → goF T who C B f row s ≠ .ret s'
  | 0, row, rest, s, s', hf, _, _, _ => by omega
  | f + 1, row, rest, s, s', hf, hl, hg, hb => by
    simp only [goF]
    split
    · exact fun h => by cases h
    · rename_i hne
      cases rest with
      | nil => rw [List.append_nil] at hb; exact absurd hb hne
      | cons k rest =>
        obtain ⟨h1, h2, h3⟩ := hg
        intro h
        have hk : k < T.length := by
          have hwk : who.testBit k = true := by
            simp only [mayGo, Bool.and_eq_true] at h1; exact h1.1.1
          refine Decidable.byContradiction fun hn => ?_
          rw [Nat.testBit_lt_two_pow (Nat.lt_of_lt_of_le hw (Nat.pow_le_pow_right (by omega) (by omega)))] at hwk
          cases hwk
        obtain ⟨s1, s2, hs⟩ := fold_ret _ _ h k (List.mem_range.2 hk)
        have hlr : LegR T C (row ++ [k]) := leg_s.2 ⟨hl, h2⟩
        have hleg : legalN T C (rowI (row ++ [k])) = row.length + 1 := by rw [leg_iff.2 hlr]; simp
        simp only [goStep, if_pos h1, if_pos hleg] at hs
        split at hs
        · cases hs
        · exact goF_no hw f _ rest _ _ (by simp only [List.length_cons] at hf; omega) hlr h3 (by rw [List.append_assoc]; exact hb) hs
/-- How many steps there are. -/
def stepsN : Nat → Nat
  | 0 => 0
  | m + 1 => (m + 1) * (1 + stepsN m)
def OutIn (b : Nat) : Out → Prop
  | .ret s => s ≤ b
  | .fin v _ s => v = 0 ∧ s ≤ b
theorem left_less {n who : Nat} {row : List Nat} {k : Nat} (hk : k ∈ leftL n who row) : (leftL n who (row ++ [k])).length < (leftL n who row).length := by
  have e : leftL n who (row ++ [k]) = (leftL n who row).filter fun i => i != k := by
    rw [leftL, leftL, List.filter_filter]
    congr 1
    funext i
    by_cases h : i = k
    · subst h; simp
    · have : (i != k) = true := by simpa using h
      simp [this, h]
  rw [e]
  exact List.length_filter_lt_length_iff_exists.2 ⟨k, hk, by simp⟩
theorem fold_in {T : List Txn} {who C B : Nat} {rec : List Nat → Nat → Out} {row : List Nat} {c : Nat} : ∀ (l : List Nat) (s : Nat), s + l.length * (1 + c) ≤ B → (∀ k ∈ l, ∀ s, s + c ≤ B → OutIn (s + c) (rec (row ++ [k]) s)) → OutIn (s + l.length * (1 + c)) (l.foldl (goStep T who C B rec row) (.ret s))
  | [], s, _, _ => by simp [OutIn]
  | k :: l, s, hB, hr => by
    rw [List.foldl_cons]
    have hm : (k :: l).length * (1 + c) = l.length * (1 + c) + (1 + c) := by rw [List.length_cons, Nat.succ_mul]
    rw [hm] at hB ⊢
    have h1 : OutIn (s + (1 + c)) (goStep T who C B rec row (.ret s) k) := by
      simp only [goStep]
      split
      · rw [if_neg (by omega)]
        split
        · have := hr k List.mem_cons_self (s + 1) (by omega)
          rwa [Nat.add_assoc] at this
        · show s + 1 ≤ _; omega
      · show s ≤ _; omega
    cases ho : goStep T who C B rec row (.ret s) k with
    | ret s2 =>
      rw [ho] at h1
      have h1 : s2 ≤ s + (1 + c) := h1
      have := fold_in (T := T) (who := who) (C := C) (B := B) (rec := rec) (row := row) (c := c) l s2 (by omega) fun k' hk' => hr k' (List.mem_cons_of_mem _ hk')
      cases hx : l.foldl (goStep T who C B rec row) (.ret s2) with
      | ret s3 => rw [hx] at this; have : s3 ≤ s2 + l.length * (1 + c) := this; show s3 ≤ _; omega
      | fin v3 r3 s3 => rw [hx] at this; have : v3 = 0 ∧ s3 ≤ s2 + l.length * (1 + c) := this; exact ⟨this.1, by omega⟩
    | fin v2 r2 s2 =>
      rw [ho] at h1
      have h1 : v2 = 0 ∧ s2 ≤ s + (1 + c) := h1
      rw [foldL_fin]
      exact ⟨h1.1, by omega⟩
/-- Steps are not more than there are. -/
theorem goF_in {T : List Txn} {who C B : Nat} : ∀ (f : Nat) (row : List Nat) (s m : Nat), (leftL T.length who row).length ≤ m → s + stepsN m ≤ B → OutIn (s + stepsN m) (goF T who C B f row s)
  | 0, row, s, m, _, h => by show s ≤ _; omega
  | f + 1, row, s, m, hm, h => by
    simp only [goF]
    split
    · exact ⟨rfl, by omega⟩
    · rw [fold_left]
      cases m with
      | zero =>
        have : leftL T.length who row = [] := List.eq_nil_of_length_eq_zero (by omega)
        rw [this]; show s ≤ _; omega
      | succ m =>
        have hs : stepsN (m + 1) = (m + 1) * (1 + stepsN m) := rfl
        have hle := Nat.mul_le_mul_right (1 + stepsN m) hm
        have := fold_in (T := T) (who := who) (C := C) (B := B) (rec := goF T who C B f) (row := row) (c := stepsN m) (leftL T.length who row) s (by omega) fun k hk s1 hs1 => by
          have hlt := left_less hk
          exact goF_in f (row ++ [k]) s1 m (by omega) hs1
        cases hx : (leftL T.length who row).foldl (goStep T who C B (goF T who C B f) row) (.ret s) with
        | ret s3 => rw [hx] at this; have : s3 ≤ s + (leftL T.length who row).length * (1 + stepsN m) := this; show s3 ≤ _; omega
        | fin v3 r3 s3 => rw [hx] at this; have : v3 = 0 ∧ s3 ≤ s + (leftL T.length who row).length * (1 + stepsN m) := this; exact ⟨this.1, by omega⟩
theorem leg_nil {T : List Txn} {C : Nat} : LegR T C [] := fun j hj => by cases hj
theorem good_nodup {T : List Txn} {who C : Nat} : ∀ (rest done : List Nat), goodF T who C done rest → done.Nodup → (done ++ rest).Nodup
  | [], done, _, h => by simpa using h
  | k :: rest, done, hg, h => by
    obtain ⟨h1, _, h3⟩ := hg
    simp only [mayGo, Bool.and_eq_true, Bool.not_eq_true'] at h1
    have hk : k ∉ done := fun hm => by have := h1.1.2; simp [hm] at this
    have := good_nodup rest (done ++ [k]) h3 (by
      rw [List.nodup_append]
      exact ⟨h, by simp, fun a ha b hb e => by simp at hb; subst hb; subst e; exact hk ha⟩)
    simpa using this
theorem good_who {T : List Txn} {who C : Nat} : ∀ (rest done : List Nat), goodF T who C done rest → ∀ k ∈ rest, who.testBit k = true
  | [], done, _, k, hk => by cases hk
  | x :: rest, done, hg, k, hk => by
    obtain ⟨h1, _, h3⟩ := hg
    rcases List.mem_cons.1 hk with rfl | hk
    · simp only [mayGo, Bool.and_eq_true] at h1; exact h1.1.1
    · exact good_who rest _ h3 k hk
theorem good_app {T : List Txn} {who C : Nat} {r2 : List Nat} : ∀ (r1 done : List Nat), goodF T who C done (r1 ++ r2) → goodF T who C done r1
  | [], _, _ => trivial
  | k :: r1, done, ⟨h1, h2, h3⟩ => ⟨h1, h2, good_app r1 _ h3⟩
theorem good_len {T : List Txn} {who C : Nat} {rest : List Nat} (hw : who < 2 ^ T.length) (h : goodF T who C [] rest) : rest.length ≤ T.length := by
  refine nodup_le _ _ (by simpa using good_nodup rest [] h List.nodup_nil) fun i hi => ?_
  have hwk := good_who rest [] h i hi
  refine Decidable.byContradiction fun hn => ?_
  rw [Nat.testBit_lt_two_pow (Nat.lt_of_lt_of_le hw (Nat.pow_le_pow_right (by omega) (by omega)))] at hwk
  cases hwk
theorem stepsN_6 : stepsN 6 = 1956 := rfl
/-- If there is a good row, a search with budget enough finds one. -/
theorem found_yes {T : List Txn} {who C B : Nat} {rest : List Nat} (hT : T.length ≤ 6) (hw : who < 2 ^ T.length) (hB : 1956 ≤ B) (hg : goodF T who C [] rest) (hb : rowB rest = who) : (foundF T who C B).v = 0 := by
  have hle : (leftL T.length who []).length ≤ 6 := Nat.le_trans (Nat.le_trans (List.length_filter_le _ _) (by simp)) hT
  have h1 := goF_in (T := T) (who := who) (C := C) (B := B) (T.length + 1) [] 0 6 hle (by rw [stepsN_6]; omega)
  have hln := good_len hw hg
  unfold foundF
  cases hx : goF T who C B (T.length + 1) [] 0 with
  | ret s' => exact absurd hx (goF_no hw _ [] rest 0 s' (by omega) leg_nil hg (by simpa using hb))
  | fin v r s' =>
    rw [hx] at h1
    obtain ⟨rfl, _⟩ : v = 0 ∧ _ := h1
    simp [Out.fnd]
/-- What a search found, with yes. -/
theorem found_row {T : List Txn} {who C B : Nat} (h : (foundF T who C B).v = 0) : (foundF T who C B).c = C ∧ goodF T who C [] (foundF T who C B).row ∧ rowB (foundF T who C B).row = who := by
  unfold foundF at h ⊢
  cases hx : goF T who C B (T.length + 1) [] 0 with
  | ret s' => rw [hx] at h; simp [Out.fnd] at h
  | fin v r s' =>
    rw [hx] at h
    simp only [Out.fnd] at h ⊢
    split at h
    · rename_i hv
      subst hv
      rw [if_pos rfl]
      obtain ⟨rest, hr, hg, hb⟩ := goF_yes _ _ _ _ _ leg_nil hx
      rw [List.nil_append] at hr
      subst hr
      exact ⟨rfl, hg, hb⟩
    · exact absurd h ‹¬ v = 0›
theorem memD_filter {T : List Txn} {C C' : Nat} {p : Nat → Bool} {done : List Nat} (h : ∀ k ∈ done, (C.testBit k = true → p k = true ∧ C'.testBit k = true) ∧ (C'.testBit k = true → C.testBit k = true)) : memD T C' (done.filter p) = memD T C done := by
  suffices ∀ m : List Int, (done.filter p).foldl (fun m k => if C'.testBit k = true then withF m (opsAt T (k : Int)) else m) m = done.foldl (fun m k => if C.testBit k = true then withF m (opsAt T (k : Int)) else m) m from this _
  induction done with
  | nil => intro m; rfl
  | cons k done ih =>
    intro m
    have hk := h k List.mem_cons_self
    have ih' := ih fun k' hk' => h k' (List.mem_cons_of_mem _ hk')
    rw [List.foldl_cons]
    cases hC : C.testBit k with
    | true =>
      obtain ⟨hp, hC'⟩ := hk.1 hC
      rw [List.filter_cons_of_pos hp, List.foldl_cons, hC']
      exact ih' _
    | false =>
      have hC' : C'.testBit k = false := by
        cases hx : C'.testBit k with
        | false => rfl
        | true => rw [hk.2 hx] at hC; cases hC
      by_cases hp : p k = true
      · rw [List.filter_cons_of_pos hp, List.foldl_cons, hC']
        exact ih' _
      · rw [List.filter_cons_of_neg hp]
        exact ih' _
theorem good_filter {T : List Txn} {who who' C C' : Nat} {p : Nat → Bool} (hw : ∀ i, who'.testBit i = (who.testBit i && p i)) : ∀ (rest done : List Nat), (∀ k ∈ done ++ rest, (C.testBit k = true → p k = true ∧ C'.testBit k = true) ∧ (C'.testBit k = true → C.testBit k = true)) → goodF T who C done rest → goodF T who' C' (done.filter p) (rest.filter p)
  | [], done, _, _ => trivial
  | k :: rest, done, hc, ⟨h1, h2, h3⟩ => by
    have ih := good_filter hw rest (done ++ [k]) (by simpa using hc) h3
    rw [List.filter_append] at ih
    by_cases hp : p k = true
    · rw [List.filter_cons_of_pos hp]
      rw [show [k].filter p = [k] by simp [hp]] at ih
      refine ⟨?_, ?_, ih⟩
      · simp only [mayGo, Bool.and_eq_true, Bool.not_eq_true', freeR, List.all_eq_true] at h1 ⊢
        obtain ⟨⟨a1, a2⟩, a3⟩ := h1
        refine ⟨⟨by rw [hw, a1, hp]; rfl, ?_⟩, fun i hi => ?_⟩
        · cases hx : (done.filter p).contains k with
          | false => rfl
          | true =>
            have : k ∈ done := (List.mem_filter.1 (by simpa using hx)).1
            simp [this] at a2
        · have := a3 i hi
          rw [hw]
          cases hpi : p i with
          | false => simp
          | true =>
            have hcc : (done.filter p).contains i = done.contains i := by
              rw [Bool.eq_iff_iff]; simp [hpi]
            rw [hcc, Bool.and_true]
            exact this
      · have hm := memD_filter (T := T) (C := C) (C' := C') (p := p) (done := done) fun k' hk' => hc k' (by simp [hk'])
        rw [okK, hm]; exact h2
    · rw [List.filter_cons_of_neg hp]
      rw [show [k].filter p = [] by simp [hp], List.append_nil] at ih
      exact ih
end Go.VC
end
section
set_option maxRecDepth 100000
set_option linter.unusedSimpArgs false
set_option linter.unusedVariables false
set_option linter.unnecessarySimpa false
set_option linter.defProp false
namespace Go.VC
open Go.RowKit
section
variable {P : Program} {gl : Nat → Option (List D)} {σ : S} {o : Oper} {d : Nat} {x : Ob}
/-- The state behind an alloc. -/
def allocS (σ : S) (d : Nat) (x : Ob) : S := (σ.newOb d x).put (some d) (.ref d 0)
theorem const_kill (v : Value) : (constR v).kill d = constR v := by
  unfold constR
  (repeat' split) <;> rfl
theorem eval_alloc {y : Operand} (h : y ≠ .tmp d) : (allocS σ d x).eval gl y = (σ.eval gl y).kill d := by
  cases y with
  | tmp t =>
    have ht : t ≠ d := fun e => h (by rw [e])
    simp [allocS, S.eval, S.put, S.newOb, upd, ht]
  | const v => exact (const_kill v).symm
  | global g => simp only [S.eval]; split <;> rfl
  | func f => rfl
theorem kill_inv {r r' : R} (h : r.kill d = r') (hn : r' ≠ .any) : r = r' ∧ r.says d = false := by
  unfold R.kill at h
  cases hs : r.says d with
  | true => rw [hs, if_pos rfl] at h; exact absurd h.symm hn
  | false => rw [hs] at h; exact ⟨by simpa using h, rfl⟩
theorem mem_alloc {o' : Nat} (h : o' ≠ d) : (allocS σ d x).mem o' = (σ.mem o').map (Ob.kill d) := by
  simp [allocS, S.put, S.newOb, upd, h]
theorem kbox_inv {z : Ob} {cs' : List R} (h : Ob.kill d z = .box cs') : ∃ cs, z = .box cs ∧ cs' = cs.map (R.kill d) := by
  cases z with
  | box cs => cases h; exact ⟨cs, rfl, rfl⟩
  | sem y => simp only [Ob.kill] at h; split at h <;> cases h
  | _ => cases h
theorem klog_inv {z : Ob} {e s : Nat} {xs : List (List D)} (h : Ob.kill d z = .log e s xs) : z = .log e s xs := by
  cases z with
  | log => exact h
  | sem y => simp only [Ob.kill] at h; split at h <;> cases h
  | _ => cases h
theorem kmpo_inv {z : Ob} {kv : List (Int × D)} (h : Ob.kill d z = .mpo kv) : z = .mpo kv := by
  cases z with
  | mpo => exact h
  | sem y => simp only [Ob.kill] at h; split at h <;> cases h
  | _ => cases h
theorem allD_kill : ∀ {cs : List R} {ds : List D}, allD (cs.map (R.kill d)) = some ds → allD cs = some ds
  | [], ds, h => h
  | c :: cs, ds, h => by
    rw [List.map_cons] at h
    cases hc : c.kill d with
    | a y =>
      rw [hc] at h
      obtain ⟨rfl, _⟩ := kill_inv hc (by simp)
      cases y with
      | d y =>
        simp only [allD] at h ⊢
        obtain ⟨ds', h1, rfl⟩ := Option.map_eq_some_iff.1 h
        rw [allD_kill h1]; rfl
      | ag ys => simp [allD] at h
    | _ => rw [hc] at h; simp [allD] at h
theorem says_ref {o' off : Nat} (h : (R.ref o' off).says d = false) : o' ≠ d := by simpa [R.says, R.says0] using h
theorem says_eref {o' i s j : Nat} (h : (R.eref o' i s j).says d = false) : o' ≠ d := by simpa [R.says, R.says0] using h
theorem says_own {o' : Nat} (h : (R.own o').says d = false) : o' ≠ d := by simpa [R.says, R.says0] using h
theorem says_omp {o' : Nat} (h : (R.omp o').says d = false) : o' ≠ d := by simpa [R.says, R.says0] using h
theorem not_says {r : R} (h : r.says d = false) : r.kill d = r := by rw [R.kill, h]; rfl
theorem load_kill {t : TypeId} {p r : R} (h : loadR P (allocS σ d x) t (p.kill d) = some r) : ∃ r', loadR P σ t p = some r' ∧ r'.kill d = r := by
  unfold loadR at h ⊢
  split at h
  · cases h
  · rename_i ti hti
    split at h
    · rename_i o' off hp
      obtain ⟨rfl, hs⟩ := kill_inv hp (by simp)
      rw [mem_alloc (says_ref hs)] at h
      split at h
      · rename_i cs' hm
        obtain ⟨z, hz, hk⟩ := Option.map_eq_some_iff.1 hm
        obtain ⟨cs, rfl, rfl⟩ := kbox_inv hk
        simp only [hz]
        split at h
        · split at h
          · obtain ⟨ds, h1, rfl⟩ := Option.map_eq_some_iff.1 h
            rw [← List.map_drop, ← List.map_take] at h1
            rename_i hle
            rw [List.length_map] at hle
            exact ⟨.a (.ag ds), by rw [if_pos hle, allD_kill h1]; rfl, rfl⟩
          · cases h
        · rw [List.getElem?_map] at h
          obtain ⟨r', h1, rfl⟩ := Option.map_eq_some_iff.1 h
          exact ⟨r', h1, rfl⟩
      · cases h
    · rename_i cs hp
      obtain ⟨rfl, _⟩ := kill_inv hp (by simp)
      refine ⟨r, h, ?_⟩
      split at h
      · split at h
        · cases h; rfl
        · cases h
      · obtain ⟨y, _, rfl⟩ := Option.map_eq_some_iff.1 h; rfl
    · rename_i o' i s j hp
      obtain ⟨rfl, hs⟩ := kill_inv hp (by simp)
      rw [mem_alloc (says_eref hs)] at h
      split at h
      · rename_i e' s' xs hm
        obtain ⟨z, hz, hk⟩ := Option.map_eq_some_iff.1 hm
        obtain rfl := klog_inv hk
        simp only [hz]
        refine ⟨r, h, ?_⟩
        (repeat' split at h) <;> first | (cases h; done) | (cases h; rfl) | (obtain ⟨y, _, rfl⟩ := Option.map_eq_some_iff.1 h; rfl) | (simp at h; obtain ⟨_, rfl⟩ := h; rfl)
      · cases h
    · cases h
theorem arg_kill {r : R} {y : A} (h : argA (allocS σ d x) (r.kill d) = some y) : argA σ r = some y := by
  cases hs : r.says d with
  | true => rw [R.kill, hs] at h; simp [argA] at h
  | false =>
    rw [not_says hs] at h
    cases r with
    | own o' =>
      simp only [argA] at h ⊢
      rw [mem_alloc (says_own hs)] at h
      split at h
      · rename_i hm
        obtain ⟨z, hz, hk⟩ := Option.map_eq_some_iff.1 hm
        obtain rfl := klog_inv hk
        rw [hz]; exact h
      · cases h
    | omp o' =>
      simp only [argA] at h ⊢
      rw [mem_alloc (says_omp hs)] at h
      split at h
      · rename_i hm
        obtain ⟨z, hz, hk⟩ := Option.map_eq_some_iff.1 hm
        obtain rfl := kmpo_inv hk
        rw [hz]; exact h
      · cases h
    | ref o' off =>
      simp only [argA] at h ⊢
      rw [mem_alloc (says_ref hs)] at h
      split at h
      · rename_i hm
        obtain ⟨z, hz, hk⟩ := Option.map_eq_some_iff.1 hm
        obtain ⟨cs, rfl, rfl⟩ := kbox_inv hk
        obtain ⟨ds, h1, rfl⟩ := Option.map_eq_some_iff.1 h
        rw [hz]
        simp only [allD_kill h1, Option.map_some]
      · cases h
    | _ => exact h
theorem args_kill : ∀ {rs : List R} {ys : List A}, argsA (allocS σ d x) (rs.map (R.kill d)) = some ys → argsA σ rs = some ys
  | [], ys, h => h
  | r :: rs, ys, h => by
    rw [List.map_cons] at h
    simp only [argsA] at h ⊢
    split at h
    · rename_i h1 h2
      rw [arg_kill h1, args_kill h2]; exact h
    · cases h
theorem map_kill : ∀ {rs : List R} {ys : List A}, rs.map (R.kill d) = ys.map R.a → rs = ys.map R.a
  | [], [], _ => rfl
  | [], a :: ys, h => by cases h
  | r :: rs, [], h => by cases h
  | r :: rs, a :: ys, h => by
    simp only [List.map_cons, List.cons.injEq] at h ⊢
    exact ⟨(kill_inv h.1 (by simp)).1, map_kill h.2⟩
theorem ret_kill {res : List A} : (retR res).kill d = retR res := by
  cases res with
  | nil => rfl
  | cons a ys =>
    cases ys with
    | nil => rfl
    | cons b ys =>
      refine not_says ?_
      simp [retR, one, R.says, R.says0]
/-- Quiet operations that an alloc may come ahead of. -/
def killO (o : Oper) : Bool := o.guard.isNone && match o.op with
  | .move _ | .load _ _ | .fieldAddr _ _ _ | .indexAddr _ _ _ | .binOp _ _ _ _ _ | .extract _ _ => true
  | .call k => match k.callee with
    | .value _ => true
    | _ => false
  | _ => false
theorem says_at {r : R} (h : r.says0 d = false) : r.says d = false := by
  cases r <;> first | exact h | (simp [R.says0] at h)
theorem opQ_kill {K : R → Prop} (hk : killO o = true) (hop : ∀ y ∈ o.op.operands, y ≠ .tmp d) (h : opQ P gl o (allocS σ d x) K) : opQ P gl o σ fun r => K (r.kill d) := by
  unfold opQ at h ⊢
  unfold killO at hk
  cases ho : o.op <;> simp only [ho, Bool.and_false, Bool.false_eq_true] at hk h hop ⊢
  case move y => rw [eval_alloc (hop y (by simp [Op.operands]))] at h; exact h
  case load t p =>
    rw [eval_alloc (hop p (by simp [Op.operands]))] at h
    split at h
    · rename_i r hr
      obtain ⟨r', h1, rfl⟩ := load_kill hr
      rw [h1]; exact h
    · exact h.elim
  case fieldAddr t p f =>
    rw [eval_alloc (hop p (by simp [Op.operands]))] at h
    split at h
    · split at h
      · obtain ⟨h0, h⟩ := h
        refine ⟨h0, ?_⟩
        split at h
        · rename_i hp
          obtain ⟨e, hs⟩ := kill_inv hp (by simp)
          rw [e] at hs
          rw [e]
          dsimp only
          rw [not_says (by simpa [R.says, R.says0] using hs)]; exact h
        · rename_i hp
          obtain ⟨e, hs⟩ := kill_inv hp (by simp)
          rw [e]; exact h
        · rename_i hp
          obtain ⟨e, hs⟩ := kill_inv hp (by simp)
          rw [e] at hs
          rw [e]
          dsimp only
          rw [not_says (by simpa [R.says, R.says0] using hs)]; exact h
        · exact h.elim
      · exact h.elim
    · exact h.elim
  case indexAddr t y i =>
    rw [eval_alloc (hop y (by simp [Op.operands])), eval_alloc (hop i (by simp [Op.operands]))] at h
    split at h
    · rename_i hi
      obtain ⟨ei, _⟩ := kill_inv hi (by simp)
      rw [ei]
      dsimp only
      split at h
      · split at h
        · split at h
          · rename_i hp
            obtain ⟨e, hs⟩ := kill_inv hp (by simp)
            rw [e]; exact h
          · rename_i hp
            obtain ⟨e, hs⟩ := kill_inv hp (by simp)
            rw [e]; exact h
          · rename_i hp
            obtain ⟨e, hs⟩ := kill_inv hp (by simp)
            rw [e] at hs
            rw [mem_alloc (says_own hs)] at h
            split at h
            · rename_i hm
              obtain ⟨z, hz, hkz⟩ := Option.map_eq_some_iff.1 hm
              obtain rfl := klog_inv hkz
              rw [e]
              dsimp only
              rw [hz]
              dsimp only
              unfold idxK at h ⊢
              refine ⟨h.1, ?_⟩
              have h2 := h.2
              split at h2
              · refine ⟨h2.1, ?_⟩
                rw [not_says (by simpa [R.says, R.says0] using hs)]; exact h2.2
              · exact h2
            · exact h.elim
          · exact h.elim
        · exact h.elim
      · split at h
        · obtain ⟨h0, h1, h⟩ := h
          refine ⟨h0, h1, ?_⟩
          split at h
          · rename_i hp
            obtain ⟨e, hs⟩ := kill_inv hp (by simp)
            rw [e] at hs
            rw [e]
            dsimp only
            rw [not_says (by simpa [R.says, R.says0] using hs)]; exact h
          · rename_i hp
            obtain ⟨e, hs⟩ := kill_inv hp (by simp)
            rw [e]; exact h
          · exact h.elim
        · exact h.elim
      · exact h.elim
    · exact h.elim
  case binOp op t y z ty =>
    rw [eval_alloc (hop y (by simp [Op.operands])), eval_alloc (hop z (by simp [Op.operands]))] at h
    cases hy : (σ.eval gl y).says d with
    | true =>
      rw [show (σ.eval gl y).kill d = .any by rw [R.kill, hy]; rfl] at h
      exact False.elim h
    | false =>
      rw [not_says hy] at h
      cases hz : (σ.eval gl z).says d with
      | true =>
        rw [show (σ.eval gl z).kill d = .any by rw [R.kill, hz]; rfl] at h
        split at h <;> first | exact h.elim | (rename_i e2; cases e2)
      | false => rw [not_says hz] at h; exact h
  case extract y i =>
    rw [eval_alloc (hop y (by simp [Op.operands]))] at h
    split at h
    · rename_i rs hp
      obtain ⟨e, hs⟩ := kill_inv hp (by simp)
      rw [e] at hs
      rw [e]
      dsimp only
      split at h
      · rename_i r hr
        have : r.says d = false := says_at (by
          have := List.mem_of_getElem? hr
          simp only [R.says, List.any_eq_false] at hs
          simpa using hs r this)
        show K (r.kill d)
        rw [not_says this]; exact h
      · exact h.elim
    · exact h.elim
  case call k =>
    have hargs : ∀ y ∈ k.args.toList, y ≠ .tmp d := fun y hy => hop y (by simp only [Op.operands, Call.operands]; rw [Array.mem_append]; right; simpa using hy)
    cases hc : k.callee with
    | builtin b => rw [hc] at hk; simp at hk
    | invoke r m => rw [hc] at h; exact h.elim
    | value f =>
      rw [hc] at h
      dsimp only at h ⊢
      rw [eval_alloc (hop f (by simp [Op.operands, Call.operands, hc]))] at h
      have e : k.args.toList.map ((allocS σ d x).eval gl) = (k.args.toList.map (σ.eval gl)).map (R.kill d) := by
        rw [List.map_map]; exact List.map_congr_left fun y hy => eval_alloc (hargs y hy)
      rw [e] at h
      split at h
      · rename_i g caps hf
        obtain ⟨ef, _⟩ := kill_inv hf (by simp)
        rw [ef]
        dsimp only
        obtain ⟨ys, res, h1, h2, h3, h4⟩ := h
        have ec : (caps.map fun d => R.a (.d d)) = (caps.map fun d => R.a (.d d)).map (R.kill d) := by rw [List.map_map]; rfl
        rw [ec, ← List.map_append] at h1 h3
        refine ⟨ys, res, args_kill h1, h2, h3.imp id map_kill, ?_⟩
        show K ((retR res).kill d)
        rw [ret_kill]; exact h4
      · exact h.elim
variable {ops : Array Oper}
theorem store_put {t : TypeId} {p r : R} {dst : Option Tmp} {u : R} : storeR P (σ.put dst u) t p r = (storeR P σ t p r).map fun σ' => σ'.put dst u := by
  cases dst with
  | none => simp [S.put]
  | some e =>
    unfold storeR
    have hm : (σ.put (some e) u).mem = σ.mem := rfl
    rw [hm]
    (repeat' split) <;> first | rfl | simp_all
/-- Two operations of which the first tells the same ahead of the second and behind it. -/
def Comm (P : Program) (gl : Nat → Option (List D)) (ops : Array Oper) (oi oj : Oper) : Prop :=
  ∀ (σ : S) (r : R) (K : S → Prop), Tells P gl ops oi r σ → stD P gl ops oj (σ.put oi.dst r) K → stD P gl ops oj σ fun σ' => Tells P gl ops oi r σ' ∧ K (σ'.put oi.dst r)
theorem Comm.quiet {oi oj : Oper} (hq : quietO oj = true) (ha : oi.apart ops oj = true) : Comm P gl ops oi oj := fun σ r K hy h => st_put hq ha hy h
/-- An operation that reads registers alone. -/
def regsO (o : Oper) : Bool := o.guard.isNone && match o.op with
  | .extract _ _ | .move _ => true
  | _ => false
theorem tells_set {oi : Oper} {r : R} {σ' : S} (hi : regsO oi = true) (he : σ'.regs = σ.regs) (h : Tells P gl ops oi r σ) : Tells P gl ops oi r σ' := by
  unfold regsO at hi
  simp only [Bool.and_eq_true, Option.isNone_iff_eq_none] at hi
  obtain ⟨hg, hi⟩ := hi
  have hev : ∀ y, σ'.eval gl y = σ.eval gl y := fun y => by cases y <;> simp [S.eval, he]
  have hw : ∀ τ, wantA ops oi τ = some true := fun τ => by simp [wantA, hg]
  rcases h with ⟨_, h2⟩ | ⟨h1, _⟩
  · refine .inl ⟨hw _, fun K hk => ?_⟩
    have := h2 K hk
    unfold opQ at this ⊢
    split at hi
    · rename_i y i ho
      rw [ho] at this ⊢
      dsimp only at this ⊢
      rw [hev]; exact this
    · rename_i y ho
      rw [ho] at this ⊢
      dsimp only at this ⊢
      rw [hev]; exact this
    · cases hi
  · rw [hw] at h1; cases h1
theorem Comm.store {oi oj : Oper} {t : TypeId} {p y : Operand} (hj : oj.op = .store t p y) (hjd : oj.dst = none) (hjg : oj.guard = none) (hi : regsO oi = true) (ha : oi.apart ops oj = true) : Comm P gl ops oi oj := fun σ r K hy h => by
  obtain ⟨h1, _, _⟩ := Oper.apart_spec ha
  have hq : quietO oj = false := by unfold quietO; rw [hj]
  have hx : isX P oj = false := by unfold isX; rw [hj]
  have hw : ∀ τ, wantA ops oj τ = some true := fun τ => by simp [wantA, hjg]
  have hst : ∀ (τ : S) (K : S → Prop), stD P gl ops oj τ K = (match storeR P τ t (τ.eval gl p) (τ.eval gl y) with | some σ' => K σ' | none => False) := fun τ K => by
    unfold stD inD opA
    rw [hw, hq, hx]
    simp only [opA0, hj, hjd, S.put]
    cases storeR P τ t (τ.eval gl p) (τ.eval gl y) <;> rfl
  rw [hst] at h ⊢
  have e1 : (σ.put oi.dst r).eval gl p = σ.eval gl p := eval_put (looks_op (by rw [hj]; simp [Op.operands]) h1)
  have e2 : (σ.put oi.dst r).eval gl y = σ.eval gl y := eval_put (looks_op (by rw [hj]; simp [Op.operands]) h1)
  rw [e1, e2, store_put] at h
  cases hs : storeR P σ t (σ.eval gl p) (σ.eval gl y) with
  | none => rw [hs] at h; exact h
  | some σ' =>
    rw [hs] at h
    refine ⟨tells_set hi ?_ hy, h⟩
    unfold storeR at hs
    (repeat' split at hs) <;> first | (cases hs; rfl) | (cases hs; done) | simp_all
theorem any_first2 {K : S → Prop} {dep : Nat → Bool} {i : Nat} {oi : Oper} {r : R} (hi : ops[i]? = some oi) (hqi : quietO oi = true) :
    ∀ (fuel : Nat) (listed : Array Bool) (σ : S),
      (∀ j, dep j = true → listed.getD j true = false ∧ ∃ oj, ops[j]? = some oj ∧ ∃ e ∈ oj.after, Region.binds .any e = true ∧ (e.on = i ∨ dep e.on = true)) →
      (∀ j oj, ops[j]? = some oj → j ≠ i → listed.getD j true = false → dep j = false → Comm P gl ops oi oj ∧ ∀ (τ : S) (K K' : S → Prop), (∀ σ, K σ → K' σ) → stD P gl ops oj τ K → stD P gl ops oj τ K') →
      i ∈ Region.ready .any ops listed → Tells P gl ops oi r σ → anyA P gl ops K fuel (listed.setIfInBounds i true) (σ.put oi.dst r) → anyA P gl ops K (fuel + 1) listed σ := by
  intro fuel
  induction fuel with
  | zero =>
    intro listed σ hdep hfree hr hy H
    refine ⟨fun h => (by rw [h] at hr; cases hr), fun j hj oj hoj => ?_⟩
    by_cases hji : j = i
    · subst hji; rw [hi] at hoj; cases hoj; exact hy.st hqi H
    · have := ready_mono hj hji
      rw [H.1] at this
      cases this
  | succ fuel ih =>
    intro listed σ hdep hfree hr hy H
    refine ⟨fun h => (by rw [h] at hr; cases hr), fun j hj oj hoj => ?_⟩
    by_cases hji : j = i
    · subst hji; rw [hi] at hoj; cases hoj; exact hy.st hqi H
    · have h1 := H.2 j (ready_mono hj hji) oj hoj
      obtain ⟨hjun, oj', hoj', hall⟩ := mem_ready.1 hj
      rw [hoj] at hoj'; cases hoj'
      have key : ∀ m, listed.getD m true = false → listed.getD m false = true → False := fun m h0 h1 => by
        rcases Nat.lt_or_ge m listed.size with h' | h'
        · simp [h'] at h0 h1; rw [h0] at h1; cases h1
        · simp [Array.getElem?_eq_none h'] at h1
      have hnot : dep j = false := by
        cases hdj : dep j with
        | false => rfl
        | true =>
          obtain ⟨_, oj', ho', e, he, hb, hon⟩ := hdep j hdj
          rw [hoj] at ho'; cases ho'
          have h9 := hall e he hb
          rcases hon with hon | hon
          · rw [hon] at h9; exact (key _ (mem_ready.1 hr).1 h9).elim
          · exact (key _ (hdep _ hon).1 h9).elim
      obtain ⟨hcm, hmn⟩ := hfree j oj hoj hji hjun hnot
      have h2 := hcm σ r _ hy h1
      have hfree' : ∀ k ok, ops[k]? = some ok → k ≠ i → (listed.setIfInBounds j true).getD k true = false →
          dep k = false → Comm P gl ops oi ok ∧ ∀ (τ : S) (K K' : S → Prop), (∀ σ, K σ → K' σ) → stD P gl ops ok τ K → stD P gl ops ok τ K' := fun k ok hk hki hun hno => by
        refine hfree k ok hk hki ?_ hno
        by_cases hjk : j = k
        · subst hjk; exact hjun
        · rw [getD_set_ne true hjk] at hun; exact hun
      have hdep' : ∀ k, dep k = true → (listed.setIfInBounds j true).getD k true = false ∧ ∃ oj, ops[k]? = some oj ∧ ∃ e ∈ oj.after, Region.binds .any e = true ∧ (e.on = i ∨ dep e.on = true) := fun k hk => by
        have hjk : j ≠ k := fun e => by rw [e, hk] at hnot; cases hnot
        exact ⟨by rw [getD_set_ne true hjk]; exact (hdep k hk).1, (hdep k hk).2⟩
      refine hmn _ _ _ (fun σ' h3 => ih (listed.setIfInBounds j true) σ' hdep' hfree' (ready_mono hr (Ne.symm hji)) h3.1 ?_) h2
      rw [Array.setIfInBounds_comm _ _ hji]
      exact h3.2
/-- An alloc: it may come first. -/
theorem allocS_put {dst : Option Tmp} {r : R} (h : dst ≠ some d) : allocS (σ.put dst r) d x = (allocS σ d x).put dst (r.kill d) := by
  cases dst with
  | none => rfl
  | some e =>
    have he : e ≠ d := fun e' => h (by rw [e'])
    simp only [allocS, S.put, S.newOb]
    congr 1
    funext t
    simp only [upd]
    by_cases h1 : t = d
    · subst h1
      rw [if_pos rfl, if_neg (Ne.symm he), if_pos rfl]
    · rw [if_neg h1]
      by_cases h2 : t = e
      · subst h2; rw [if_pos rfl, if_pos rfl]
      · rw [if_neg h2, if_neg h2, if_neg h1]
theorem st_alloc {oi oj : Oper} (hid : oi.dst = some d) (hq : quietO oj = true) (hk : killO oj = true) (ha : oi.apart ops oj = true) {K : S → Prop} (h : stD P gl ops oj (allocS σ d x) K) : stD P gl ops oj σ fun σ' => K (allocS σ' d x) := by
  obtain ⟨h1, h2, _⟩ := Oper.apart_spec ha
  have hg : oj.guard = none := by unfold killO at hk; simp only [Bool.and_eq_true, Option.isNone_iff_eq_none] at hk; exact hk.1
  have hw : ∀ τ, wantA ops oj τ = some true := fun τ => by simp [wantA, hg]
  unfold stD inD at h ⊢
  rw [hw, hq] at h ⊢
  dsimp only at h ⊢
  have := opQ_kill hk (fun y hy e => looks_op hy h1 d hid e) h
  refine opQ_mono (fun r hr => ?_) this
  rw [allocS_put (h2 d hid)]; exact hr
theorem stD_monoA {K K' : S → Prop} (hk : ∀ σ, K σ → K' σ) (h : stD P gl ops o σ K) : stD P gl ops o σ K' := by
  unfold stD inD at h ⊢
  split at h
  · split at h
    · exact opQ_mono (fun r hr => hk _ hr) h
    · exact opA_mono hk h
  · exact hk _ h
  · exact h
theorem st_allocS {oi : Oper} {t : TypeId} {cs : List R} (hop : oi.op = .alloc t) (hid : oi.dst = some d) (hg : oi.guard = none) (hz : (tinf P t).bind zR = some cs) {K : S → Prop} : stD P gl ops oi σ K ↔ K (allocS σ d (.box cs)) := by
  obtain ⟨dst, op, ty, pos, after, g⟩ := oi
  dsimp only at hop hid hg
  subst hop hid hg
  unfold stD inD
  have hw : wantA ops ⟨some d, .alloc t, ty, pos, after, none⟩ σ = some true := rfl
  rw [hw]
  show opA P gl _ σ K ↔ _
  rw [y_alloc, hz]
  rfl
theorem any_firstA {K : S → Prop} {dep : Nat → Bool} {i : Nat} {oi : Oper} {t : TypeId} {cs : List R} (hi : ops[i]? = some oi) (hop : oi.op = .alloc t) (hid : oi.dst = some d) (hg : oi.guard = none) (hz : (tinf P t).bind zR = some cs) :
    ∀ (fuel : Nat) (listed : Array Bool) (σ : S),
      (∀ j, dep j = true → listed.getD j true = false ∧ ∃ oj, ops[j]? = some oj ∧ ∃ e ∈ oj.after, Region.binds .any e = true ∧ (e.on = i ∨ dep e.on = true)) →
      (∀ j oj, ops[j]? = some oj → j ≠ i → listed.getD j true = false → dep j = false → quietO oj = true ∧ killO oj = true ∧ oi.apart ops oj = true) →
      i ∈ Region.ready .any ops listed → anyA P gl ops K fuel (listed.setIfInBounds i true) (allocS σ d (.box cs)) → anyA P gl ops K (fuel + 1) listed σ := by
  intro fuel
  induction fuel with
  | zero =>
    intro listed σ hdep hfree hr H
    refine ⟨fun h => (by rw [h] at hr; cases hr), fun j hj oj hoj => ?_⟩
    by_cases hji : j = i
    · subst hji; rw [hi] at hoj; cases hoj; exact (st_allocS hop hid hg hz).2 H
    · have := ready_mono hj hji
      rw [H.1] at this
      cases this
  | succ fuel ih =>
    intro listed σ hdep hfree hr H
    refine ⟨fun h => (by rw [h] at hr; cases hr), fun j hj oj hoj => ?_⟩
    by_cases hji : j = i
    · subst hji; rw [hi] at hoj; cases hoj; exact (st_allocS hop hid hg hz).2 H
    · have h1 := H.2 j (ready_mono hj hji) oj hoj
      obtain ⟨hjun, oj', hoj', hall⟩ := mem_ready.1 hj
      rw [hoj] at hoj'; cases hoj'
      have key : ∀ m, listed.getD m true = false → listed.getD m false = true → False := fun m h0 h1 => by
        rcases Nat.lt_or_ge m listed.size with h' | h'
        · simp [h'] at h0 h1; rw [h0] at h1; cases h1
        · simp [Array.getElem?_eq_none h'] at h1
      have hnot : dep j = false := by
        cases hdj : dep j with
        | false => rfl
        | true =>
          obtain ⟨_, oj', ho', e, he, hb, hon⟩ := hdep j hdj
          rw [hoj] at ho'; cases ho'
          have h9 := hall e he hb
          rcases hon with hon | hon
          · rw [hon] at h9; exact (key _ (mem_ready.1 hr).1 h9).elim
          · exact (key _ (hdep _ hon).1 h9).elim
      obtain ⟨hqj, hkj, hap⟩ := hfree j oj hoj hji hjun hnot
      have h2 := st_alloc hid hqj hkj hap h1
      have hfree' : ∀ k ok, ops[k]? = some ok → k ≠ i → (listed.setIfInBounds j true).getD k true = false →
          dep k = false → quietO ok = true ∧ killO ok = true ∧ oi.apart ops ok = true := fun k ok hk hki hun hno => by
        refine hfree k ok hk hki ?_ hno
        by_cases hjk : j = k
        · subst hjk; exact hjun
        · rw [getD_set_ne true hjk] at hun; exact hun
      have hdep' : ∀ k, dep k = true → (listed.setIfInBounds j true).getD k true = false ∧ ∃ oj, ops[k]? = some oj ∧ ∃ e ∈ oj.after, Region.binds .any e = true ∧ (e.on = i ∨ dep e.on = true) := fun k hk => by
        have hjk : j ≠ k := fun e => by rw [e, hk] at hnot; cases hnot
        exact ⟨by rw [getD_set_ne true hjk]; exact (hdep k hk).1, (hdep k hk).2⟩
      refine stD_monoA (fun σ' h3 => ih (listed.setIfInBounds j true) σ' hdep' hfree' (ready_mono hr (Ne.symm hji)) ?_) h2
      rw [Array.setIfInBounds_comm _ _ hji]
      exact h3
def storeO (o : Oper) : Bool := o.guard.isNone && o.dst.isNone && match o.op with
  | .store _ _ _ => true
  | _ => false
def commO (ops : Array Oper) (oi oj : Oper) : Bool := oi.apart ops oj && (quietO oj || (storeO oj && regsO oi))
theorem commO_spec {oi oj : Oper} (h : commO ops oi oj = true) : Comm P gl ops oi oj := by
  unfold commO at h
  simp only [Bool.and_eq_true, Bool.or_eq_true] at h
  rcases h.2 with hq | ⟨hs, hr⟩
  · exact Comm.quiet hq h.1
  · unfold storeO at hs
    simp only [Bool.and_eq_true, Option.isNone_iff_eq_none] at hs
    obtain ⟨⟨hg, hd⟩, hs⟩ := hs
    split at hs
    · rename_i t p y ho
      exact Comm.store ho hd hg hr h.1
    · cases hs
def freeC (ops : Array Oper) (listed : Array Bool) (k : Nat) (d : Array Bool) (good : Oper → Bool) : Bool :=
  (List.range d.size).all (depOk ops listed k d) && (List.range ops.size).all fun j => match ops[j]? with
    | none => true
    | some oj => j == k || listed.getD j true || d.getD j false || good oj
theorem freeC_spec {listed : Array Bool} {k : Nat} {dd : Array Bool} {good : Oper → Bool} (h : freeC ops listed k dd good = true) :
    (∀ j, dd.getD j false = true → listed.getD j true = false ∧ ∃ oj, ops[j]? = some oj ∧ ∃ e ∈ oj.after, Region.binds .any e = true ∧ (e.on = k ∨ dd.getD e.on false = true)) ∧
    (∀ j oj, ops[j]? = some oj → j ≠ k → listed.getD j true = false → dd.getD j false = false → good oj = true) := by
  unfold freeC at h
  simp only [Bool.and_eq_true, List.all_eq_true] at h
  refine ⟨fun j hdj => ?_, fun j oj hoj hjk hun hno => ?_⟩
  · have hj : j < dd.size := by
      rcases Nat.lt_or_ge j dd.size with h | h
      · exact h
      · simp [Array.getElem?_eq_none h] at hdj
    have h3 := h.1 j (List.mem_range.2 hj)
    unfold depOk at h3
    rw [hdj] at h3
    simp only [Bool.not_true, Bool.false_or] at h3
    split at h3
    · cases h3
    · rename_i oj hoj
      simp only [Bool.and_eq_true, Bool.not_eq_true', Array.any_eq_true', Bool.or_eq_true, beq_iff_eq] at h3
      obtain ⟨hu, e, he, hb, hon⟩ := h3
      exact ⟨hu, oj, hoj, e, he, hb, hon⟩
  · have hj : j < ops.size := by
      rcases Nat.lt_or_ge j ops.size with h | h
      · exact h
      · rw [Array.getElem?_eq_none h] at hoj; cases hoj
    have := h.2 j (List.mem_range.2 hj)
    rw [hoj] at this
    simp only [Bool.or_eq_true, beq_iff_eq] at this
    rcases this with ((this | this) | this) | this
    · exact absurd this hjk
    · rw [hun] at this; cases this
    · rw [hno] at this; cases this
    · exact this
def chkI (ops : Array Oper) : List Nat → Bool → Array Bool → Bool
  | [], _, listed => (Region.ready .any ops listed).isEmpty
  | k :: is, q, listed => match ops[k]? with
    | none => false
    | some o => (Region.ready .any ops listed).contains k && (if q && quietO o then freeC ops listed k (depA ops listed k) (commO ops o) else Region.ready .any ops listed == [k]) && chkI ops is (q && quietO o) (listed.setIfInBounds k true)
def pickI (l : List Oper) : List Nat → List Oper
  | [] => []
  | k :: is => match l[k]? with
    | some o => o :: pickI l is
    | none => pickI l is
theorem any_lexI {K : S → Prop} : ∀ (is : List Nat) (q : Bool) (listed : Array Bool) (σ : S), chkI ops is q listed = true → opsQ P gl ops (pickI ops.toList is) σ K → anyA P gl ops K is.length listed σ
  | [], q, listed, σ, hB, h => ⟨by simpa [chkI] using hB, h⟩
  | k :: is, q, listed, σ, hB, h => by
    simp only [chkI] at hB
    split at hB
    · cases hB
    · rename_i o h0
      have h0' : ops.toList[k]? = some o := by rw [Array.getElem?_toList]; exact h0
      simp only [pickI, h0'] at h
      rw [opsQ_cons] at h
      simp only [Bool.and_eq_true] at hB
      obtain ⟨⟨hr, hf⟩, hB'⟩ := hB
      split at hf
      · rename_i hqo
        obtain ⟨r, hy, hk⟩ := Tells.of_st hqo.2 h
        obtain ⟨f1, f2⟩ := freeC_spec hf
        exact any_first2 (dep := fun j => (depA ops listed k).getD j false) h0 hqo.2 is.length listed σ f1 (fun j oj hoj hjk hun hno => ⟨commO_spec (f2 j oj hoj hjk hun hno), fun τ K K' hk h => stD_monoA hk h⟩) (by simpa using hr) hy (any_lexI is _ _ _ hB' hk)
      · simp only [beq_iff_eq] at hf
        refine ⟨fun h => (by rw [hf] at h; cases h), fun i hi oi hoi => ?_⟩
        rw [hf, List.mem_singleton] at hi
        subst hi
        rw [h0] at hoi; cases hoi
        exact stD_monoA (fun σ' h' => any_lexI is _ _ _ hB' h') h
def chkA (ops : Array Oper) (A : Nat) (oi : Oper) (is : List Nat) : Bool :=
  (Region.ready .any ops (Array.replicate ops.size false)).contains A && freeC ops (Array.replicate ops.size false) A (depA ops (Array.replicate ops.size false) A) (fun oj => quietO oj && killO oj && oi.apart ops oj) &&
    chkI ops is true ((Array.replicate ops.size false).setIfInBounds A true) && is.length + 1 == ops.size
/-- A drawn region with an alloc that may come early: it is run with the alloc first, and the others in the order `is`. -/
theorem draw_A {id : Nat} {l : List Oper} {Q : Ex → S → Prop} {σ : S} {X : Prop} (A : Nat) (is : List Nat) {oi : Oper} {t : TypeId} {cs : List R} {d : Nat} (hA : l[A]? = some oi) (hop : oi.op = .alloc t) (hid : oi.dst = some d) (hg : oi.guard = none) (hz : (tinf P t).bind zR = some cs)
    (hB : chkA l.toArray A oi is = true) (h : opsQ P gl l.toArray (pickI l is) (allocS σ d (.box cs)) (Q .normal)) : drawK l.toArray X (SemCode P gl (.region id l.toArray true) Q σ) := by
  refine draw_sem fun c β a w ρ n hP hgl hm hdN _ hs => ?_
  subst hP; subst hgl
  have hdst : ∀ o ∈ l.toArray.toList, ∀ d, o.dst = some d → d < c.N := fun o ho d hod => by
    have := List.all_eq_true.1 hdN o ho
    rw [hod] at this
    simpa using this
  unfold chkA at hB
  simp only [Bool.and_eq_true, beq_iff_eq] at hB
  obtain ⟨⟨⟨hr, hf⟩, hc⟩, hlen⟩ := hB
  obtain ⟨f1, f2⟩ := freeC_spec hf
  have h1 := any_lexI (K := Q .normal) is true _ _ hc h
  have hA' : l.toArray[A]? = some oi := by simpa using hA
  have h2 := any_firstA (K := Q .normal) (dep := fun j => (depA l.toArray (Array.replicate l.toArray.size false) A).getD j false) hA' hop hid hg hz is.length _ σ f1 (fun j oj hoj hjk hun hno => by
    have := f2 j oj hoj hjk hun hno
    simp only [Bool.and_eq_true] at this
    exact ⟨this.1.1, this.1.2, this.2⟩) (by simpa using hr) h1
  rw [hlen] at h2
  exact wpIn_region_any hm (anyA_sound (K := Q .normal) (D := a.defers) (fun σ β a w hs _ hk => ⟨σ, β, hs, hk⟩) hdst l.toArray.size _ (hs.drawn _) rfl h2)
end
end Go.VC
end
section
set_option maxRecDepth 100000
set_option linter.unusedSimpArgs false
set_option linter.unusedVariables false
set_option linter.unnecessarySimpa false
namespace Go.VC
open Go.RowKit Go.Proofs Go.IntWalk
theorem srch_yes {T : List Txn} {who B : Nat} : ∀ (L : List Nat) (st : Nat), (srchN T who B L st).v = 0 → ∃ c ∈ L, ∃ B', (foundF T who c B').v = 0 ∧ (srchN T who B L st).c = c ∧ (srchN T who B L st).row = (foundF T who c B').row
  | [], st, h => by simp [srchN] at h
  | c :: cs, st, h => by
    simp only [srchN] at h ⊢
    split at h
    · rename_i h1
      obtain ⟨c', hc, B', h2⟩ := srch_yes cs _ h
      rw [if_pos h1]
      exact ⟨c', List.mem_cons_of_mem _ hc, B', h2⟩
    · rename_i h1
      rw [if_neg h1]
      exact ⟨c, List.mem_cons_self, B - st, h, (found_row h).1, rfl⟩
/-- One bit is taken out. -/
def clrB (a i : Nat) : Nat := a ^^^ (a &&& 2 ^ i)
theorem clr_bit (a i q : Nat) : (clrB a i).testBit q = (a.testBit q && !decide (i = q)) := by
  rw [clrB, Nat.testBit_xor, Nat.testBit_and, Nat.testBit_two_pow]
  cases a.testBit q <;> cases decide (i = q) <;> rfl
theorem clrs_bit : ∀ (l : List Nat) (a q : Nat), (l.foldl clrB a).testBit q = (a.testBit q && !l.contains q)
  | [], a, q => by simp
  | i :: l, a, q => by
    rw [List.foldl_cons, clrs_bit l, clr_bit, List.contains_cons]
    by_cases h : i = q
    · subst h; simp
    · have : (q == i) = false := by simpa using fun e : q = i => h e.symm
      simp [h, this]
theorem clrs_lt {l : List Nat} {a n : Nat} (ha : a < 2 ^ n) : l.foldl clrB a < 2 ^ n := Nat.lt_pow_two_of_testBit _ fun i hi => by
  rw [clrs_bit, Nat.testBit_lt_two_pow (Nat.lt_of_lt_of_le ha (Nat.pow_le_pow_right (by omega) hi)), Bool.false_and]
theorem u32_clr {a i : Nat} (ha : a < 2 ^ 32) (hi : i < 32) : andnK .u32 (a : Int) ((2 ^ i : Nat) : Int) = ((clrB a i : Nat) : Int) := by
  have hb : 2 ^ i < 2 ^ 32 := Nat.pow_lt_pow_right (by omega) hi
  have hc : clrB a i < 2 ^ 32 := clrs_lt (l := [i]) ha
  show IntKind.u32.wrap (BitVec.ofInt 32 (a : Int) &&& ~~~ BitVec.ofInt 32 ((2 ^ i : Nat) : Int)).toNat = _
  have e : (BitVec.ofInt 32 (a : Int) &&& ~~~ BitVec.ofInt 32 ((2 ^ i : Nat) : Int)).toNat = clrB a i := by
    rw [BitVec.ofInt_natCast, BitVec.ofInt_natCast]
    refine Nat.eq_of_testBit_eq fun q => ?_
    rw [clr_bit, BitVec.testBit_toNat, BitVec.getLsbD_and, BitVec.getLsbD_not, BitVec.getLsbD_ofNat, BitVec.getLsbD_ofNat, Nat.testBit_two_pow]
    by_cases hq : q < 32
    · simp [hq]
    · have : a.testBit q = false := Nat.testBit_lt_two_pow (Nat.lt_of_lt_of_le ha (Nat.pow_le_pow_right (by omega) (by omega)))
      simp [this]
  rw [e]
  exact u32_in _ (by omega)
section
variable {T : List Txn} {C : Nat} {row : List Nat}
theorem all_bit {n q : Nat} : (2 ^ n - 1).testBit q = decide (q < n) := by rw [Nat.testBit_two_pow_sub_one]
theorem row_all (hb : rowB row = allN T) (q : Nat) : row.contains q = decide (q < T.length) := by
  rw [← rowB_bit, hb, allN, all_bit]
theorem part_a (hT : T.length ≤ 6) (hC : C < 2 ^ T.length) (hg : goodF T (allN T) C [] row) (hb : rowB row = allN T) : (foundF T C C 1956).v = 0 := by
  have hCa : ∀ i, C.testBit i = ((allN T).testBit i && C.testBit i) := fun i => by
    rw [allN, all_bit]
    by_cases h : i < T.length
    · simp [h]
    · rw [Nat.testBit_lt_two_pow (Nat.lt_of_lt_of_le hC (Nat.pow_le_pow_right (by omega) (by omega))), Bool.and_false]
  have hg' := good_filter (C' := C) (p := fun i => C.testBit i) hCa row [] (fun k _ => ⟨fun h => ⟨h, h⟩, fun h => h⟩) hg
  refine found_yes hT hC (Nat.le_refl _) hg' (Nat.eq_of_testBit_eq fun q => ?_)
  rw [rowB_bit]
  have h1 := row_all hb q
  have h2 := hCa q
  rw [allN, all_bit, ← h1] at h2
  rw [h2]
  rw [Bool.eq_iff_iff]; simp
theorem part_b (hT : T.length ≤ 6) (hC : C < 2 ^ T.length) (hg : goodF T (allN T) C [] row) (hb : rowB row = allN T) {t : Nat} (ht : t < row.length) :
    ((row.drop t).foldl clrB C ||| 2 ^ row[t]) < 2 ^ T.length ∧ (foundF T ((row.drop t).foldl clrB C ||| 2 ^ row[t]) (C &&& ((row.drop t).foldl clrB C ||| 2 ^ row[t])) 1956).v = 0 := by
  have hrt : row[t] < T.length := by
    have h1 := row_all hb row[t]
    have h2 : row.contains row[t] = true := by simp
    rw [h2] at h1
    exact of_decide_eq_true h1.symm
  have hnd : row.Nodup := by simpa using good_nodup row [] hg List.nodup_nil
  have hw : ((row.drop t).foldl clrB C ||| 2 ^ row[t]) < 2 ^ T.length := Nat.or_lt_two_pow (clrs_lt hC) (Nat.pow_lt_pow_right (by omega) hrt)
  refine ⟨hw, ?_⟩
  have hbit : ∀ q, ((row.drop t).foldl clrB C ||| 2 ^ row[t]).testBit q = ((C.testBit q && !(row.drop t).contains q) || decide (row[t] = q)) := fun q => by
    rw [Nat.testBit_or, clrs_bit, Nat.testBit_two_pow]
  generalize hW : (row.drop t).foldl clrB C ||| 2 ^ row[t] = W at hw hbit
  have hsp : row = row.take (t + 1) ++ row.drop (t + 1) := (List.take_append_drop _ _).symm
  have hg1 : goodF T (allN T) C [] (row.take (t + 1)) := good_app (r2 := row.drop (t + 1)) _ _ (by rw [← hsp]; exact hg)
  have hCn : ∀ q, C.testBit q = true → q < T.length := fun q hq => by
    refine Decidable.byContradiction fun h => ?_
    rw [Nat.testBit_lt_two_pow (Nat.lt_of_lt_of_le hC (Nat.pow_le_pow_right (by omega) (by omega)))] at hq
    cases hq
  have hWn : ∀ q, W.testBit q = true → q < T.length := fun q hq => by
    refine Decidable.byContradiction fun h => ?_
    rw [Nat.testBit_lt_two_pow (Nat.lt_of_lt_of_le hw (Nat.pow_le_pow_right (by omega) (by omega)))] at hq
    cases hq
  have hWa : ∀ i, W.testBit i = ((allN T).testBit i && W.testBit i) := fun i => by
    rw [allN, all_bit]
    cases hx : W.testBit i with
    | false => simp
    | true => simp [hWn i hx]
  have hts : row.take (t + 1) = row.take t ++ [row[t]] := List.take_succ_eq_append_getElem ht
  have hdis : ∀ q ∈ row.take t, q ∉ row.drop t := fun q h1 h2 => by
    have hnd' := hnd
    rw [← List.take_append_drop t row, List.nodup_append] at hnd'
    exact hnd'.2.2 q h1 q h2 rfl
  have hg' := good_filter (C' := C &&& W) (p := fun i => W.testBit i) hWa (row.take (t + 1)) [] (fun k hk => by
    rw [List.nil_append, hts] at hk
    rw [Nat.testBit_and, Bool.and_eq_true]
    refine ⟨fun h => ?_, fun h => h.1⟩
    have : W.testBit k = true := by
      rw [hbit]
      rcases List.mem_append.1 hk with hk | hk
      · have := hdis k hk
        simp [h, this]
      · simp at hk; simp [hk]
    exact ⟨this, h, this⟩) hg1
  refine found_yes hT hw (Nat.le_refl _) hg' (Nat.eq_of_testBit_eq fun q => ?_)
  rw [rowB_bit]
  cases hx : W.testBit q with
  | false =>
    rw [Bool.eq_false_iff]
    intro h
    have := (List.mem_filter.1 (by simpa using h : q ∈ (row.take (t + 1)).filter fun i => W.testBit i)).2
    rw [hx] at this; cases this
  | true =>
    have hm : q ∈ row.take (t + 1) := by
      have h1 := row_all hb q
      rw [decide_eq_true (hWn q hx)] at h1
      have h1 : q ∈ row := by simpa using h1
      rw [hbit, Bool.or_eq_true] at hx
      rw [hts]
      rcases hx with hx | hx
      · rw [Bool.and_eq_true] at hx
        rw [← List.take_append_drop t row] at h1
        rcases List.mem_append.1 h1 with h1 | h1
        · exact List.mem_append_left _ h1
        · have := hx.2; simp [h1] at this
      · obtain rfl := of_decide_eq_true hx
        exact List.mem_append_right _ (List.mem_singleton.2 rfl)
    have : q ∈ (row.take (t + 1)).filter fun i => W.testBit i := List.mem_filter.2 ⟨hm, hx⟩
    simpa using this
end
theorem take_clr {l : List Nat} {k C : Nat} (hk : k < l.length) : (l.take (k + 1)).foldl clrB C = clrB ((l.take k).foldl clrB C) l[k] := by
  rw [List.take_succ_eq_append_getElem hk, List.foldl_append]; rfl
def Falc : List Nat := [0, 1, 2, 3, 4, 5, 6, 7, 8, 9, 10, 11, 12, 13, 14, 15, 16, 17, 18, 19, 20, 21, 22, 23, 25, 26]
theorem t1012 (h0 : List Ev) (t : Int) : Holds Tryd.prog GL 5 [evsA h0, I t] [.a (B true)] := by
  refine fn_holds (vs := [.tmp 4]) (by kernel_rfl) Tryd.func5 rfl rfl (by kernel_rfl) (by kernel_rfl) rfl ?_
  have m0 : (0 : Int) ≤ min (h0.length : Int) 65 := by omega
  have m1 : min (h0.length : Int) 65 ≤ (h0.length : Int) := by omega
  have hc : List.take (min (h0.length : Int) 65).toNat (h0.map Ev.enc) = (h0.take 65).map Ev.enc := cutN 65 h0
  have hl65 : (h0.take 65).length ≤ 65 := by simp; omega
  generalize h0.take 65 = h at hc hl65
  have hs := t1061 h 125184
  have e2 : srchF h 125184 = if maySE h 125184 = 0 then srchN (txns h) (allN (txns h)) (125184 : Int).toNat (choicesL (txns h)) 0 else ⟨0, 0, [], 0⟩ := rfl
  by_cases hM : maySE h 125184 = 0
  · obtain ⟨hE, _, _⟩ := mayS_ok hM
    have hM2 : maySE h 1956 = 0 := may_less hM (by decide) (by decide)
    have hl6 := txns_len6 h
    rw [if_pos hM] at e2
    have hy := srch_yes (T := txns h) (who := allN (txns h)) (B := (125184 : Int).toNat) (choicesL (txns h)) 0
    rw [← e2] at hy
    rw [hM] at hs
    generalize srchF h 125184 = F at *
    have hCl := choices_lt hl6
    by_cases hv : F.v = 0
    · obtain ⟨C, hCm, B', hf, hFc, hFr⟩ := hy hv
      obtain ⟨_, hg, hb⟩ := found_row hf
      rw [← hFr] at hg hb
      obtain ⟨hCb, hC32⟩ := hCl C hCm
      have hCn := choice_fit hCb
      obtain ⟨v, c, row, s⟩ := F
      dsimp only at hv hFc hg hb hs
      subst hv hFc
      have hpa := part_a hl6 hCn hg hb
      have hpb := fun {t : Nat} (ht : t < row.length) => part_b hl6 hCn hg hb ht
      have hwho : allN (txns h) < 2 ^ (txns h).length := by have := Nat.two_pow_pos (txns h).length; unfold allN; omega
      have hrl := good_len hwho hg
      have hrn : ∀ k ∈ row, k < (txns h).length := fun k hk => by
        have h1 := row_all hb k
        rw [show row.contains k = true by simpa using hk] at h1
        exact of_decide_eq_true h1.symm
      have hrl2 : (rowI row).length = row.length := by simp [rowI]
      (refine rO ?_; repeat' ((with_reducible first | refine rG ?_ | (refine rS ?_ ?_ <;> intro hp) | (refine rB ?_ ?_ <;> intro hb <;> try rw [hb]) | refine rD ?_ | refine rA ?_ | fail) <;> try simp only [go_sem, simprocAttr, List.length_map, m0, m1, hc, Int.toNat_zero]))
      refine call_dat hs ?_
      by_cases hr0 : row.length = 0
      · have hr0I : (row.length : Int) = 0 := by omega
        (refine rO ?_; repeat' ((with_reducible first | refine rG ?_ | (refine rS ?_ ?_ <;> intro hp) | (refine rB ?_ ?_ <;> intro hb <;> try rw [hb]) | refine rD ?_ | apply c1057 | refine rA ?_ | fail) <;> try simp only [go_sem, simprocAttr, hc, List.length_map, hrl2, hr0I]))
      · have hr0I : ¬ (row.length : Int) = 0 := by omega
        obtain ⟨w1, w2, w3⟩ := at_eq t (n := row.length) (by omega) (by omega)
        generalize atI t row.length = p at w1 w3
        have p0 : (0 : Int) ≤ (p : Int) := by omega
        have p1 : (p : Int) ≤ (row.length : Int) := by omega
        have p2 : (p : Int) < (row.length : Int) := by omega
        have hdr : ((rowI row).map ienc).drop p = (rowI (row.drop p)).map ienc := by simp [rowI]
        have htk : ((rowI row).map ienc).take row.length = (rowI row).map ienc := List.take_of_length_le (by simp [rowI])
        have hdl : (rowI (row.drop p)).length = (row.drop p).length := by simp [rowI]
        (refine rO ?_; repeat' ((with_reducible first | refine rG ?_ | (refine rS ?_ ?_ <;> intro hp) | (refine rB ?_ ?_ <;> intro hb <;> try rw [hb]) | refine rD ?_ | refine rA ?_ | fail) <;> try simp only [go_sem, simprocAttr, hc, List.length_map, hrl2, hr0I, w2, w3, p0, p1, Int.toNat_natCast, htk, hdr, hdl]))
        obtain ⟨hbw, hbv⟩ := hpb w1
        have hq : row[p]? = some row[p] := List.getElem?_eq_getElem w1
        have hpn := hrn _ (List.getElem_mem w1)
        generalize row[p] = k0 at hbw hbv hq hpn
        have hdm : ∀ k ∈ row.drop p, k < (txns h).length := fun k hk => hrn k (List.mem_of_mem_drop hk)
        have hDl : (row.drop p).length ≤ row.length := by simp
        generalize hD : row.drop p = D at *
        refine awp_loopA (fun k : Nat => [(0, .a (evsA h)), (1, .a (I p)), (5, .ref 5 0), (7, .a (U ((D.take k).foldl clrB c))), (56, .a (intsA (rowI D))), (57, .a (I D.length)), (58, .a (I k))]) (fun _ => [(5, .box [.a (I 0), .a (U c), .a (intsA (rowI row)), .a (I s)])]) (fun k => k ≤ D.length) (D.length - ·) 0 ?_ ?_ (Nat.zero_le _) ?_
        · simp only [go_sem, simprocAttr, List.take_zero, List.foldl_nil, htk, hdr, hD]
        · simp only [go_sem, simprocAttr]; try rfl
        intro k jj hk
        (refine rO ?_; repeat' ((with_reducible first | refine rG ?_ | (refine rS ?_ ?_ <;> intro hp) | (refine rB ?_ ?_ <;> intro hb <;> try rw [hb]) | refine rD ?_ | refine rA ?_ | fail) <;> try simp only [go_sem, simprocAttr]))
        · have hkl : k < D.length := by omega
          have hx := rowI_get hkl
          have hwk := wrap_succ (n := D.length) hkl (by simp only [maxLen]; omega)
          have hst := take_clr (C := c) hkl
          have hkn := hdm _ (List.getElem_mem hkl)
          have hsh := u32_shl (k := D[k]) (by omega)
          have hcl := u32_clr (a := (D.take k).foldl clrB c) (i := D[k]) (Nat.lt_of_lt_of_le (clrs_lt hCn) (Nat.pow_le_pow_right (by omega) (by omega))) (by omega)
          generalize D[k] = q at hx hst hkn hsh hcl
          (refine rO ?_; repeat' ((with_reducible first | refine rG ?_ | (refine rS ?_ ?_ <;> intro hp) | (refine rB ?_ ?_ <;> intro hb <;> try rw [hb]) | refine rD ?_ | refine rA ?_ | fail) <;> try simp only [go_sem, simprocAttr, hx, ienc_eq, hsh, hcl, hwk, Int.toNat_natCast]))
          exact ⟨k + 1, by simp only [go_sem, simprocAttr, hst, hwk], by simp only [go_sem, simprocAttr], hkl, by dsimp only; omega⟩
        · have hkD : k = D.length := by omega
          have hkt : D.take k = D := by rw [hkD]; exact List.take_of_length_le (Nat.le_refl _)
          rw [hkt]
          have hA32 : D.foldl clrB c < 2 ^ 32 := clrs_lt hC32
          have hqx : (rowI row)[p]? = some (k0 : Int) := by simp [rowI, hq]
          have hsh := u32_shl (k := k0) (by omega)
          have hb32 : 2 ^ k0 < 2 ^ 32 := Nat.pow_lt_pow_right (by omega) (by omega)
          have hor := u32_or hA32 hb32
          have hW32 : D.foldl clrB c ||| 2 ^ k0 < 2 ^ 32 := Nat.or_lt_two_pow hA32 hb32
          have han := u32_and hC32 hW32
          have hX32 : c &&& (D.foldl clrB c ||| 2 ^ k0) < 2 ^ 32 := Nat.lt_of_le_of_lt Nat.and_le_left hC32
          have hra := t1056 h c c 1956 hC32 hC32
          have ea : rowE h c c 1956 = 0 := by
            unfold rowE
            rw [if_pos hM2, if_pos (or_bits.2 ⟨Nat.div_eq_of_lt hCn, Nat.div_eq_of_lt hCn⟩)]
          rw [rowF, ea, if_pos rfl, show (1956 : Int).toNat = 1956 from rfl] at hra
          have hrb := t1056 h (D.foldl clrB c ||| 2 ^ k0) (c &&& (D.foldl clrB c ||| 2 ^ k0)) 1956 hW32 hX32
          have eb : rowE h (D.foldl clrB c ||| 2 ^ k0) (c &&& (D.foldl clrB c ||| 2 ^ k0)) 1956 = 0 := by
            unfold rowE
            rw [if_pos hM2, if_pos (or_bits.2 ⟨Nat.div_eq_of_lt hbw, Nat.div_eq_of_lt (Nat.lt_of_le_of_lt Nat.and_le_left hCn)⟩)]
          rw [rowF, eb, if_pos rfl, show (1956 : Int).toNat = 1956 from rfl] at hrb
          generalize foundF (txns h) c c 1956 = Fa at hpa hra
          generalize D.foldl clrB c ||| 2 ^ k0 = W at *
          generalize foundF (txns h) W (c &&& W) 1956 = Fb at hbv hrb
          refine call_dat hra ?_
          (refine rO ?_; repeat' ((with_reducible first | refine rG ?_ | (refine rS ?_ ?_ <;> intro hp) | (refine rB ?_ ?_ <;> intro hb <;> try rw [hb]) | refine rD ?_ | refine rA ?_ | fail) <;> try simp only [go_sem, simprocAttr, hqx, ienc_eq, hsh, hor, han, Int.toNat_natCast]))
          refine draw_A 24 Falc (t := 44) (cs := [.a (I 0), .a (U 0), .a (.d (.sl [])), .a (I 0)]) rfl rfl rfl rfl (by kernel_rfl) (by decide +kernel) ?_
          simp only [Falc, pickI, allocS, List.getElem?_cons_zero, List.getElem?_cons_succ]
          (refine rO ?_; repeat' ((with_reducible first | refine rG ?_ | (refine rS ?_ ?_ <;> intro hp) | (refine rB ?_ ?_ <;> intro hb <;> try rw [hb]) | refine rD ?_ | refine rA ?_ | fail) <;> try simp only [go_sem, simprocAttr, hqx, ienc_eq, hsh, hor, han, Int.toNat_natCast]))
          refine callQ_dat (res := [Fb.a, I 0]) hrb ?_
          (refine rO ?_; repeat' ((with_reducible first | refine rG ?_ | (refine rS ?_ ?_ <;> intro hp) | (refine rB ?_ ?_ <;> intro hb <;> try rw [hb]) | refine rD ?_ | apply c1057 | refine rA ?_ | fail) <;> try simp only [go_sem, simprocAttr, hpa, hbv]))
    · have hvI : ¬ (F.v : Int) = 0 := by omega
      (refine rO ?_; repeat' ((with_reducible first | refine rG ?_ | (refine rS ?_ ?_ <;> intro hp) | (refine rB ?_ ?_ <;> intro hb <;> try rw [hb]) | refine rD ?_ | refine rA ?_ | fail) <;> try simp only [go_sem, simprocAttr, List.length_map, m0, m1, hc, Int.toNat_zero]))
      refine call_dat hs ?_
      (refine rO ?_; repeat' ((with_reducible first | refine rG ?_ | (refine rS ?_ ?_ <;> intro hp) | (refine rB ?_ ?_ <;> intro hb <;> try rw [hb]) | refine rD ?_ | apply c1057 | refine rA ?_ | fail) <;> try simp only [go_sem, simprocAttr, hc, hvI]))
  · (refine rO ?_; repeat' ((with_reducible first | refine rG ?_ | (refine rS ?_ ?_ <;> intro hp) | (refine rB ?_ ?_ <;> intro hb <;> try rw [hb]) | refine rD ?_ | refine rA ?_ | fail) <;> try simp only [go_sem, simprocAttr, List.length_map, m0, m1, hc, Int.toNat_zero]))
    refine call_dat hs ?_
    (refine rO ?_; repeat' ((with_reducible first | refine rG ?_ | (refine rS ?_ ?_ <;> intro hp) | (refine rB ?_ ?_ <;> intro hb <;> try rw [hb]) | refine rD ?_ | apply c1057 | refine rA ?_ | fail) <;> try simp only [go_sem, simprocAttr, hc, hM]))
end Go.VC
end
