import Derived.Test.YtapjdpmbgmjjeaaGreatDoorP4
set_option linter.unusedVariables false
set_option linter.unusedSimpArgs false
set_option linter.unnecessarySimpa false
set_option linter.defProp false
set_option maxRecDepth 100000
section
set_option maxRecDepth 100000
namespace Go.VC
open Go.RowKit Go.Proofs
def InlP (P : Program) (gl : Nat → Option (List D)) (f : FuncId) (rs : List R) (σ : S) (K : S → List R → Prop) (KP : TypeId → R → S → Prop) : Prop :=
 FnOk P f ∧ ∀ (c : Cx) (β : Nat → Value) (a : Act) (w : World) (vs : List Value), c.P = P → c.gl = gl → Sim c σ β a w → F2 (RelR β (stF c σ β w) w) vs rs →
  Calls P f vs.toArray w fun e w' => (∃ (us : List Value) (rs' : List R) (σ' : S) (β' : Nat → Value), e = .returned (retV us) ∧ Sim c σ' β' a w' ∧ F2 (RelR β' (stF c σ' β' w') w') us rs' ∧ K σ' rs') ∨
   (∃ (t : TypeId) (v : Value) (r : R) (σ' : S) (β' : Nat → Value), e = .panicked [{ v := .iface t v, recovered := false }] ∧ Sim c σ' β' a w' ∧ RelR β' (stF c σ' β' w') w' v r ∧ KP t r σ')
section
variable {P : Program} {gl : Nat → Option (List D)} {σ : S} {Q : Ex → S → Prop}
theorem sc_awp {code : Code} (h : awp P gl code Q σ) : SemCode P gl code Q σ := fun c β a w ρ n hP hgl hm hd hp hs => by
 subst hP; subst hgl; exact awp_sound hm code hd hp h hs
theorem sc_seq {x y : Code} (h : SemCode P gl x (Ex.then (SemCode P gl y Q) Q) σ) : SemCode P gl (.seq x y) Q σ := fun c β a w ρ n hP hgl hm hd hp hs => by
 simp only [dstOK, Bool.and_eq_true] at hd
 refine wpIn_seq (wpIn_mono (h c β a w ρ n hP hgl hm hd.1 (np_l hp) hs) fun e a w he => ?_)
 cases e with
 | normal => obtain ⟨σ', β', hs', hk⟩ := he; exact hk c β' a w ρ n hP hgl hm hd.2 (np_r hp) hs'
 | exit id => exact he
 | ret => exact he
 | goto l => exact he
 | panic ch => exact he
 | outgrown => exact he
theorem sc_cond {x : Operand} {y z : Code} {b : Bool} (hb : σ.eval gl x = .a (.d (.v (.bool b)))) (hy : b = true → SemCode P gl y Q σ) (hz : b = false → SemCode P gl z Q σ) : SemCode P gl (.cond x y z) Q σ := fun c β a w ρ n hP hgl hm hd hp hs => by
 simp only [dstOK, Bool.and_eq_true] at hd
 have hv := hs.eval x
 rw [hgl, hb] at hv
 exact wpIn_cond_split hv.inv_v (fun e => hy e c β a w ρ n hP hgl hm hd.1 (np_l hp) hs) (fun e => hz e c β a w ρ n hP hgl hm hd.2 (np_r hp) hs)
theorem sc_block {id : Nat} {x : Code} (h : SemCode P gl x (Ex.inBlock id Q) σ) : SemCode P gl (.block id x) Q σ := fun c β a w ρ n hP hgl hm hd hp hs => by
 refine wpIn_block (wpIn_mono (h c β a w ρ n hP hgl hm hd hp hs) fun e a w he => ?_)
 cases e with
 | normal => exact he
 | exit id' =>
  obtain ⟨σ', β', hs', hk⟩ := he
  simp only [Ex.inBlock] at hk
  simp only [Exit.inBlock]
  split at hk
  ·rw [if_pos ‹_›]; exact ⟨σ', β', hs', hk⟩
  ·rw [if_neg ‹_›]; exact ⟨σ', β', hs', hk⟩
 | ret => exact he
 | goto l => exact he
 | panic ch => exact he
 | outgrown => exact he
theorem sc_loop {α : Type} (Inv : α → S → Prop) (m : α → Nat) {x : Code} (a0 : α) (h0 : ∃ σ', Ghost σ σ' ∧ Inv a0 σ')
  (h : ∀ a τ, Inv a τ → SemCode P gl x (Ex.then (fun σ' => ∃ σ'' a', Ghost σ' σ'' ∧ Inv a' σ'' ∧ m a' < m a) Q) τ) : SemCode P gl (.loop x) Q σ := by
 intro c β a w ρ n hP hgl hm hd hp hs b k cs hro hb hr
 have key : ∀ (N : Nat) (a0 : α) (τ : S) (β : Nat → Value) (a : Act) (w : World), m a0 = N → Inv a0 τ → Sim c τ β a w →
   ∃ e a' w', Qh c Q e a' w' ∧ ArrivesIn (Machine.fenced c.P (WF ρ)) c.P (lone (b.atR a (.code x :: .inLoop x :: k)) cs w) b k cs e a' w' := by
  intro N
  induction N using Nat.strongRecOn with
  | _ N ih =>
   intro a0 τ β a w hN hI hs
   obtain ⟨e, a₁, w₁, hq, harr⟩ := h a0 τ hI c β a w ρ n hP hgl hm hd hp hs b (.inLoop x :: k) cs hro hb hr
   cases e with
   | normal =>
    obtain ⟨σ', β', hs', σ'', a', hg, hI', hlt⟩ := hq
    obtain ⟨β'', hs''⟩ := hg c β' a₁ w₁ hs'
    obtain ⟨e₂, a₂, w₂, hq₂, harr₂⟩ := ih (m a') (by omega) a' σ'' β'' a₁ w₁ rfl hI' hs''
    exact ⟨e₂, a₂, w₂, hq₂, .of_steps (StepsIn.trans harr (.one (fenced_calm hb hr rfl) stepR_inLoop)) harr₂⟩
   | exit id => exact ⟨.exit id, a₁, w₁, hq, .pass (x := .inLoop x) rfl (fun _ _ => .inl (by simp)) harr⟩
   | ret => exact ⟨.ret, a₁, w₁, hq, .pass (x := .inLoop x) rfl (fun _ _ => .inl (by simp)) harr⟩
   | goto l => exact hq.elim
   | panic ch => exact ⟨.panic ch, a₁, w₁, hq, .pass (x := .inLoop x) rfl (fun _ _ => .inl (by simp)) harr⟩
   | outgrown => exact hq.elim
 obtain ⟨σ', hg, hI⟩ := h0
 obtain ⟨β', hs'⟩ := hg c β a w hs
 obtain ⟨e, a', w', hq, harr⟩ := key _ a0 σ' β' a w rfl hI hs'
 exact ⟨e, a', w', hq, .of_steps (.one (fenced_calm hb hr rfl) stepR_loop) harr⟩
theorem sc_ghost {code : Code} {σ' : S} (g : Ghost σ σ') (h : SemCode P gl code Q σ') : SemCode P gl code Q σ := fun c β a w ρ n hP hgl hm hd hp hs =>
 let ⟨β', hs'⟩ := g c β a w hs; h c β' a w ρ n hP hgl hm hd hp hs'
def RawL (P : Program) (gl : Nat → Option (List D)) (l : List Oper) (Q : Ex → S → Prop) (σ : S) : Prop :=
 ∀ (c : Cx) (β : Nat → Value) (a : Act) (w : World) (ρ : Option Nat) (n : Nat) (ops : Array Oper), c.P = P → c.gl = gl → (∀ o ∈ l, ∀ d, o.dst = some d → d < c.N) → Sim c σ β a w → wpListIn (WF ρ) n c.P ops (Qh c Q) l a w
theorem sc_region {id : Nat} {l : List Oper} (h : RawL P gl l Q σ) : SemCode P gl (.region id l.toArray false) Q σ := fun c β a w ρ n hP hgl hm hd hp hs =>
 wpIn_region_list (by
  have hdst : ∀ o ∈ l, ∀ d, o.dst = some d → d < c.N := fun o ho d hod => by
   have := List.all_eq_true.1 hd o (by simpa using ho)
   rw [hod] at this
   simpa using this
  simpa using h c β a w ρ n _ hP hgl hdst hs)
theorem wanted_none {o : Oper} {t : Nat → Option Bool} (h : o.guard = none) : Region.wanted o t = true := by unfold Region.wanted; rw [h]
theorem raw_cons {o : Oper} {rest : List Oper} (hg : o.guard = none) (h : opA P gl o σ (RawL P gl rest Q)) : RawL P gl (o :: rest) Q σ := fun c β a w ρ n ops hP hgl hd hs => by
 subst hP; subst hgl
 simp only [wpListIn, wanted_none hg, if_true]
 refine opA_sound hs (hd o (by simp)) h ρ n _ _ ?_
 rintro v w' ⟨σ', β', hk', h'⟩
 exact hk' c β' _ w' ρ n ops rfl rfl (fun o ho => hd o (by simp [ho])) h'
theorem raw_call {dst : Option Tmp} {k : Call} {f : Operand} {g : FuncId} {ty : TypeId} {pos : String} {after : Array Edge} {rs : List R} (hc : k.callee = .value f) (hf : σ.eval gl f = .a (.d (.fn g []))) (hrs : k.args.toList.map (σ.eval gl) = rs)
  (h : InlP P gl g rs σ (fun σ' rs' => Q .normal (σ'.put dst (one rs'))) (fun t r σ' => Q (.panic t r) σ')) : RawL P gl [⟨dst, .call k, ty, pos, after, none⟩] Q σ := fun c β a w ρ n ops hP hgl hd hs => by
 subst hP; subst hgl
 have hd' := hd _ (List.mem_singleton.2 rfl)
 have hfv := hs.eval f
 rw [hf] at hfv
 have hcv : a.eval f = .func (.func g) #[] ([] : List Value).toArray := by
  have hfd := hfv.inv_d
  generalize a.eval f = v at hfd
  cases hfd with
  | @fn _ _ vs hl _ => obtain rfl : vs = [] := List.eq_nil_of_length_eq_zero (by simpa using hl); rfl
 have hvs : F2 (RelR β (stF c σ β w) w) (k.args.toList.map a.eval ++ []) rs := by
  rw [← hrs, List.append_nil]
  refine ⟨by simp, fun i u r hu hr => ?_⟩
  simp only [List.getElem?_map, Option.map_eq_some_iff] at hu hr
  obtain ⟨x, hx, rfl⟩ := hu
  obtain ⟨y, hy, rfl⟩ := hr
  rw [hx] at hy; cases hy
  exact hs.eval x
 obtain ⟨hok, hh⟩ := h
 have hrun := call_run (o := ⟨dst, .call k, ty, pos, after, none⟩) hc rfl hcv hok (a := a) (w := w)
 have hcall := hh c β a w _ rfl rfl hs hvs
 have hdf : ∀ c : Call, (⟨dst, .call k, ty, pos, after, none⟩ : Oper).op ≠ .defer c := fun _ e => by cases e
 simp only [wpListIn, wanted_none (o := ⟨dst, .call k, ty, pos, after, none⟩) rfl, if_true]
 refine ⟨fun _ _ => trivial, ?_⟩
 rw [Oper.semAt_eq _ _ _ hdf, hrun]
 refine ⟨fun hs => by simp [WF, Fence.wide] at hs, callsW (hcall.mono ?_)⟩
 rintro e w' (⟨us, rs', σ', β', rfl, hs2, hres, hk⟩ | ⟨t, v, r, σ', β', rfl, hs2, hr, hk⟩)
 ·refine ⟨σ'.put dst (one rs'), β', hs2.put hd' ?_, hk⟩
  rcases rs' with _ | ⟨r, _ | ⟨r2, rs⟩⟩
  ·obtain rfl := hres.of_nil
   exact .tp (vs := []) rfl fun j v r hv => by simp at hv
  ·obtain ⟨u, s, rfl, hr, hs'⟩ := hres.of_cons
   obtain rfl := hs'.of_nil
   exact hr
  ·obtain ⟨u, s, rfl, hr, hs'⟩ := hres.of_cons
   obtain ⟨u2, s2, rfl, hr2, hs2⟩ := hs'.of_cons
   exact .tp hres.1 fun j v r hv hr => hres.2 j v r hv hr
 ·exact ⟨σ', β', t, v, r, rfl, hs2, hr, hk⟩
theorem raw_panic {d : Tmp} {dst : Option Tmp} {T ty ty' : TypeId} {x : Operand} {pos pos' : String} {after after' : Array Edge} {offs : List (Nat × Nat × Bool)} {r : R} (hT : tk P T = .struct offs) (hx : σ.eval gl x = r)
  (hk : Q (.panic T r) (σ.put (some d) .any)) : RawL P gl [⟨some d, .makeInterface T x, ty, pos, after, none⟩, ⟨dst, .panic (.tmp d), ty', pos', after', none⟩] Q σ := fun c β a w ρ n ops hP hgl hd hs => by
 subst hP; subst hgl
 have hdl : d < c.N := hd _ (List.mem_cons_self) d rfl
 obtain ⟨fs, hu, _⟩ := tk_struct hT
 have hm : (Instr.makeInterface T (a.eval x)).run c.P w = .ok (.iface T (a.eval x)) w := by
  simp only [Instr.makeInterface, Sem.run_bind, run_under hu, Result.andThen_ok]
  rfl
 have hrun : (execOp a.eval ⟨some d, .makeInterface T x, ty, pos, after, none⟩).run c.P w = .ok (.value (.iface T (a.eval x))) w := by
  simp [execOp, hm]
 have hdf : ∀ c : Call, (⟨some d, .makeInterface T x, ty, pos, after, none⟩ : Oper).op ≠ .defer c := fun _ e => by cases e
 have hdf2 : ∀ c : Call, (⟨dst, .panic (.tmp d), ty', pos', after', none⟩ : Oper).op ≠ .defer c := fun _ e => by cases e
 have hev : (a.put (some d) (.iface T (a.eval x))).eval (.tmp d) = .iface T (a.eval x) := by
  simp [Act.eval, Act.put, hs.size, hdl]
 simp only [wpListIn, wanted_none (o := ⟨some d, .makeInterface T x, ty, pos, after, none⟩) rfl, if_true]
 refine ⟨fun _ _ => trivial, ?_⟩
 rw [Oper.semAt_eq _ _ _ hdf, hrun]
 show wpListIn (WF ρ) n c.P ops (Qh c Q) [⟨dst, .panic (.tmp d), ty', pos', after', none⟩] (a.put (some d) (.iface T (a.eval x))) w
 simp only [wpListIn, wanted_none (o := ⟨dst, .panic (.tmp d), ty', pos', after', none⟩) rfl, if_true]
 refine ⟨fun _ _ => trivial, ?_⟩
 have hrun2 : (execOp (a.put (some d) (.iface T (a.eval x))).eval ⟨dst, .panic (.tmp d), ty', pos', after', none⟩).run c.P w = .halt (.panic (.iface T (a.eval x))) w := by
  have hp : (Instr.panic (.iface T (a.eval x))).run c.P w = .halt (.panic (.iface T (a.eval x))) w := rfl
  simp [execOp, hev, hp, Result.andThen]
 rw [Oper.semAt_eq _ _ _ hdf2]
 show Oper.uponIn _ _ _ _ (a.put (some d) (.iface T (a.eval x))) _ _ _
 rw [hrun2]
 have hr := hs.eval x
 rw [hx] at hr
 exact ⟨σ.put (some d) .any, β, T, a.eval x, r, rfl, hs.put (fun d' e => by cases e; exact hdl) .any, hr, hk⟩
end
theorem marks_outU {c : Cx} {n : Nat} {fn : Func} {R : Ending → World → Prop} {u : FrameMode} {σ : S} {β : Nat → Value} (hu : u ≠ .run) (hdf : c.df = []) : ∀ (Ds : List Nat) {a : Act} {w : World}, Sim c σ β a w → a.defers = Ds.map markD → MarksOk c σ β w (Ds ++ c.M) →
  (∀ a' w', a'.tmps = a.tmps → a'.defers = [] → Sim c σ β a' w' → (∀ b, stF c σ β w b → stF c σ β w' b ∧ w'.heap[b]? = w.heap[b]?) → LeavesInM Fence.wide n c.P fn a'.tmps R [] u w') → LeavesInM Fence.wide n c.P fn a.tmps R (Ds.map markD) u w
 | [], a, w, hs, hd, hm, hR => hR a w rfl hd hs fun b hb => ⟨hb, rfl⟩
 | D :: Ds, a, w, hs, hd, hm, hR => by
  obtain ⟨h1, h2, h3⟩ := hm.ok D (by simp)
  have hlt := lt_of_some h2
  have hnd := hm.nd
  simp only [List.cons_append, List.nodup_cons] at hnd
  refine ⟨hu, .inl ⟨D, w.putObj D (.deferred none), rfl, run_takeDeferred h2, ?_⟩⟩
  have ho : ∀ k, k ≠ D → (w.putObj D (.deferred none)).heap[k]? = w.heap[k]? := fun k hk => World.putObj_heap_other hk
  have hk : Keep (fun b => b = D) w (w.putObj D (.deferred none)) := ⟨rfl, rfl, rfl, by simp [World.putObj], fun k _ hk => ho k hk⟩
  have H : ∀ b, stF c σ β w b → stF c σ β (w.putObj D (.deferred none)) b ∧ (w.putObj D (.deferred none)).heap[b]? = w.heap[b]? := fun b hb => by
   have hne : b ≠ D := fun e => hb.2.2.2.1 _ (e ▸ h2)
   exact ⟨⟨Nat.lt_of_lt_of_le hb.1 hk.size, hb.2.1, hb.2.2.1, hb.2.2.2.same (ho b hne)⟩, ho b hne⟩
  have hm' : MarksOk c σ β (w.putObj D (.deferred none)) (Ds ++ c.M) := ⟨hnd.2, fun D' hD' => by
   obtain ⟨g1, g2, g3⟩ := hm.ok D' (by simp only [List.cons_append, List.mem_cons]; exact .inr hD')
   exact ⟨g1, (ho D' fun e => hnd.1 (e ▸ hD')).trans g2, g3⟩, fun y hy => by
   obtain ⟨g1, g2, g3⟩ := hm.lp y hy
   exact ⟨g1, (ho y.1 fun e => by rw [e, h2] at g2; cases g2).trans g2, g3⟩⟩
  exact marks_outU hu hdf Ds (a := { a with defers := Ds.map markD }) (w := w.putObj D (.deferred none))
   ⟨hs.keep.trans hk (fun j e hj => by omega), hs.size, ⟨Ds, by rw [hdf]; simp, hm'⟩, c.hE H hs.ext, fun o x hx => (hs.obj o x hx).mono H fun b hb => ho b fun e => h3 o x hx (e ▸ hb), hs.blk, hs.dis, fun t => (hs.reg t).mono H, hs.env.mono H⟩
   rfl hm' fun a' w' h1 h2 h3 h4 => hR a' w' h1 h2 h3 fun b hb => ⟨(h4 b (H b hb).1).1, (h4 b (H b hb).1).2.trans (H b hb).2⟩
noncomputable def postP (vs : List Value) (ts : List Tmp) (K : S → List R → Prop) (KP : TypeId → R → S → Prop) : Ex → S → Prop
 | .normal, σ | .ret, σ => ∃ σ', Ghost σ σ' ∧ fvOf (σ'.mem 999999) = some vs ∧ K σ'.leave (ts.map fun t => (σ'.regs t).down)
 | .panic t r, σ => fvOf (σ.mem 999999) = some vs ∧ KP t r.down σ.leave
 | _, _ => False
theorem inlP_body {P : Program} {gl : Nat → Option (List D)} {f : FuncId} {fn : Func} {body : Code} {rs : List R} {ts : List Tmp} {σ : S} {K : S → List R → Prop} {KP : TypeId → R → S → Prop} (hm : P.follows .mixedOrders = true)
  (hf : P.funcs[f]? = some fn) (hb : fn.body = some body) (hr : resT fn.results.toList = some ts) (hname : (fn.name == "runtime.NumGoroutine") = false) (hd : dstOK fn.ntmps body = true) (hN : decide (rs.length ≤ fn.ntmps) = true)
  (h : ∀ vs, SemCode P gl body (postP vs ts K KP) (S.enter vs rs σ)) : InlP P gl f rs σ K KP := by
 refine ⟨⟨fn, hf, by rw [hb]; rfl, hname⟩, fun c β a w vs hP hgl hs hv => ?_⟩
 subst hP; subst hgl
 have h := h a.tmps.toList
 rw [← callsIn_wide (n := 0)]
 refine callsIn_of_wp_marks hf hb trivial ?_
 have hwf : Fence.wide = WF none := rfl
 obtain ⟨Ds, hds, hM⟩ := hs.df
 refine wpIn_mono (h (cxIn c fn.ntmps Ds) _ _ _ none 0 rfl rfl hm hd (.inl rfl) (enter_sim hs hM hv (by simpa using hN))) fun e a' w' hq => ?_
 have hfr : ∀ {σ' : S}, fvOf (σ'.mem 999999) = some a.tmps.toList → ∃ rs', σ'.mem 999999 = some (.frame a.tmps.toList rs') := by
  intro σ' hfv
  unfold fvOf at hfv
  split at hfv
  ·rename_i vs' rs' e; cases hfv; exact ⟨rs', e⟩
  ·cases hfv
 have fin : ∀ σ' β' a' w', Sim (cxIn c fn.ntmps Ds) σ' β' a' w' → fvOf (σ'.mem 999999) = some a.tmps.toList → K σ'.leave (ts.map fun t => (σ'.regs t).down) → ∃ v, (results fn a'.tmps).run c.P w' = .ok v w' ∧
   ∃ (us : List Value) (rs' : List R) (σ'' : S) (β'' : Nat → Value), Ending.returned v = .returned (retV us) ∧ Sim c σ'' β'' a w' ∧ F2 (RelR β'' (stF c σ'' β'' w') w') us rs' ∧ K σ'' rs' := by
  intro σ' β' a' w' hs' hfv hk
  obtain ⟨rs', hfr⟩ := hfr hfv
  obtain ⟨hl, hst⟩ := leave_sim (a := a) hs' hfr hs.size hds
  have hβ : ∀ o, 1000000 ≤ o → (fun o => β' (upId o)) (o - 1000000) = β' o := fun o ho => congrArg β' (upId_of ho)
  refine ⟨retV (ts.map fun t => a'.tmps.getD t undef), ?_, ts.map fun t => a'.tmps.getD t undef, _, _, _, rfl, hl, ⟨by simp, fun i u r hu hr' => ?_⟩, hk⟩
  ·have hrun : (fn.results.mapM (resG a'.tmps)).run c.P w' = .ok (ts.map fun t => a'.tmps.getD t undef).toArray w' := by
    have e1 : (ts.map fun t => a'.tmps.getD t undef) = fn.results.toList.map (resV c.P a'.tmps w') := by
     rw [resT_at hr, List.map_map]; rfl
    rw [e1]
    exact run_mapM_arr _ (resV c.P a'.tmps w') fun v hv => by
     have : v ∈ fn.results.toList := by simpa using hv
     rw [resT_at hr] at this
     obtain ⟨t, _, rfl⟩ := List.mem_map.1 this
     rfl
   have : results fn a'.tmps = (do let vs ← fn.results.mapM (resG a'.tmps); pure (if h : vs.size = 1 then vs[0] else .tuple vs)) := rfl
   rw [this, Sem.run_bind, hrun, Result.andThen_ok]
   show Result.ok _ _ = _
   congr 1
   match ts with
   | [] => rfl
   | [_] => rfl
   | _ :: _ :: _ => simp [retV]
  ·simp only [List.getElem?_map, Option.map_eq_some_iff] at hu hr'
   obtain ⟨t, ht, rfl⟩ := hu
   obtain ⟨t', ht', rfl⟩ := hr'
   rw [ht] at ht'; cases ht'
   exact RelR.down (β' := fun o => β' (upId o)) hβ ((hs'.reg t).mono hst)
 have out : ∀ σ' β', Sim (cxIn c fn.ntmps Ds) σ' β' a' w' → postP a.tmps.toList ts K KP .ret σ' → LeavesInM Fence.wide 0 c.P fn a'.tmps (fun e w' => (∃ (us : List Value) (rs' : List R) (σ' : S) (β' : Nat → Value), e = .returned (retV us) ∧ Sim c σ' β' a w' ∧ F2 (RelR β' (stF c σ' β' w') w') us rs' ∧ K σ' rs') ∨
   (∃ (t : TypeId) (v : Value) (r : R) (σ' : S) (β' : Nat → Value), e = .panicked [{ v := .iface t v, recovered := false }] ∧ Sim c σ' β' a w' ∧ RelR β' (stF c σ' β' w') w' v r ∧ KP t r σ')) a'.defers .returning w' := by
  rintro σ' β' hs' ⟨σ'', hg, hk⟩
  obtain ⟨β'', hs''⟩ := hg _ _ _ _ hs'
  obtain ⟨Ds', hd', hm'⟩ := hs''.df
  rw [show (cxIn c fn.ntmps Ds).df = [] from rfl, List.append_nil] at hd'
  rw [hd']
  exact marks_outU (by simp) (c := cxIn c fn.ntmps Ds) rfl Ds' hs'' hd' hm' fun a2 w2 _ _ hs2 _ => by
   obtain ⟨v, h1, h2⟩ := fin σ'' β'' a2 w2 hs2 hk.1 hk.2
   exact ⟨v, h1, .inl h2⟩
 cases e with
 | normal => obtain ⟨σ', β', hs', hk⟩ := hq; exact out σ' β' hs' hk
 | ret => obtain ⟨σ', β', hs', hk⟩ := hq; exact out σ' β' hs' hk
 | exit id => obtain ⟨σ', β', hs', hk⟩ := hq; exact hk.elim
 | goto l => exact hq.elim
 | panic ch =>
  obtain ⟨σ', β', t, v, r, rfl, hs', hv', hfv, hk⟩ := hq
  obtain ⟨Ds', hd', hm'⟩ := hs'.df
  rw [show (cxIn c fn.ntmps Ds).df = [] from rfl, List.append_nil] at hd'
  show LeavesInM Fence.wide 0 c.P fn a'.tmps _ a'.defers (.panicking _) w'
  rw [hd']
  refine marks_outU (by simp) (c := cxIn c fn.ntmps Ds) rfl Ds' hs' hd' hm' fun a2 w2 _ _ hs2 hH => ?_
  obtain ⟨rs', hfr⟩ := hfr hfv
  obtain ⟨hl, hst⟩ := leave_sim (a := a) hs2 hfr hs.size hds
  have hβ : ∀ o, 1000000 ≤ o → (fun o => β' (upId o)) (o - 1000000) = β' o := fun o ho => congrArg β' (upId_of ho)
  exact .inr ⟨t, v, r.down, _, _, rfl, hl, RelR.down (β' := fun o => β' (upId o)) hβ ((hv'.mono hH).mono hst), hk⟩
 | outgrown => exact hq.elim
end Go.VC
end
section
set_option maxRecDepth 100000
namespace Go.VC
open Go.RowKit Go.Proofs Go.IntWalk
def andN (a b : Nat) : Nat := a ^^^ (a &&& b)
theorem andN_bit (a b i : Nat) : (andN a b).testBit i = (a.testBit i && !b.testBit i) := by
 rw [andN, Nat.testBit_xor, Nat.testBit_and]; cases a.testBit i <;> cases b.testBit i <;> rfl
theorem andN_lt {a b : Nat} (ha : a < 2 ^ 32) : andN a b < 2 ^ 32 := Nat.xor_lt_two_pow ha (Nat.lt_of_le_of_lt Nat.and_le_left ha)
theorem u32_andn {a b : Nat} (ha : a < 2 ^ 32) (hb : b < 2 ^ 32) : andnK .u32 a b = ((andN a b : Nat) : Int) := by
 show IntKind.u32.wrap (BitVec.ofInt 32 (a : Int) &&& ~~~ BitVec.ofInt 32 (b : Int)).toNat = _
 have e : (BitVec.ofInt 32 (a : Int) &&& ~~~ BitVec.ofInt 32 (b : Int)) = BitVec.ofNat 32 (andN a b) := by
  rw [BitVec.ofInt_natCast, BitVec.ofInt_natCast]
  refine BitVec.eq_of_getLsbD_eq fun i hi => ?_
  simp only [BitVec.getLsbD_and, BitVec.getLsbD_not, BitVec.getLsbD_ofNat, andN_bit, hi, decide_true, Bool.true_and]
 have hl := andN_lt (a := a) (b := b) ha
 have e2 : (BitVec.ofInt 32 (a : Int) &&& ~~~ BitVec.ofInt 32 (b : Int)).toNat = andN a b := by
  rw [e, BitVec.toNat_ofNat, Nat.mod_eq_of_lt hl]
 rw [show (BitVec.ofInt 32 (a : Int) &&& ~~~BitVec.ofInt 32 (b : Int)).toNat = andN a b from e2]
 exact u32_in _ (by omega)
def rowB (row : List Nat) : Nat := row.foldl (fun b k => b ||| 2 ^ k) 0
theorem rowB_s (row : List Nat) (k : Nat) : rowB (row ++ [k]) = rowB row ||| 2 ^ k := by simp [rowB]
theorem rowB_bit : ∀ (row : List Nat) (i : Nat), (rowB row).testBit i = row.contains i := by
 have : ∀ (row : List Nat) (b i : Nat), (row.foldl (fun b k => b ||| 2 ^ k) b).testBit i = (b.testBit i || row.contains i) := by
  intro row
  induction row with
  | nil => intro b i; simp
  | cons k row ih =>
   intro b i
   rw [List.foldl_cons, ih, Nat.testBit_or, Nat.testBit_two_pow, List.contains_cons, Bool.or_assoc]
   congr 2
   by_cases h : k = i
   ·simp [h]
   ·have : ¬ i = k := fun e => h e.symm
    simp [h, this]
 intro row i
 rw [rowB, this]; simp
theorem rowB_lt {row : List Nat} {n : Nat} (h : ∀ k ∈ row, k < n) (hn : n ≤ 30) : rowB row < 2 ^ 32 := by
 refine Nat.lt_pow_two_of_testBit _ fun i hi => ?_
 rw [rowB_bit]
 cases hc : row.contains i with
 | false => rfl
 | true => have := h i (by simpa using hc); omega
def rowI (row : List Nat) : List Int := row.map fun (k : Nat) => (k : Int)
inductive Out where
 | ret (s : Nat)
 | fin (v : Nat) (row : List Nat) (s : Nat)
def freeR (T : List Txn) (who : Nat) (row : List Nat) (k : Nat) : Bool := (List.range T.length).all fun i => !(who.testBit i && !row.contains i && beforeB T i k)
def mayGo (T : List Txn) (who : Nat) (row : List Nat) (k : Nat) : Bool := who.testBit k && !row.contains k && freeR T who row k
def goStep (T : List Txn) (who C B : Nat) (rec : List Nat → Nat → Out) (row : List Nat) (o : Out) (k : Nat) : Out := match o with
 | .fin v r s => .fin v r s
 | .ret s => if mayGo T who row k = true then (if s = B then .fin 2 [] s else if legalN T C (rowI (row ++ [k])) = row.length + 1 then rec (row ++ [k]) (s + 1) else .ret (s + 1)) else .ret s
def goF (T : List Txn) (who C B : Nat) : Nat → List Nat → Nat → Out
 | 0, row, s => .ret s
 | f + 1, row, s => if rowB row = who then .fin 0 row s else (List.range T.length).foldl (goStep T who C B (goF T who C B f) row) (.ret s)
abbrev seaD (h : List Ev) (T : List Txn) (who C l s : Int) : List D := [.sl (h.map Ev.enc), .sl ((afterR T).map uenc), .v (.int .u32 who), .v (.int .u32 C), dI l, dI s]
def freeAt (T : List Txn) (who : Nat) (row : List Nat) (k i : Nat) : Bool := !(who.testBit i && !row.contains i && beforeB T i k)
theorem nx_all {p : Nat → Bool} {k : Nat} (hl : ∀ i, i < k → p i = true) (hb : p k = true) : ∀ i, i < k + 1 → p i = true := fun i hi => by
 by_cases h : i = k
 ·subst h; exact hb
 ·exact hl i (by omega)
theorem t1229 (h : List Ev) (T : List Txn) (who : Nat) (C l s : Int) (row : List Nat) (k : Nat) (hT : T.length ≤ 30) (hw : who < 2 ^ 32) (hr : ∀ k ∈ row, k < T.length) (hk : k < T.length) :
  Holds Tryz.prog GL 107 [.d (.pt (seaD h T who C l s)), U (rowB row), I k] [.a (B (freeR T who row k))] := by
 refine fn_holds (vs := [.tmp 6]) (by kernel_rfl) Tryz.func107 rfl rfl (by kernel_rfl) (by kernel_rfl) rfl ?_
 have hal := afterR_len T
 have hin := rowB_lt hr hT
 have hfr : freeR T who row k = (List.range T.length).all (freeAt T who row k) := rfl
 (refine rO ?_; repeat' ((with_reducible first | refine rG ?_ | (refine rS ?_ ?_ <;> intro hp) | (refine rB ?_ ?_ <;> intro hb <;> try rw [hb]) | refine rD ?_ | refine rA ?_ | fail) <;> try simp only [go_sem, simprocAttr, List.length_map]))
 refine awp_loopA (fun i : Nat => [(0, .a (.d (.pt (seaD h T who C l s)))), (1, .a (U (rowB row))), (2, .a (I k)), (12, .a (unsA (afterR T))), (13, .a (I (afterR T).length)), (14, .a (I i))]) (fun _ => []) (fun i => i ≤ T.length ∧ ∀ q, q < i → freeAt T who row k q = true) (T.length - ·) 0 ?_ ?_ ⟨Nat.zero_le _, fun i hi => by omega⟩ ?_
 ·simp only [go_sem, simprocAttr, List.length_map]
 ·simp only [go_sem, simprocAttr]
 intro i j ⟨hi, hq⟩
 (refine rO ?_; repeat' ((with_reducible first | refine rG ?_ | (refine rS ?_ ?_ <;> intro hp) | (refine rB ?_ ?_ <;> intro hb <;> try rw [hb]) | refine rD ?_ | refine rA ?_ | fail) <;> try simp only [go_sem, simprocAttr, hal]))
 ·have hil : i < T.length := by omega
  have hwi := wrap_succ (n := T.length) hil (by simp only [maxLen]; omega)
  have hx := afterR_at hil
  have hb0 : freeAt T who row k i = !(who.testBit i && !row.contains i && beforeB T i k) := rfl
  have hbi : (bitsN (beforeB T i) T.length).testBit k = beforeB T i k := by rw [bitsN_test, decide_eq_true hk, Bool.true_and]
  have hb32 := bits32 (beforeB T i) (n := T.length) (by omega)
  generalize bitsN (beforeB T i) T.length = b at hx hbi hb32
  have h1 := u32_andn hw hin
  have hA := andN_lt (b := rowB row) hw
  have hbA : (andN who (rowB row)).testBit i = (who.testBit i && !row.contains i) := by rw [andN_bit, rowB_bit]
  generalize andN who (rowB row) = A at h1 hA hbA
  have h2 := u32_bit (k := i) hA
  have h3 := u32_bit (k := k) hb32
  rw [hbA] at h2
  rw [hbi] at h3
  generalize (who.testBit i && !row.contains i) = c1 at h2 hb0
  generalize beforeB T i k = c2 at h3 hb0
  have s1 := u32_shr (b := A) (k := i) (by omega)
  have s2 := u32_shr (b := b) (k := k) (by omega)
  cases c1 with
  | false =>
   simp only [Bool.false_eq_true, if_false] at h2
   (refine rO ?_; repeat' ((with_reducible first | refine rG ?_ | (refine rS ?_ ?_ <;> intro hp) | (refine rB ?_ ?_ <;> intro hb <;> try rw [hb]) | refine rD ?_ | refine rA ?_ | fail) <;> try simp only [go_sem, simprocAttr, hx, uenc_eq, h1, s1, h2, hwi]))
   (refine ⟨i + 1, ?_, ?_, ⟨hil, nx_all hq hb0⟩, by dsimp only; omega⟩ <;> simp only [go_sem, simprocAttr, hwi])
  | true =>
   simp only [if_true] at h2
   cases c2 with
   | false =>
    simp only [Bool.false_eq_true, if_false] at h3
    (refine rO ?_; repeat' ((with_reducible first | refine rG ?_ | (refine rS ?_ ?_ <;> intro hp) | (refine rB ?_ ?_ <;> intro hb <;> try rw [hb]) | refine rD ?_ | refine rA ?_ | fail) <;> try simp only [go_sem, simprocAttr, hx, uenc_eq, h1, s1, h2, s2, h3, hwi]))
    (refine ⟨i + 1, ?_, ?_, ⟨hil, nx_all hq hb0⟩, by dsimp only; omega⟩ <;> simp only [go_sem, simprocAttr, hwi])
   | true =>
    simp only [if_true] at h3
    (refine rO ?_; repeat' ((with_reducible first | refine rG ?_ | (refine rS ?_ ?_ <;> intro hp) | (refine rB ?_ ?_ <;> intro hb <;> try rw [hb]) | refine rD ?_ | refine rA ?_ | fail) <;> try simp only [go_sem, simprocAttr, hx, uenc_eq, h1, s1, h2, s2, h3, hwi]))
    rw [hfr]; symm
    rw [List.all_eq_false]
    exact ⟨i, List.mem_range.2 hil, by rw [hb0]; decide⟩
 ·have : (List.range T.length).all (freeAt T who row k) = true := by
   rw [List.all_eq_true]; intro q hqm; exact hq q (by have := List.mem_range.1 hqm; omega)
  rw [hfr, this]
theorem t138 (r : List Int) : Holds Tryz.prog GL 53 [intsA r] [.clip (r.map ienc)] := by
 refine fn_holds (vs := [.tmp 2]) (by kernel_rfl) Tryz.func53 rfl rfl (by kernel_rfl) (by kernel_rfl) rfl ?_
 have ht : List.take r.length (List.map ienc r) = List.map ienc r := List.take_of_length_le (by simp)
 (refine rO ?_; repeat' ((with_reducible first | refine rG ?_ | (refine rS ?_ ?_ <;> intro hp) | (refine rB ?_ ?_ <;> intro hb <;> try rw [hb]) | refine rD ?_ | refine rA ?_ | fail) <;> try simp only [go_sem, simprocAttr, List.length_map, ht, Int.le_refl]))
end Go.VC
end
section
set_option maxRecDepth 100000
namespace Go.VC
open Go.RowKit Go.Proofs Go.IntWalk
section
variable {Bd : Nat} {vs : List Value} {n : Nat} {σ0 τ : S}
theorem KeepsB.put {d : Option Tmp} {r : R} (h : KeepsB Bd vs n σ0 τ) : KeepsB Bd vs n σ0 (τ.put d r) := by
 cases d <;> exact ⟨h.fr, h.ob⟩
theorem KeepsB.new {d : Nat} {x : Ob} (hd : decide (d < 999999) = true) (h : KeepsB Bd vs n σ0 τ) : KeepsB Bd vs n σ0 (τ.newOb d x) := by
 have h0 := of_decide_eq_true hd
 have hd1 : decide (d < 1000000) = true := decide_eq_true (by omega)
 have h9 : (d == 999999) = false := by simp; omega
 refine ⟨by simp only [go_sem, simprocAttr, PI, hd1, h.fr, h9], fun o x h1 h2 h3 => ?_⟩
 have h5 := h.ob o x h1 h2 h3
 simp only [go_sem, simprocAttr, PI, hd1, h5, okill_lo (of_decide_eq_true hd1)]
theorem KeepsB.set {d : Nat} {x : Ob} (hd : decide (d < 999999) = true) (h : KeepsB Bd vs n σ0 τ) : KeepsB Bd vs n σ0 (τ.setOb d x) := by
 have h0 := of_decide_eq_true hd
 have hd1 : decide (d < 1000000) = true := decide_eq_true (by omega)
 have h9 : (d == 999999) = false := by simp; omega
 refine ⟨by simp only [go_sem, simprocAttr, PI, hd1, h.fr, h9], fun o x h1 h2 h3 => ?_⟩
 have h5 := h.ob o x h1 h2 h3
 simp only [go_sem, simprocAttr, PI, hd1, h5]
theorem KeepsB.setU {x : Ob} (h : KeepsB Bd vs n σ0 τ) : KeepsB Bd vs n σ0 (τ.setOb (upId n) x) := by
 refine ⟨by simp only [go_sem, simprocAttr, PI, h.fr], fun o x h1 h2 h3 => ?_⟩
 have h5 := h.ob o x h1 h2 h3
 have h6 : (n == o) = false := Bool.beq_comm.trans h1
 simp only [go_sem, simprocAttr, PI, h5, h1, h6]
theorem ofrz_lo {x : Ob} {d : Nat} {f : Nat → D} (h : d < 1000000) : x.up.frz d f = x.up := by
 cases x with
 | box cs =>
  simp only [Ob.up, Ob.frz, List.map_map]
  congr 1
  exact List.map_congr_left fun r _ => frz_up_lo h
 | log e z xs => rfl
 | mpo kv => rfl
 | iter kv seen => rfl
 | frame vs rs => simp only [Ob.up, Ob.frz]; congr 1; funext t; exact frz_up_lo h
 | sem x =>
  simp only [Ob.up, Ob.frz, SemOb.up]
  rw [any_up1 h]; rfl
 | lost => rfl
theorem KeepsB.frz {d : Nat} {f : Nat → D} (hd : decide (d < 999999) = true) (h : KeepsB Bd vs n σ0 τ) : KeepsB Bd vs n σ0 (τ.frz d f) := by
 have h0 := of_decide_eq_true hd
 have hd1 : d < 1000000 := by omega
 have hu : ∀ {o}, ¬ upId o = d := fun {o} e => by have := upId_le o; omega
 refine ⟨?_, fun o x h1 h2 h3 => ?_⟩
 ·simp only [S.frz]; rw [if_neg (by omega), h.fr, Option.map_some, ff_lo (decide_eq_true hd1)]
 ·simp only [S.frz]; rw [if_neg hu, h.ob o x h1 h2 h3, Option.map_some, ofrz_lo hd1]
theorem KeepsB.left {B' : Nat} {σ' : S} (h : KeepsB Bd vs n σ0 τ) (hB : Bd + 1000000 ≤ B') (hL : LeftB B' (upId n) τ σ') : KeepsB Bd vs n σ0 σ' := by
 refine ⟨hL.m (by have := upId_le n; simp; omega) (decide_eq_true (by omega)) h.fr up_frame, fun o x h1 h2 h3 => ?_⟩
 have := of_decide_eq_true h2
 have := upId_eq o
 exact hL.m (by simp only [go_sem, simprocAttr, PI, h1]) (decide_eq_true (by omega)) (h.ob o x h1 h2 h3) (up_obj x)
end
theorem KeepsB.leave {Bd : Nat} {vs : List Value} {n : Nat} {σ0 τ : S} (hB : Bd ≤ 900000000) (h : KeepsB Bd vs n σ0 τ) : LeftB Bd n σ0 τ.leave :=
 ⟨fun {t r} ht hr => by rw [lv_r, h.fr, lv_f, ht]; exact hr, fun {o x} h1 h2 h3 h4 => by rw [lv_m (loB hB h2), h.ob o x h1 h2 h3]; exact congrArg some h4⟩
theorem KeepsB.enter {Bd : Nat} {vs : List Value} {n : Nat} {rs : List R} {σ : S} (hB : Bd ≤ 900000000) : KeepsB Bd vs n σ (S.enter vs rs σ) :=
 ⟨me_f, fun o x h1 h2 h3 => by rw [me_hi (loB hB h2), h3]; rfl⟩
theorem callQ_own {P : Program} {gl : Nat → Option (List D)} {σ : S} {f : FuncId} {rs : List R} {KR : R → Prop} (ys zs : List A) (h : Holds P gl f ys (zs.map Rv.a)) (ha : argsA σ rs = some ys) (hf : zs.all A.flat = true) (k : KR (retR zs)) : callVQ P gl f rs σ KR := callQ_flat h ha hf k
theorem foldl_range_s {α : Type} (g : α → Nat → α) (a : α) (k : Nat) : (List.range (k + 1)).foldl g a = g ((List.range k).foldl g a) k := by rw [List.range_succ, List.foldl_append]; rfl
def Bd (f : Nat) : Nat := 900000000 - f * 1000000
abbrev seaR (h : List Ev) (T : List Txn) (who C B s : Nat) : List R := [.a (evsA h), .a (unsA (afterR T)), .a (U who), .a (U C), .a (I ((B : Int) - (s : Int))), .a (I s)]
theorem fold_fin {T : List Txn} {who C B : Nat} {rec : List Nat → Nat → Out} {row row' : List Nat} {v s' : Nat} {a : Out} {k n : Nat} (hk : k < n) (h : (List.range (k + 1)).foldl (goStep T who C B rec row) a = .fin v row' s') : (List.range n).foldl (goStep T who C B rec row) a = .fin v row' s' := by
 induction n with
 | zero => omega
 | succ n ih =>
  by_cases e : k = n
  ·subst e; exact h
  ·rw [foldl_range_s, ih (by omega)]; rfl
theorem may_row {h : List Ev} (hE : checkE h = 0) {row : List Nat} (hnd : row.Nodup) (hin : ∀ k ∈ row, k < (txns h).length) : mayE h (rowI row) = 0 := by
 rw [mayE, if_pos hE, if_pos, if_pos]
 ·simp only [noDup, List.drop_zero, List.all_eq_true, List.mem_range, Bool.not_eq_true']
  intro i hi
  rw [rowI, List.length_map] at hi
  simp only [dupAt, rowI, List.getElem?_map, List.getElem?_eq_getElem hi, Option.map_some, ← List.map_take, List.any_map, List.any_eq_false, Function.comp, beq_iff_eq]
  intro y hy e
  have hyi : y = row[i] := by omega
  subst hyi
  obtain ⟨j, hj, hje⟩ := List.mem_iff_getElem.1 hy
  rw [List.length_take] at hj
  rw [List.getElem_take] at hje
  rw [List.nodup_iff_pairwise_ne, List.pairwise_iff_getElem] at hnd
  exact hnd j i (by omega) hi (by omega) hje
 ·rw [List.all_eq_true]
  intro x hx
  obtain ⟨k, hk, rfl⟩ := List.mem_map.1 hx
  rw [inT_nat]; exact decide_eq_true (hin k hk)
structure FrI (vs : List Value) (σ0 : S) (o : Nat) (h : List Ev) (T : List Txn) (who C B f : Nat) (row : List Nat) (s0 : Nat) (k : Nat) (τ : S) : Prop where
 le : k ≤ T.length
 r0 : τ.regs 0 = .ref (upId o) 0
 r1 : τ.regs 1 = .a (intsA (rowI row))
 r2 : τ.regs 2 = .a (U (rowB row))
 r23 : τ.regs 23 = .a (I T.length)
 r24 : τ.regs 24 = .a (I k)
 st : ∃ s, (List.range k).foldl (goStep T who C B (goF T who C B f) row) (.ret s0) = .ret s ∧ s ≤ B ∧ τ.mem (upId o) = some (.box (seaR h T who C B s))
 kp : KeepsB (Bd (f + 1)) vs o σ0 τ
theorem from_inl (h : List Ev) (hE : checkE h = 0) (who C B : Nat) (hw : who < 2 ^ (txns h).length) (hC : C < 2 ^ 32) (hB : B ≤ 1000000) : ∀ (f : Nat) (row : List Nat) (s : Nat) {σ : S} {o : Nat} {K : S → List R → Prop} {KP : TypeId → R → S → Prop},
  f ≤ 10 → row.length + f = (txns h).length + 1 → row.Nodup → (∀ k ∈ row, k < (txns h).length) → s ≤ B → decide (o < Bd f) = true → σ.mem o = some (.box (seaR h (txns h) who C B s)) →
  (∀ s' σ', goF (txns h) who C B f row s = .ret s' → s' ≤ B → LeftB (Bd f) o σ σ' → σ'.mem o = some (.box (seaR h (txns h) who C B s')) → K σ' []) →
  (∀ v row' s' σ', goF (txns h) who C B f row s = .fin v row' s' → s' ≤ B → LeftB (Bd f) o σ σ' → σ'.mem o = some (.box (seaR h (txns h) who C B s')) → KP 124 (.a (.ag [dI v, .sl ((rowI row').map ienc)])) σ') →
  InlP Tryz.prog GL 75 [.ref o 0, .a (intsA (rowI row)), .a (U (rowB row))] σ K KP := by
 intro f
 induction f with
 | zero =>
  intro row s σ o K KP _ hl hnd hin
  have := nodup_le (txns h).length row hnd hin
  omega
 | succ f ih =>
  intro row s σ o K KP hf hl hnd hin hs ho mo hK hKP
  have hl6 := txns_len6 h
  have hw32 : who < 2 ^ 32 := Nat.lt_of_lt_of_le hw (Nat.pow_le_pow_right (by omega) (by omega))
  have hb32 := rowB_lt hin (by omega)
  have hal := afterR_len (txns h)
  have hoB := of_decide_eq_true ho
  have hBd : Bd (f + 1) + 1000000 = Bd f := by unfold Bd; omega
  have hB9 : Bd (f + 1) ≤ 900000000 := by unfold Bd; omega
  have hO : decide (o < 999000000) = true := decide_eq_true (by omega)
  have hO1 : decide (upId o < 1000000000) = true := up_lt hO
  refine inlP_body (by kernel_rfl) Tryz.func75 rfl rfl (by kernel_rfl) (by kernel_rfl) rfl fun vs => ?_
  have hK0 : KeepsB (Bd (f + 1)) vs o σ (S.enter vs [.ref o 0, .a (intsA (rowI row)), .a (U (rowB row))] σ) := KeepsB.enter hB9
  have hmo : (S.enter vs [.ref o 0, .a (intsA (rowI row)), .a (U (rowB row))] σ).mem (upId o) = some (.box (seaR h (txns h) who C B s)) := by simp only [go_sem, simprocAttr, PI, hO, mo]
  refine sc_seq (sc_seq (sc_awp ?_))
  (refine rO ?_; repeat' ((with_reducible first | refine rG ?_ | (refine rS ?_ ?_ <;> intro hp) | (refine rB ?_ ?_ <;> intro hb <;> try rw [hb]) | refine rD ?_ | refine rA ?_ | fail) <;> try simp only [go_sem, simprocAttr, PI, hO, hO1, mo]))
  ·have hdone : rowB row = who := by omega
   refine sc_cond (b := true) (by simp only [go_sem, simprocAttr]) (fun _ => ?_) (fun e => by cases e)
   refine sc_region (raw_cons rfl ?_)
   simp only [go_sem, simprocAttr, PI]
   refine raw_cons rfl ?_
   simp only [go_sem, simprocAttr, PI]
   refine SemOp.old ?_
   simp only [go_sem, simprocAttr, PI, y_build0]
   refine raw_panic (offs := [(0, 1, false), (1, 1, false)]) (r := .a (.ag [dI 0, .sl ((rowI row).map ienc)])) (by kernel_rfl) (by simp only [go_sem, simprocAttr, PI]) ?_
   refine ⟨by simp only [go_sem, simprocAttr, PI]; try rfl, ?_⟩
   refine hKP 0 row s _ (by simp only [goF, hdone, if_true]) hs (KeepsB.leave (vs := vs) hB9 (by repeat' first | exact hK0 | refine KeepsB.put ?_)) ?_
   rw [lv_m hO]
   simp only [go_sem, simprocAttr, PI, hmo, hO, mo]
  ·have hdone : ¬ rowB row = who := by omega
   refine sc_cond (b := false) (by simp only [go_sem, simprocAttr]) (fun e => by cases e) (fun _ => ?_)
   refine sc_awp ?_
   (refine rO ?_; repeat' ((with_reducible first | refine rG ?_ | (refine rS ?_ ?_ <;> intro hp) | (refine rB ?_ ?_ <;> intro hb <;> try rw [hb]) | refine rD ?_ | refine rA ?_ | fail) <;> try simp only [go_sem, simprocAttr]))
   refine sc_seq (sc_awp ?_)
   (refine rO ?_; repeat' ((with_reducible first | refine rG ?_ | (refine rS ?_ ?_ <;> intro hp) | (refine rB ?_ ?_ <;> intro hb <;> try rw [hb]) | refine rD ?_ | refine rA ?_ | fail) <;> try simp only [go_sem, simprocAttr, PI, hO, hO1, mo]))
   refine sc_block ?_
   have hgo : goF (txns h) who C B (f + 1) row s = (List.range (txns h).length).foldl (goStep (txns h) who C B (goF (txns h) who C B f) row) (.ret s) := by simp only [goF, if_neg hdone]
   refine sc_loop (FrI vs σ o h (txns h) who C B f row s) ((txns h).length - ·) 0 ⟨_, Ghost.refl _, Nat.zero_le _, ?_, ?_, ?_, ?_, ?_, ⟨s, rfl, hs, ?_⟩, (by repeat' first | exact hK0 | refine KeepsB.put ?_)⟩ ?_
   iterate 5 (· simp only [go_sem, simprocAttr, PI, hal, List.length_map]; try rfl)
   ·simp only [go_sem, simprocAttr, PI, hmo, hO, mo]
   intro k τ ⟨hk, r0, r1, r2, r23, r24, ⟨s1, hs1, hsB, m1⟩, kp⟩
   refine sc_seq (sc_awp ?_)
   (refine rO ?_; repeat' ((with_reducible first | refine rG ?_ | (refine rS ?_ ?_ <;> intro hp) | (refine rB ?_ ?_ <;> intro hb <;> try rw [hb]) | refine rD ?_ | refine rA ?_ | fail) <;> try simp only [go_sem, simprocAttr, PI, r23, r24]))
   ·have hkl : k < (txns h).length := by omega
    refine sc_seq (sc_awp ?_)
    (refine rO ?_; repeat' ((with_reducible first | refine rG ?_ | (refine rS ?_ ?_ <;> intro hp) | (refine rB ?_ ?_ <;> intro hb <;> try rw [hb]) | refine rD ?_ | refine rA ?_ | fail) <;> try simp only [go_sem, simprocAttr, PI]))
    refine sc_seq (sc_block ?_)
    refine sc_seq (sc_awp ?_)
    (refine rO ?_; repeat' ((with_reducible first | refine rG ?_ | (refine rS ?_ ?_ <;> intro hp) | (refine rB ?_ ?_ <;> intro hb <;> try rw [hb]) | refine rD ?_ | refine rA ?_ | fail) <;> try simp only [go_sem, simprocAttr, PI, r24]))
    have hw1 := wrap_succ (n := (txns h).length) hkl (by simp only [maxLen]; omega)
    refine sc_seq (sc_seq (sc_awp ?_))
    have h1 := u32_andn hw32 hb32
    have hA := andN_lt (b := rowB row) hw32
    have hbA : (andN who (rowB row)).testBit k = (who.testBit k && !row.contains k) := by rw [andN_bit, rowB_bit]
    generalize andN who (rowB row) = A at h1 hA hbA
    have h2 := u32_bit (k := k) hA
    rw [hbA] at h2
    have s1' := u32_shr (b := A) (k := k) (by omega)
    have hst := foldl_range_s (goStep (txns h) who C B (goF (txns h) who C B f) row) (.ret s) k
    rw [hs1] at hst
    have hmg : mayGo (txns h) who row k = ((who.testBit k && !row.contains k) && freeR (txns h) who row k) := rfl
    generalize hcb : (who.testBit k && !row.contains k) = c1 at h2 hmg
    cases c1 with
    | false =>
     simp only [Bool.false_eq_true, if_false] at h2
     (refine rO ?_; repeat' ((with_reducible first | refine rG ?_ | (refine rS ?_ ?_ <;> intro hp) | (refine rB ?_ ?_ <;> intro hb <;> try rw [hb]) | refine rD ?_ | refine rA ?_ | fail) <;> try simp only [go_sem, simprocAttr, PI, r0, r2, r24, m1, h1, s1', h2]))
     refine sc_cond (b := true) (by simp only [go_sem, simprocAttr]) (fun _ => ?_) (fun e => by cases e)
     refine sc_awp ?_
     (refine rO ?_; repeat' ((with_reducible first | refine rG ?_ | (refine rS ?_ ?_ <;> intro hp) | (refine rB ?_ ?_ <;> intro hb <;> try rw [hb]) | refine rD ?_ | refine rA ?_ | fail) <;> try simp only [go_sem, simprocAttr]))
     refine sc_awp ?_
     (refine rO ?_; repeat' ((with_reducible first | refine rG ?_ | (refine rS ?_ ?_ <;> intro hp) | (refine rB ?_ ?_ <;> intro hb <;> try rw [hb]) | refine rD ?_ | refine rA ?_ | fail) <;> try simp only [go_sem, simprocAttr, PI, r24, hw1]))
     refine ⟨_, k + 1, Ghost.refl _, ⟨hkl, ?_, ?_, ?_, ?_, ?_, ⟨s1, by rw [hst]; simp only [goStep, hmg, Bool.false_and, Bool.false_eq_true, if_false], hsB, ?_⟩, (by repeat' first | exact kp | refine KeepsB.put ?_)⟩, by omega⟩
     iterate 6 (· simp only [go_sem, simprocAttr, PI, r0, r1, r2, r23, r24, m1, hw1]; try rfl)
    | true =>
     simp only [if_true] at h2
     (refine rO ?_; repeat' ((with_reducible first | refine rG ?_ | (refine rS ?_ ?_ <;> intro hp) | (refine rB ?_ ?_ <;> intro hb <;> try rw [hb]) | refine rD ?_ | refine rA ?_ | fail) <;> try simp only [go_sem, simprocAttr, PI, r0, r2, r24, m1, h1, s1', h2]))
     refine call_own _ (t1229 h (txns h) who C ((B : Int) - s1) s1 row k (by omega) hw32 hin hkl) (by simp only [go_sem, simprocAttr, PI, argsA, argA, r0, r2, r24, m1, List.drop_zero]) rfl ?_
     generalize freeR (txns h) who row k = c2 at hmg
     cases c2 with
     | false =>
      (refine rO ?_; repeat' ((with_reducible first | refine rG ?_ | (refine rS ?_ ?_ <;> intro hp) | (refine rB ?_ ?_ <;> intro hb <;> try rw [hb]) | refine rD ?_ | refine rA ?_ | fail) <;> try simp only [go_sem, simprocAttr, PI]))
      refine sc_cond (b := true) (by simp only [go_sem, simprocAttr]) (fun _ => ?_) (fun e => by cases e)
      refine sc_awp ?_
      (refine rO ?_; repeat' ((with_reducible first | refine rG ?_ | (refine rS ?_ ?_ <;> intro hp) | (refine rB ?_ ?_ <;> intro hb <;> try rw [hb]) | refine rD ?_ | refine rA ?_ | fail) <;> try simp only [go_sem, simprocAttr]))
      refine sc_awp ?_
      (refine rO ?_; repeat' ((with_reducible first | refine rG ?_ | (refine rS ?_ ?_ <;> intro hp) | (refine rB ?_ ?_ <;> intro hb <;> try rw [hb]) | refine rD ?_ | refine rA ?_ | fail) <;> try simp only [go_sem, simprocAttr, PI, r24, hw1]))
      refine ⟨_, k + 1, Ghost.refl _, ⟨hkl, ?_, ?_, ?_, ?_, ?_, ⟨s1, by rw [hst]; simp only [goStep, hmg, Bool.true_and, Bool.false_eq_true, if_false], hsB, ?_⟩, (by repeat' first | exact kp | refine KeepsB.put ?_)⟩, by omega⟩
      iterate 6 (· simp only [go_sem, simprocAttr, PI, r0, r1, r2, r23, r24, m1, hw1]; try rfl)
     | true =>
      have hnk : ¬ k ∈ row := fun hkr => by
       have := hcb
       rw [show row.contains k = true by simpa using hkr] at this
       simp at this
      have hndk : (row ++ [k]).Nodup := by
       rw [List.nodup_append]; exact ⟨hnd, by simp, fun a ha b hb => by simp only [List.mem_singleton] at hb; subst hb; exact fun e => hnk (e ▸ ha)⟩
      have hink : ∀ q ∈ row ++ [k], q < (txns h).length := fun q hq => by
       rcases List.mem_append.1 hq with h | h
       ·exact hin q h
       ·simp only [List.mem_singleton] at h; omega
      (refine rO ?_; repeat' ((with_reducible first | refine rG ?_ | (refine rS ?_ ?_ <;> intro hp) | (refine rB ?_ ?_ <;> intro hb <;> try rw [hb]) | refine rD ?_ | refine rA ?_ | fail) <;> try simp only [go_sem, simprocAttr, PI]))
      refine sc_cond (b := false) (by simp only [go_sem, simprocAttr]) (fun e => by cases e) (fun _ => ?_)
      refine sc_awp ?_
      (refine rO ?_; repeat' ((with_reducible first | refine rG ?_ | (refine rS ?_ ?_ <;> intro hp) | (refine rB ?_ ?_ <;> intro hb <;> try rw [hb]) | refine rD ?_ | refine rA ?_ | fail) <;> try simp only [go_sem, simprocAttr]))
      refine sc_seq (sc_seq (sc_awp ?_))
      (refine rO ?_; repeat' ((with_reducible first | refine rG ?_ | (refine rS ?_ ?_ <;> intro hp) | (refine rB ?_ ?_ <;> intro hb <;> try rw [hb]) | refine rD ?_ | refine rA ?_ | fail) <;> try simp only [go_sem, simprocAttr, PI, r0, m1]))
      ·have hsB2 : s1 = B := by omega
       refine sc_cond (b := true) (by simp only [go_sem, simprocAttr]) (fun _ => ?_) (fun e => by cases e)
       refine sc_region (raw_cons rfl ?_)
       simp only [go_sem, simprocAttr, PI]
       refine SemOp.old ?_
       simp only [go_sem, simprocAttr, PI, y_build0]
       refine raw_panic (offs := [(0, 1, false), (1, 1, false)]) (r := .a (.ag [dI 2, .sl []])) (by kernel_rfl) (by simp only [go_sem, simprocAttr, PI]) ?_
       refine ⟨by simp only [go_sem, simprocAttr, PI, kp.fr]; try rfl, ?_⟩
       refine hKP 2 [] s1 _ ?_ hsB (KeepsB.leave (vs := vs) hB9 (by repeat' first | exact kp | refine KeepsB.put ?_)) ?_
       ·rw [hgo]
        refine fold_fin hkl ?_
        rw [hst]; simp only [goStep, hmg, Bool.true_and, if_true, if_pos hsB2]
       ·rw [lv_m hO]
        simp only [go_sem, simprocAttr, PI, m1]
      ·have hsB2 : ¬ s1 = B := by omega
       refine sc_cond (b := false) (by simp only [go_sem, simprocAttr]) (fun e => by cases e) (fun _ => ?_)
       refine sc_awp ?_
       (refine rO ?_; repeat' ((with_reducible first | refine rG ?_ | (refine rS ?_ ?_ <;> intro hp) | (refine rB ?_ ?_ <;> intro hb <;> try rw [hb]) | refine rD ?_ | refine rA ?_ | fail) <;> try simp only [go_sem, simprocAttr]))
       have hwl : IntKind.i64.wrap ((B : Int) - s1 - 1) = (B : Int) - ((s1 + 1 : Nat) : Int) := by rw [i64_in _ (by omega)]; omega
       have hws : IntKind.i64.wrap ((s1 : Int) + 1) = ((s1 + 1 : Nat) : Int) := by rw [i64_in _ (by omega)]; omega
       refine sc_seq (sc_awp ?_)
       (refine rO ?_; repeat' ((with_reducible first | refine rG ?_ | (refine rS ?_ ?_ <;> intro hp) | (refine rB ?_ ?_ <;> intro hb <;> try rw [hb]) | refine rD ?_ | refine rA ?_ | fail) <;> try simp only [go_sem, simprocAttr, PI, r0, m1, hO, hO1, hwl]))
       refine sc_seq (sc_awp ?_)
       (refine rO ?_; repeat' ((with_reducible first | refine rG ?_ | (refine rS ?_ ?_ <;> intro hp) | (refine rB ?_ ?_ <;> intro hb <;> try rw [hb]) | refine rD ?_ | refine rA ?_ | fail) <;> try simp only [go_sem, simprocAttr, PI, r0, m1, hO, hO1, hws]))
       refine sc_seq (sc_awp ?_)
       (refine rO ?_; repeat' ((with_reducible first | refine rG ?_ | (refine rS ?_ ?_ <;> intro hp) | (refine rB ?_ ?_ <;> intro hb <;> try rw [hb]) | refine rD ?_ | refine rA ?_ | fail) <;> try simp only [go_sem, simprocAttr, PI, r1]))
       refine call_dat (t138 (rowI row)) ?_
       have hril : (rowI row).length ≤ 100 := by rw [rowI, List.length_map]; omega
       (refine rO ?_; repeat' ((with_reducible first | refine rG ?_ | (refine rS ?_ ?_ <;> intro hp) | (refine rB ?_ ?_ <;> intro hb <;> try rw [hb]) | refine rD ?_ | refine rA ?_ | fail) <;> try simp only [go_sem, simprocAttr, PI, List.length_map]))
       refine sc_seq (sc_awp ?_)
       have hmore : (rowI row).map ienc ++ [[dI k]] = (rowI (row ++ [k])).map ienc := by simp [rowI, ienc]
       have hmI := may_row hE hndk hink
       (refine rO ?_; repeat' ((with_reducible first | refine rG ?_ | (refine rS ?_ ?_ <;> intro hp) | (refine rB ?_ ?_ <;> intro hb <;> try rw [hb]) | refine rD ?_ | refine rA ?_ | fail) <;> try simp only [go_sem, simprocAttr, PI, r0, m1, hO, hO1, hmore]))
       have hmlen : (rowI (row ++ [k])).length = row.length + 1 := by rw [rowI, List.length_map, List.length_append]; rfl
       refine callQ_own [evsA h, intsA (rowI (row ++ [k])), U C] [I (legV h (rowI (row ++ [k])) C), I (mayE h (rowI (row ++ [k])))] (t48 h (rowI (row ++ [k])) C hC) (by simp only [go_sem, simprocAttr, PI, argsA, argA, hmore]) rfl ?_
       rw [legV, if_pos hmI, hmI]
       (refine rO ?_; repeat' ((with_reducible first | refine rG ?_ | (refine rS ?_ ?_ <;> intro hp) | (refine rB ?_ ?_ <;> intro hb <;> try rw [hb]) | refine rD ?_ | refine rA ?_ | fail) <;> try simp only [go_sem, simprocAttr, PI]))
       refine sc_seq (sc_awp ?_)
       (refine rO ?_; repeat' ((with_reducible first | refine rG ?_ | (refine rS ?_ ?_ <;> intro hp) | (refine rB ?_ ?_ <;> intro hb <;> try rw [hb]) | refine rD ?_ | refine rA ?_ | fail) <;> try simp only [go_sem, simprocAttr, PI, hmlen, List.length_map]))
       ·have hp2 := hp
        rw [hmore, List.length_map, hmlen] at hp2
        have hleg : legalN (txns h) C (rowI (row ++ [k])) = row.length + 1 := by omega
        have hsh := u32_shl (k := k) (by omega)
        have h2k : 2 ^ k < 2 ^ 32 := Nat.pow_lt_pow_right (by omega) (by omega)
        have hor := u32_or hb32 h2k
        rw [← rowB_s] at hor
        have hstep : goStep (txns h) who C B (goF (txns h) who C B f) row (.ret s1) k = goF (txns h) who C B f (row ++ [k]) (s1 + 1) := by
         simp only [goStep, hmg, Bool.true_and, if_true, if_neg hsB2, if_pos hleg]
        rw [hstep] at hst
        have hoU : decide (upId o < Bd f) = true := decide_eq_true (by have := upId_eq o; omega)
        refine sc_cond (b := true) (by simp only [go_sem, simprocAttr]) (fun _ => ?_) (fun e => by cases e)
        refine sc_ghost (g_frz (t := 7) (o := 69) (xs := (rowI (row ++ [k])).map ienc) (by simp only [go_sem, simprocAttr, PI]) (by simp only [go_sem, simprocAttr, PI, hmore]; rfl) (by omega)) ?_
        refine sc_region (raw_cons rfl ?_)
        simp only [go_sem, simprocAttr, PI, r0]
        refine raw_cons rfl ?_
        simp only [go_sem, simprocAttr, PI]
        refine raw_cons rfl ?_
        simp only [go_sem, simprocAttr, PI, r2]
        refine raw_cons rfl ?_
        simp only [go_sem, simprocAttr, PI]
        refine raw_cons rfl ?_
        simp only [go_sem, simprocAttr, PI, hsh]
        refine raw_cons rfl ?_
        simp only [go_sem, simprocAttr, PI, hsh, hor]
        refine raw_call (g := 75) (rs := [.ref (upId o) 0, .a (intsA (rowI (row ++ [k]))), .a (U (rowB (row ++ [k])))]) rfl rfl (by simp only [go_sem, simprocAttr, PI, r0, r2, List.map_cons, List.map_nil]) ?_
        refine ih (row ++ [k]) (s1 + 1) (by omega) (by rw [List.length_append, List.length_cons, List.length_nil]; omega) hndk hink (by omega) hoU (by simp only [go_sem, simprocAttr, PI, m1]) ?_ ?_
        ·intro s2 σ' hg2 hs2 hL hm2
         have kp2 := KeepsB.left (Bd := Bd (f + 1)) (vs := vs) (σ0 := σ) (h := (by repeat' first | (with_reducible exact kp) | (with_reducible refine KeepsB.put ?_) | (with_reducible refine KeepsB.setU ?_) | refine KeepsB.frz rfl ?_ | refine KeepsB.new rfl ?_ | exact kp)) (Nat.le_of_eq hBd) hL
         have q24 := hL.r (t := 24) (r := .a (I k)) (by simp only [go_sem, simprocAttr, PI, r24]) rfl
         have q23 := hL.r (t := 23) (r := .a (I (txns h).length)) (by simp only [go_sem, simprocAttr, PI, r23]) rfl
         have q0 := hL.r (t := 0) (r := .ref (upId o) 0) (by simp only [go_sem, simprocAttr, PI, r0]) up_ref1
         have q1 := hL.r (t := 1) (r := .a (intsA (rowI row))) (by simp only [go_sem, simprocAttr, PI, r1]) rfl
         have q2 := hL.r (t := 2) (r := .a (U (rowB row))) (by simp only [go_sem, simprocAttr, PI, r2]) rfl
         refine sc_awp ?_
         (refine rO ?_; repeat' ((with_reducible first | refine rG ?_ | (refine rS ?_ ?_ <;> intro hp) | (refine rB ?_ ?_ <;> intro hb <;> try rw [hb]) | refine rD ?_ | refine rA ?_ | fail) <;> try simp only [go_sem, simprocAttr, PI, q24, hw1]))
         refine ⟨_, k + 1, Ghost.refl _, ⟨hkl, ?_, ?_, ?_, ?_, ?_, ⟨s2, by rw [hst, hg2], hs2, ?_⟩, (by repeat' first | exact kp2 | refine KeepsB.put ?_)⟩, by omega⟩
         iterate 6 (· simp only [go_sem, simprocAttr, PI, q0, q1, q2, q23, q24, hm2, hw1]; try rfl)
        ·intro v row' s2 σ' hg2 hs2 hL hm2
         have kp2 := KeepsB.left (Bd := Bd (f + 1)) (vs := vs) (σ0 := σ) (h := (by repeat' first | (with_reducible exact kp) | (with_reducible refine KeepsB.put ?_) | (with_reducible refine KeepsB.setU ?_) | refine KeepsB.frz rfl ?_ | refine KeepsB.new rfl ?_ | exact kp)) (Nat.le_of_eq hBd) hL
         refine ⟨by simp only [go_sem, simprocAttr, PI, kp2.fr]; try rfl, ?_⟩
         refine hKP v row' s2 _ ?_ hs2 (KeepsB.leave (vs := vs) hB9 kp2) ?_
         ·rw [hgo]
          exact fold_fin hkl (by rw [hst, hg2])
         ·rw [lv_m hO, hm2]
          simp only [go_sem, simprocAttr, PI]
       ·have hp2 := hp
        rw [hmore, List.length_map, hmlen] at hp2
        have hleg : ¬ legalN (txns h) C (rowI (row ++ [k])) = row.length + 1 := by omega
        refine sc_cond (b := false) (by simp only [go_sem, simprocAttr]) (fun e => by cases e) (fun _ => ?_)
        refine sc_awp ?_
        (refine rO ?_; repeat' ((with_reducible first | refine rG ?_ | (refine rS ?_ ?_ <;> intro hp) | (refine rB ?_ ?_ <;> intro hb <;> try rw [hb]) | refine rD ?_ | refine rA ?_ | fail) <;> try simp only [go_sem, simprocAttr]))
        refine sc_awp ?_
        (refine rO ?_; repeat' ((with_reducible first | refine rG ?_ | (refine rS ?_ ?_ <;> intro hp) | (refine rB ?_ ?_ <;> intro hb <;> try rw [hb]) | refine rD ?_ | refine rA ?_ | fail) <;> try simp only [go_sem, simprocAttr, PI, r24, hw1]))
        refine ⟨_, k + 1, Ghost.refl _, ⟨hkl, ?_, ?_, ?_, ?_, ?_, ⟨s1 + 1, by rw [hst]; simp only [goStep, hmg, Bool.true_and, if_true, if_neg hsB2, if_neg hleg], by omega, ?_⟩, (by repeat' first | (with_reducible exact kp) | (with_reducible refine KeepsB.put ?_) | (with_reducible refine KeepsB.setU ?_) | refine KeepsB.new rfl ?_ | exact kp)⟩, by omega⟩
        iterate 6 (· simp only [go_sem, simprocAttr, PI, r0, r1, r2, r23, r24, m1, hw1]; try rfl)
   ·refine sc_awp ?_
    (refine rO ?_; repeat' ((with_reducible first | refine rG ?_ | (refine rS ?_ ?_ <;> intro hp) | (refine rB ?_ ?_ <;> intro hb <;> try rw [hb]) | refine rD ?_ | refine rA ?_ | fail) <;> try simp only [go_sem, simprocAttr]))
    have hkn : k = (txns h).length := by omega
    subst hkn
    refine ⟨_, Ghost.refl _, by simp only [go_sem, simprocAttr, PI, kp.fr]; try rfl, ?_⟩
    refine hK s1 _ (by rw [hgo, hs1]) hsB (KeepsB.leave (vs := vs) hB9 (by repeat' first | exact kp | refine KeepsB.put ?_)) ?_
    rw [lv_m hO]
    simp only [go_sem, simprocAttr, PI, m1]
end Go.VC
end
section
set_option maxRecDepth 100000
namespace Go.VC
open Go.RowKit Go.Proofs
structure LeftF (B : Nat) (σ σ' : S) : Prop where
 r : ∀ {t : Nat} {r : R}, σ.regs t = r → FineR 999995 r → σ'.regs t = r
 m : ∀ {o : Nat} {x : Ob}, (o == 999995) = false → decide (o < B) = true → σ.mem o = some x → FineO 999995 x → σ'.mem o = some x
structure KeepsF (B : Nat) (vs : List Value) (σ0 τ : S) : Prop where
 fr : τ.mem 999999 = some (.frame vs (upF σ0.regs))
 ob : ∀ o x, (o == 999995) = false → decide (o < B) = true → σ0.mem o = some x → τ.mem (upId o) = some x.up
section
variable {B : Nat} {vs : List Value} {σ0 τ : S}
theorem KeepsF.enter {rs : List R} {σ : S} (hB : B ≤ 999000000) : KeepsF B vs σ (S.enter vs rs σ) := ⟨me_f, fun o x _ ho hx => by rw [me_hi (decide_eq_true (by have := of_decide_eq_true ho; omega)), hx]; rfl⟩
theorem KeepsF.leave (hB : B ≤ 999000000) (h : KeepsF B vs σ0 τ) : LeftF B σ0 τ.leave :=
 ⟨fun {t r} ht hr => by rw [lv_r, h.fr, lv_f, ht]; exact hr.1, fun {o x} h1 h2 h3 h4 => by rw [lv_m (decide_eq_true (by have := of_decide_eq_true h2; omega)), h.ob o x h1 h2 h3]; exact congrArg some h4.1⟩
theorem KeepsF.leave_mv {q : Nat} (hB : B ≤ 999000000) (hq : decide (q < 999999) = true) (h : KeepsF B vs σ0 τ) : LeftF B σ0 (τ.mv q (upId 999995)).leave := by
 have hq0 := of_decide_eq_true hq
 have hq1 : decide (q < 1000000) = true := decide_eq_true (by omega)
 refine ⟨fun {t r} ht hr => ?_, fun {o x} h1 h2 h3 h4 => ?_⟩
 ·rw [lv_r, mv_mo (beq_up rfl) (by simp; omega), h.fr, Option.map_some, mo_frame hq1, lv_f]
  show (((σ0.regs t).kill 999995).up).down = r
  rw [ht]; exact hr.2
 ·rw [lv_m (decide_eq_true (by have := of_decide_eq_true h2; omega)), mv_mo (by rw [up_up]; exact h1) (up_beq hq1), h.ob o x h1 h2 h3]
  exact congrArg some (h4.2.2 q (by omega))
theorem KeepsF.left {B' : Nat} {τ' : S} (hB : B + 1000000 ≤ B') (h : KeepsF B vs σ0 τ) (hu : LeftF B' τ τ') : KeepsF B vs σ0 τ' :=
 ⟨hu.m rfl (decide_eq_true (by omega)) h.fr (fineO_fr (by omega) _ _), fun o x h1 h2 hx => hu.m (up_beq rfl) (decide_eq_true (by have := of_decide_eq_true h2; rw [upId_eq]; omega)) (h.ob o x h1 h2 hx) (fineO_up (by omega) x)⟩
theorem KeepsF.mem {τ' : S} (h : KeepsF B vs σ0 τ) (e : ∀ o, 999999 ≤ o → τ'.mem o = τ.mem o) : KeepsF B vs σ0 τ' := ⟨(e _ (Nat.le_refl _)).trans h.fr, fun o x h1 h2 hx => (e _ (by have := upId_le o; omega)).trans (h.ob o x h1 h2 hx)⟩
theorem KeepsF.put {d : Option Nat} {r : R} (h : KeepsF B vs σ0 τ) : KeepsF B vs σ0 (τ.put d r) := h.mem fun o _ => by cases d <;> rfl
theorem okill_ups {x : Ob} {d : Nat} (h : d < 1000000) : x.up.kill d = x.up := by
 cases x with
 | box cs =>
  simp only [Ob.up, Ob.kill, List.map_map]
  congr 1
  exact List.map_congr_left fun r _ => kill_up_lo h
 | log e z xs => rfl
 | mpo kv => rfl
 | iter kv seen => rfl
 | frame vs rs => simp only [Ob.up, Ob.kill]; congr 1; funext t; exact kill_up_lo h
 | sem x =>
  simp only [Ob.up, Ob.kill, SemOb.up]
  rw [any_up1 h]; rfl
 | lost => rfl
theorem KeepsF.new {d : Nat} {x : Ob} (hd : decide (d < 999999) = true) (h : KeepsF B vs σ0 τ) : KeepsF B vs σ0 (τ.newOb d x) := by
 have h0 := of_decide_eq_true hd
 refine ⟨?_, fun o x h1 h2 hx => ?_⟩
 ·simp only [S.newOb, upd]; rw [if_neg (by omega), h.fr, Option.map_some, kf_lo (decide_eq_true (by omega))]
 ·simp only [S.newOb, upd]; rw [if_neg (by have := upId_le o; omega), h.ob o x h1 h2 hx, Option.map_some, okill_ups (by omega)]
theorem KeepsF.set {d : Nat} {x : Ob} (hd : decide (d < 999999) = true) (h : KeepsF B vs σ0 τ) : KeepsF B vs σ0 (τ.setOb d x) := h.mem fun o ho => by
 have := of_decide_eq_true hd
 simp only [S.setOb, upd]; rw [if_neg (by omega)]
theorem KeepsF.frz {d : Nat} {f : Nat → D} (hd : decide (d < 999999) = true) (h : KeepsF B vs σ0 τ) : KeepsF B vs σ0 (τ.frz d f) := by
 have h0 := of_decide_eq_true hd
 refine ⟨?_, fun o x h1 h2 hx => ?_⟩
 ·simp only [S.frz]; rw [if_neg (by omega), h.fr, Option.map_some, ff_lo (decide_eq_true (by omega))]
 ·simp only [S.frz]; rw [if_neg (by have := upId_le o; omega), h.ob o x h1 h2 hx, Option.map_some, ofrz_lo (by omega)]
theorem KeepsF.del {d : Nat} (hd : decide (d < 999999) = true) (h : KeepsF B vs σ0 τ) : KeepsF B vs σ0 (τ.del d) := h.mem fun o ho => by
 have := of_decide_eq_true hd
 simp only [S.del]; rw [if_neg (by omega)]
theorem KeepsF.back (h : KeepsF B vs σ0 τ) : KeepsF B vs σ0 τ.back := h.mem fun o ho => by simp only [S.back]; rw [if_neg (by omega)]
theorem KeepsF.again {T : List Value} {τ σ : S} (hB : B ≤ 999000000) : KeepsF B T σ (S.again T τ σ) := (KeepsF.enter (rs := []) hB).mem fun o _ => rfl
end
def YieldF (P : Program) (gl : Nat → Option (List D)) (L : Nat) (T : Array Value) (σ : S) (A' B' : S → Prop) : Prop :=
 ∀ (c : Cx) (β : Nat → Value) (a : Act) (w : World) (n : Nat), c.P = P → c.gl = gl → a.tmps = T → Sim c σ β a w →
  YieldAt Fence.wide n P L #[β 999995] w fun e w' => ∃ σ' β', Sim c σ' β' a w' ∧ ((e = .returned (.bool true) ∧ A' σ') ∨ (e = .returned (.bool false) ∧ B' σ'))
theorem YieldF.mono {P : Program} {gl : Nat → Option (List D)} {L : Nat} {T : Array Value} {σ : S} {A' A'' B' : S → Prop} (h : YieldF P gl L T σ A' B') (hA : ∀ τ, A' τ → ∃ τ', Ghost τ τ' ∧ A'' τ') : YieldF P gl L T σ A'' B' := by
 intro c β a w n h1 h2 h3 hs
 obtain ⟨fn, tmps, assign, body, hy, hR⟩ := h c β a w n h1 h2 h3 hs
 refine ⟨fn, tmps, assign, body, hy, hR.mono fun e w' he => ?_⟩
 obtain ⟨σ', β', hs', hk⟩ := he
 rcases hk with ⟨he, hk⟩ | hk
 ·obtain ⟨τ', hg, hk'⟩ := hA _ hk
  obtain ⟨β2, hs2⟩ := hg _ _ _ _ hs'
  exact ⟨τ', β2, hs2, .inl ⟨he, hk'⟩⟩
 ·exact ⟨σ', β', hs', .inr hk⟩
def IterF (B : Nat) (P : Program) (gl : Nat → Option (List D)) (g : FuncId) (caps : List D) (e : TypeId) (sz : Nat) (xs : List (List (List D))) : Prop :=
 FnOk P g ∧ ∀ (L : Nat) (T : Array Value) (σ : S) (Inv : Nat → S → Prop) (Done : S → Prop), (∀ i σ σ', LeftF B σ σ' → Inv i σ → Inv i σ') → (∀ σ σ', LeftF B σ σ' → Done σ → Done σ') →
  (∀ i x σ, xs[i]? = some x → Inv i σ → σ.mem 999995 = some (.log e sz x) → YieldF P gl L T σ (Inv (i + 1)) Done) → Inv 0 σ →
  ∀ (c : Cx) (β : Nat → Value) (a : Act) (w : World) (vs : List Value), c.P = P → c.gl = gl → a.tmps = T → Sim c σ β a w → F2 (RelR β (stF c σ β w) w) vs (yR L :: caps.map fun d => .a (.d d)) →
   Calls P g vs.toArray w fun e w' => ∃ (v : Value) (σ' : S) (β' : Nat → Value), e = .returned v ∧ Sim c σ' β' a w' ∧ (Inv xs.length σ' ∨ Done σ')
def AwpE (P : Program) (gl : Nat → Option (List D)) (code : Code) (Q : Ex → S → Prop) (σ : S) : Prop := ∀ (c : Cx) (β : Nat → Value) (a : Act) (w : World), Sim c σ β a w → ∃ σ' β', Sim c σ' β' a w ∧ awp P gl code Q σ'
theorem AwpE.of {P : Program} {gl : Nat → Option (List D)} {code : Code} {Q : Ex → S → Prop} {σ : S} (h : awp P gl code Q σ) : AwpE P gl code Q σ := fun _ β _ _ hs => ⟨σ, β, hs, h⟩
def S.rndF (σ : S) (vs : List Value) (p : Tmp) : S := { regs := upd (killR 999996 σ.regs) p (.own 999995), mem := (σ.newOb 999996 (.frame vs (killR 999996 σ.regs))).mem }
theorem KeepsF.rnd {B : Nat} {vs : List Value} {σ0 τ : S} {us : List Value} {p : Tmp} (h : KeepsF B vs σ0 τ) : KeepsF B vs σ0 (τ.rndF us p) := (h.new (d := 999996) (x := .frame us (killR 999996 τ.regs)) rfl).mem fun o _ => rfl
section
variable {c : Cx} {σ : S} {β : Nat → Value} {a : Act} {w : World}
theorem log_one {e : TypeId} {sz : Nat} {x : List (List D)} {st : Nat → Prop} {v : Value} (h : ObRel β st w v (.log e sz x)) : v.oneCell' = true := by
 obtain ⟨cells, hr, _⟩ := h
 rcases hr with hr | ⟨_, _, p, rfl⟩
 ·rcases hr.2 with ⟨rfl, _⟩ | ⟨g, cap, cur, rfl, _⟩ <;> rfl
 ·rfl
theorem rnd_simF {p : Tmp} {Ds : List Nat} {e : TypeId} {sz : Nat} {x : List (List D)} (h : Sim c σ β a w) (hM : MarksOk c σ β w (Ds ++ c.M)) (hlog : σ.mem 999995 = some (.log e sz x)) (hp : p < a.tmps.size) :
  Sim (reC c a.tmps.size [] (Ds ++ c.M) c.E c.hE) (σ.rndF a.tmps.toList p) (upd β 999996 undef) { tmps := a.tmps.setIfInBounds p (β 999995), defers := [] } w := by
 have hgd : ∀ t, a.tmps.toList.getD t undef = a.tmps.getD t undef := fun t => by rw [List.getD_eq_getElem?_getD, Array.getD_eq_getD_getElem?, Array.getElem?_toList]
 have T : ∀ o', o' ≠ 999996 → upd β 999996 undef o' = β o' := fun o' e => by simp [upd, e]
 have H : ∀ b, stF c σ β w b → stF c (σ.newOb 999996 (.frame a.tmps.toList (killR 999996 σ.regs))) (upd β 999996 undef) w b ∧ w.heap[b]? = w.heap[b]? := fun b hb => ⟨st_new (Nat.le_refl _) (fun _ _ => rfl) (fun b hb => by cases hb) hb, rfl⟩
 have h1 := h.new (o := 999996) (x := .frame a.tmps.toList (killR 999996 σ.regs)) (bv := undef) (w' := w) (Keep.refl _ _) (fun b hb => by cases hb) ⟨rfl, fun t => by rw [hgd]; exact ((h.reg t).mono H).turn T⟩
 have hM1 : MarksOk c (σ.newOb 999996 (.frame a.tmps.toList (killR 999996 σ.regs))) (upd β 999996 undef) w ([] ++ (Ds ++ c.M)) := hM.keep (fun _ _ _ => rfl) fun o x hx => by
  by_cases e : o = 999996
  ·subst e; exact .inr fun b hb => by simp [upd, undef_own] at hb
  ·simp only [S.newOb, upd, if_neg e] at hx
   obtain ⟨y, hy, _⟩ := Option.map_eq_some_iff.1 hx
   exact .inl ⟨o, y, hy, T o e⟩
 refine (h1.move (a' := { tmps := a.tmps.setIfInBounds p (β 999995), defers := [] }) (σ' := σ.rndF a.tmps.toList p) (fun o x hx => hx) (by simp) [] rfl hM1 h1.ext fun t => ?_).1
 simp only [S.rndF, upd]
 rw [Array.getD_eq_getD_getElem?, Array.getElem?_setIfInBounds]
 by_cases e : p = t
 ·subst e; rw [if_pos rfl, if_pos rfl, if_pos hp]
  exact .own (by simp [upd]) (log_one (h.obj _ _ hlog))
 ·rw [if_neg e, if_neg fun e' => e e'.symm, ← Array.getD_eq_getD_getElem?]; exact h1.reg t
end
theorem yield_okF {P : Program} {gl : Nat → Option (List D)} {L : Nat} {T : Array Value} {σ : S} {A' : S → Prop} {B' : Ex → S → Prop} {r : Loop} {p : Tmp} {e : TypeId} {sz : Nat} {x : List (List D)} (hmx : P.follows .mixedOrders = true) (hr : σ.mem 999997 = some (.sem (recOb L r))) (hst : r.state = .ready) (hT : r.tmps = T) (hps : r.params = #[p])
  (hp : p < T.size) (hda : dstOK T.size r.assign = true) (hna : noRng r.assign = true) (hdb : dstOK T.size r.body = true) (hnb : noRng r.body = true) (hlog : σ.mem 999995 = some (.log e sz x))
  (h : AwpE P gl r.assign (rndB P gl L T.toList r r.body A' B') (σ.rndF T.toList p)) : YieldF P gl L T σ A' (fun σ => ∃ e, e.calm = true ∧ B' e σ) := by
 intro c β a w n hP hgl hTa hs
 subst hP; subst hgl; subst hTa
 obtain ⟨hb, hh⟩ := hs.obj _ _ hr
 obtain ⟨Ds, hds, hM⟩ := hs.df
 refine ⟨r.fn, _, r.assign, r.body, run_yield hh (by simp [hps]), roundIn_of_wpIn trivial ?_⟩
 have e1 : (r.params.zip #[β 999995]).foldl (fun tmps (x : Tmp × Value) => tmps.setIfInBounds x.1 x.2) r.tmps = a.tmps.setIfInBounds p (β 999995) := by
  rw [hT, hps, ← Array.foldl_toList, Array.toList_zip]; rfl
 rw [show (r.params.zip #[β 999995]).foldl (fun tmps (t, a) => tmps.setIfInBounds t a) r.tmps = a.tmps.setIfInBounds p (β 999995) from e1]
 obtain ⟨σ0, β0, hs0, hawp⟩ := h _ _ _ _ (rnd_simF (p := p) hs hM hlog hp)
 have hwf : Fence.wide.inRound L = WF (some L) := rfl
 rw [hwf]
 refine wpIn_mono (awp_sound (c := reC c a.tmps.size [] (Ds ++ c.M) c.E c.hE) (ρ := some L) hmx r.assign hda (.inr hna) hawp hs0) fun e a1 w1 hq => ?_
 cases e with
 | normal =>
  obtain ⟨σ1, β1, hs1, hr1, hb1⟩ := hq
  obtain ⟨hh1, hs1'⟩ := rec_set { r with state := .busy } hs1 hr1
  refine ⟨_, run_beginRound hh1 hst, ?_⟩
  refine wpIn_mono (awp_sound (c := reC c a.tmps.size [] (Ds ++ c.M) c.E c.hE) (ρ := some L) hmx r.body hdb (.inr hnb) hb1 hs1') fun e a2 w2 hq2 => ?_
  cases e with
  | normal =>
   obtain ⟨σ2, β2, hs2, hf2, hr2, hA⟩ := hq2
   obtain ⟨hh2, hs3⟩ := rec_set { r with state := .ready, pending := none } hs2 hr2
   exact ⟨_, _, run_endRound none hh2, _, β2, back_sim hs3 (by rw [show (σ2.setOb 999997 _).mem 999996 = σ2.mem 999996 from rfl]; exact hf2) hs.size hds, .inl ⟨rfl, hA⟩⟩
  | ret =>
   obtain ⟨σ2, β2, hs2, hf2, hr2, hA⟩ := hq2
   obtain ⟨hh2, hs3⟩ := rec_set { r with state := .done, pending := some .ret } hs2 hr2
   exact ⟨_, _, run_endRound (some .ret) hh2, _, β2, back_sim hs3 (by rw [show (σ2.setOb 999997 _).mem 999996 = σ2.mem 999996 from rfl]; exact hf2) hs.size hds, .inr ⟨rfl, _, rfl, hA⟩⟩
  | exit id =>
   obtain ⟨σ2, β2, hs2, hf2, hr2, hA⟩ := hq2
   obtain ⟨hh2, hs3⟩ := rec_set { r with state := .done, pending := some (.exit id) } hs2 hr2
   exact ⟨_, _, run_endRound (some (.exit id)) hh2, _, β2, back_sim hs3 (by rw [show (σ2.setOb 999997 _).mem 999996 = σ2.mem 999996 from rfl]; exact hf2) hs.size hds, .inr ⟨rfl, _, rfl, hA⟩⟩
  | goto l => exact hq2.elim
  | panic ch => obtain ⟨_, _, _, _, _, _, _, _, _, _, hk⟩ := hq2; exact hk.elim
  | outgrown => exact hq2.elim
 | exit id => obtain ⟨_, _, _, hk⟩ := hq; exact hk.elim
 | ret => obtain ⟨_, _, _, hk⟩ := hq; exact hk.elim
 | goto l => exact hq.elim
 | panic ch => obtain ⟨_, _, _, _, _, _, _, _, hk⟩ := hq; exact hk.elim
 | outgrown => exact hq.elim
theorem range_semF {P : Program} {gl : Nat → Option (List D)} {f : Operand} {p : Tmp} {B sz : Nat} {e0 : TypeId} {assign body : Code} {Q : Ex → S → Prop} {σ : S} {gf : FuncId} {caps : List D} {xs : List (List (List D))} (Inv : Nat → S → Prop) (Done : Ex → S → Prop)
  (hf : σ.eval gl f = .a (.d (.fn gf caps))) (hit : IterF B P gl gf caps e0 sz xs) (hB : decide (1000000 ≤ B) = true) (hna : noRng assign = true) (hnb : noRng body = true)
  (hudI : ∀ i σ σ', LeftF B σ σ' → Inv i σ → Inv i σ') (hudD : ∀ e σ σ', LeftF B σ σ' → Done e σ → Done e σ')
  (h0 : ∀ L r, Inv 0 (σ.newOb 999997 (.sem (recOb L r))))
  (hR : ∀ L T r i x σ, r.state = .ready → xs[i]? = some x → Inv i σ → σ.mem 999997 = some (.sem (recOb L r)) → σ.mem 999995 = some (.log e0 sz x) →
   AwpE P gl assign (rndB P gl L T r body (fun τ => ∃ τ', Ghost τ τ' ∧ τ'.mem 999997 = some (.sem (recOb L { r with state := .ready, pending := none })) ∧ Inv (i + 1) τ')
    (fun e τ => τ.mem 999997 = some (.sem (recOb L { r with state := .done, pending := exC e })) ∧ Done e τ)) (σ.rndF T p))
  (hN : ∀ σ, Inv xs.length σ → Q .normal (σ.del 999997)) (hD : ∀ e σ, Done e σ → Q e (σ.del 999997)) : SemCode P gl (.rangeFunc f #[p] assign body) Q σ := by
 intro c β a w ρ n hP hgl hmx hd hp hs
 subst hP; subst hgl
 obtain rfl : ρ = none := hp.resolve_right (by simp [noRng])
 simp only [dstOK, Bool.and_eq_true] at hd
 obtain ⟨⟨hdp, hda⟩, hdb⟩ := hd
 obtain ⟨cvs, hcv, hcl, hcd⟩ : ∃ cvs : List Value, a.eval f = .func (.func gf) #[] cvs.toArray ∧ cvs.length = caps.length ∧ ∀ (j : Nat) (d : D) (v : Value), caps[j]? = some d → cvs[j]? = some v → Rd (stF c σ β w) w v d := by
  have hfv := (hf ▸ hs.eval f).inv_d
  generalize a.eval f = fv at hfv
  cases hfv with
  | fn hl hd => exact ⟨_, rfl, hl, hd⟩
 refine wpIn_rangeFunc fun fn _ => ?_
 have hro : (WF none).round = none := rfl
 obtain ⟨Ds, hds, hM⟩ := hs.df
 let r0 : Loop := { state := .ready, pending := none, fn := fn, tmps := a.tmps, params := #[p], assign := assign, body := body, defers := w.heap.size }
 let w1 := w.alloc (.deferred (some []))
 let W1 := w1.alloc (.loop r0)
 have hsz1 : w1.heap.size = w.heap.size + 1 := World.size_alloc _ _
 have hL : W1.heap[w.heap.size + 1]? = some (.loop r0) := by
  have := World.alloc_heap_new w1 (.loop r0); rwa [hsz1] at this
 have hold : ∀ k, k < w.heap.size → W1.heap[k]? = w.heap[k]? := fun k hk => (Below.heap_alloc w1 _ k (by omega)).trans (Below.heap_alloc w _ k hk)
 have hDd : W1.heap[w.heap.size]? = some (.deferred (some [])) := (Below.heap_alloc w1 _ _ (by omega)).trans (World.alloc_heap_new w _)
 have hg := (hs.grow (Keep.alloc (fun _ => False) w (.deferred (some [])))).1
 have hn := hg.new (o := 999997) (x := .sem (recOb (w.heap.size + 1) r0)) (bv := .pointer (some ⟨w.heap.size + 1, 0, none⟩)) (w' := W1) (Keep.alloc _ _ _) (fun b hb => by cases hb; exact .inl (by rw [World.size_alloc]; exact Nat.le_refl _)) ⟨rfl, hL⟩
 have hM1 : MarksOk c (σ.newOb 999997 (.sem (recOb (w.heap.size + 1) r0))) (upd β 999997 (.pointer (some ⟨w.heap.size + 1, 0, none⟩))) W1 ((w.heap.size :: Ds) ++ c.M) := by
  have hk := hM.keep (w' := W1) (σ' := σ.newOb 999997 (.sem (recOb (w.heap.size + 1) r0))) (β' := upd β 999997 (.pointer (some ⟨w.heap.size + 1, 0, none⟩))) (fun D hD _ => hold D hD) fun o x hx => by
   by_cases e : o = 999997
   ·subst e; exact .inr fun b hb => by simp only [upd, if_pos rfl] at hb; cases hb; exact .inl (Nat.le_succ _)
   ·simp only [S.newOb, upd, if_neg e] at hx
    obtain ⟨y, hy, _⟩ := Option.map_eq_some_iff.1 hx
    exact .inl ⟨o, y, hy, by simp [upd, e]⟩
  refine ⟨?_, fun D hD => ?_, hk.lp⟩
  ·simp only [List.cons_append, List.nodup_cons]
   refine ⟨fun hin => ?_, hM.nd⟩
   have := lt_of_some (hM.ok _ hin).2.1
   omega
  ·simp only [List.cons_append, List.mem_cons] at hD
   rcases hD with rfl | hD
   ·refine ⟨hs.keep.size, hDd, fun o x hx e => ?_⟩
    by_cases eo : o = 999997
    ·subst eo; simp only [upd, if_pos rfl] at e; have h9 : w.heap.size + 1 = w.heap.size := Option.some.inj e; omega
    ·simp only [S.newOb, upd, if_neg eo] at hx e
     obtain ⟨y, hy, _⟩ := Option.map_eq_some_iff.1 hx
     have := (hs.obj o y hy).lt e
     omega
   ·exact hk.ok D hD
 have hs1 : Sim c (σ.newOb 999997 (.sem (recOb (w.heap.size + 1) r0))) (upd β 999997 (.pointer (some ⟨w.heap.size + 1, 0, none⟩))) { a with defers := markD w.heap.size :: a.defers } W1 :=
  (hn.move (N := c.N) (df := c.df) (M := c.M) (E := c.E) (hE := c.hE) (a' := { a with defers := markD w.heap.size :: a.defers }) (fun o x h => h) hs.size (w.heap.size :: Ds) (by simp [hds]) hM1 hn.ext fun t => hn.reg t).1
 have hst1 : ∀ b, stF c σ β w b → stF c (σ.newOb 999997 (.sem (recOb (w.heap.size + 1) r0))) (upd β 999997 (.pointer (some ⟨w.heap.size + 1, 0, none⟩))) W1 b ∧ W1.heap[b]? = w.heap[b]? := fun b hb =>
  ⟨st_new (by rw [World.size_alloc, World.size_alloc]; omega) (fun b hb => hold b hb.1) (fun b hb => by cases hb; exact .inl (Nat.le_succ _)) hb, hold b hb.1⟩
 have hargs : F2 (RelR (upd β 999997 (.pointer (some ⟨w.heap.size + 1, 0, none⟩))) (stF c (σ.newOb 999997 (.sem (recOb (w.heap.size + 1) r0))) (upd β 999997 (.pointer (some ⟨w.heap.size + 1, 0, none⟩))) W1) W1) (yieldV (w.heap.size + 1) :: cvs) (yR (w.heap.size + 1) :: caps.map fun d => .a (.d d)) := by
  refine F2.cons yR_rel ⟨by simp [hcl], fun i u r hu hr => ?_⟩
  simp only [List.getElem?_map, Option.map_eq_some_iff] at hr
  obtain ⟨d, hd, rfl⟩ := hr
  exact .a (x := .d d) ((hcd i d u hd hu).mono hst1)
 have hcall := hit.2 (w.heap.size + 1) a.tmps (σ.newOb 999997 (.sem (recOb (w.heap.size + 1) r0))) (fun i τ => τ.mem 999997 = some (.sem (recOb (w.heap.size + 1) r0)) ∧ Inv i τ)
  (fun τ => ∃ e : Ex, Ex.calm e = true ∧ τ.mem 999997 = some (.sem (recOb (w.heap.size + 1) { r0 with state := .done, pending := exC e })) ∧ Done e τ)
  (fun i τ τ' hr h => ⟨hr.m rfl (decide_eq_true (by have := of_decide_eq_true hB; omega)) h.1 (fineO_sem (by simp [recOb])), hudI i τ τ' hr h.2⟩)
  (fun τ τ' hr ⟨e, hc, h⟩ => ⟨e, hc, hr.m rfl (decide_eq_true (by have := of_decide_eq_true hB; omega)) h.1 (fineO_sem (by simp [recOb])), hudD e τ τ' hr h.2⟩)
  (fun i x τ hx h hl => (yield_okF hmx h.1 rfl rfl rfl (by rw [hs.size]; simpa using hdp) (by rw [hs.size]; exact hda) hna (by rw [hs.size]; exact hdb) hnb hl (hR _ _ _ i x τ rfl hx h.2 h.1 hl)).mono fun τ h => h)
  ⟨by simp [S.newOb, upd], h0 _ _⟩ c _ { a with defers := markD w.heap.size :: a.defers } W1 _ rfl rfl rfl hs1 hargs
 refine ⟨w.heap.size + 1, [markD w.heap.size], W1, { target := .fn (.func gf) cvs.toArray, args := #[yieldV (w.heap.size + 1)] }, W1, gf, (yieldV (w.heap.size + 1) :: cvs).toArray, W1, run_enterLoop_outer _ _ _ _ _, ?_, fun _ _ => trivial, ?_, fun h => by simp [WF, Fence.wide] at h, ?_⟩
 ·simp only [resolve, hcv]
  simp [go_sem, yieldV]
 ·have h2 : (#[yieldV (w.heap.size + 1)] ++ cvs.toArray : Array Value) = (yieldV (w.heap.size + 1) :: cvs).toArray := by simp
  simp only [invoke, h2]
  exact funcs_run hit.1
 ·refine callsW (ρ := none) (hcall.mono ?_)
  rintro e W2 ⟨v, σ', β', rfl, hs2, hk⟩
  have fin : ∀ (e : Ex) (r : Loop), e.calm = true → σ'.mem 999997 = some (.sem (recOb (w.heap.size + 1) r)) → r.state ≠ .busy → r.pending = exC e → Q e (σ'.del 999997) → rangePost (WF none) n c.P (w.heap.size + 1) (Qh c Q) { a with defers := [markD w.heap.size] ++ a.defers } (.returned v) W2 := fun e r hcalm hr hb hpe hq => by
   obtain ⟨hh, hs3⟩ := rec_set { r with state := .exhausted } hs2 hr
   refine ⟨_, _, run_endLoop hh hb, ?_⟩
   obtain ⟨Ds3, hds3, hM3⟩ := hs3.df
   have hs4 : Sim c (σ'.del 999997) β' { a with defers := [markD w.heap.size] ++ a.defers } (W2.putObj (w.heap.size + 1) (.loop { r with state := .exhausted })) :=
    (hs3.move (N := c.N) (df := c.df) (M := c.M) (E := c.E) (hE := c.hE) (σ' := σ'.del 999997) (fun o x hx => by
     simp only [S.del] at hx
     split at hx
     ·cases hx
     ·rename_i e; simp only [S.setOb, upd, if_neg e]; exact hx) hs3.size Ds3 hds3 hM3 hs3.ext fun t => hs3.reg t).1
   rw [hpe] at hs4 ⊢
   cases e with
   | normal => exact ⟨_, _, hs4, hq⟩
   | ret => exact wpIn_ret ⟨_, _, hs4, hq⟩
   | exit id => exact wpIn_exit ⟨_, _, hs4, hq⟩
   | panic t r => cases hcalm
  rcases hk with ⟨hr, hi⟩ | ⟨e, hcalm, hr, hd⟩
  ·exact fin .normal _ rfl hr (by simp [r0]) rfl (hN _ hi)
  ·exact fin e _ hcalm hr (by simp) rfl (hD e _ hd)
theorem iter_bodyF {B sz : Nat} {e0 : TypeId} {P : Program} {gl : Nat → Option (List D)} {f : FuncId} {fn : Func} {body : Code} {caps : List D} {xs : List (List (List D))} (hm : P.follows .mixedOrders = true)
  (hf : P.funcs[f]? = some fn) (hb : fn.body = some body) (hr : resT fn.results.toList = some []) (hname : (fn.name == "runtime.NumGoroutine") = false) (hd : dstOK fn.ntmps body = true) (hN : decide ((yR 0 :: caps.map fun d => R.a (.d d)).length ≤ fn.ntmps) = true)
  (h : ∀ (L : Nat) (T : Array Value) (σ : S) (Inv : Nat → S → Prop) (Done : S → Prop), (∀ i σ σ', LeftF B σ σ' → Inv i σ → Inv i σ') → (∀ σ σ', LeftF B σ σ' → Done σ → Done σ') → (∀ i x σ, xs[i]? = some x → Inv i σ → σ.mem 999995 = some (.log e0 sz x) → YieldF P gl L T σ (Inv (i + 1)) Done) → Inv 0 σ →
   awp P gl body (postG T.toList [] fun σ' _ => Inv xs.length σ' ∨ Done σ') (S.enter T.toList (.a (.d (.v (yieldV L))) :: caps.map fun d => .a (.d d)) σ)) : IterF B P gl f caps e0 sz xs := by
 refine ⟨⟨fn, hf, by rw [hb]; rfl, hname⟩, fun L T σ Inv Done hI hD hY h0 c β a w vs hP hgl hT hs hv => ?_⟩
 refine (inl_bodyT hm hf hb hr hd (by simpa using hN) (h L T σ Inv Done hI hD hY h0) c β a w vs hP hgl (by rw [hT]) hs ⟨hv.1, fun i v r h1 h2 => by
  cases i with
  | zero =>
   obtain rfl : R.a (.d (.v (yieldV L))) = r := by simpa using h2
   rw [yR_inv (hv.2 0 v _ h1 rfl)]
   exact .a (x := .d (.v (yieldV L))) (.v rfl)
  | succ i => exact hv.2 (i + 1) v r h1 (by simpa using h2)⟩).mono fun e w' hq => ?_
 obtain ⟨us, rs', σ', β', he, hs', _, hk⟩ := hq
 exact ⟨_, σ', β', he, hs', hk⟩
def reL (c : Cx) (x : Nat × Loop) : Cx := { c with LM := x :: c.LM }
section
variable {c : Cx} {σ : S} {β : Nat → Value} {a : Act} {w : World}
theorem Sim.addL {x : Nat × Loop} (h : Sim c σ β a w) (h1 : c.w0.heap.size ≤ x.1) (h2 : w.heap[x.1]? = some (.loop x.2)) (h3 : ∀ o y, σ.mem o = some y → ownB (β o) ≠ some x.1) : Sim (reL c x) σ β a w := by
 obtain ⟨Ds, e, m⟩ := h.df
 exact ⟨h.keep, h.size, ⟨Ds, e, m.nd, m.ok, fun y hy => by
  rcases List.mem_cons.1 hy with rfl | hy
  ·exact ⟨h1, h2, h3⟩
  ·exact m.lp y hy⟩, h.ext, h.obj, h.blk, h.dis, h.reg, h.env⟩
theorem Sim.dropL {x : Nat × Loop} (h : Sim (reL c x) σ β a w) : Sim c σ β a w ∧ c.w0.heap.size ≤ x.1 ∧ w.heap[x.1]? = some (.loop x.2) ∧ ∀ o y, σ.mem o = some y → ownB (β o) ≠ some x.1 := by
 obtain ⟨Ds, e, m⟩ := h.df
 exact ⟨⟨h.keep, h.size, ⟨Ds, e, m.nd, m.ok, fun y hy => m.lp y (List.mem_cons_of_mem _ hy)⟩, h.ext, h.obj, h.blk, h.dis, h.reg, h.env⟩, m.lp x (List.mem_cons_self ..)⟩
theorem Sim.claim {o L : Nat} {r : Loop} (h : Sim c σ β a w) (ho : o < 1000000000) (h1 : c.w0.heap.size ≤ L) (h2 : w.heap[L]? = some (.loop r)) (h3 : ∀ o' y, σ.mem o' = some y → ownB (β o') ≠ some L) (h4 : ∀ y ∈ c.LM, y.1 ≠ L) :
  Sim c (σ.newOb o (.sem (recOb L r))) (upd β o (.pointer (some ⟨L, 0, none⟩))) a w := by
 have T : ∀ o', o' ≠ o → upd β o (.pointer (some ⟨L, 0, none⟩)) o' = β o' := fun o' e => by simp [upd, e]
 have M : ∀ o' y, o' ≠ o → (σ.newOb o (.sem (recOb L r))).mem o' = some y → ∃ z, σ.mem o' = some z ∧ y = z.kill o := fun o' y e hy => by
  simp only [S.newOb, upd, if_neg e, Option.map_eq_some_iff] at hy
  obtain ⟨z, h1, h2⟩ := hy
  exact ⟨z, h1, h2.symm⟩
 have own : ∀ o' y b, (σ.newOb o (.sem (recOb L r))).mem o' = some y → ownB (upd β o (.pointer (some ⟨L, 0, none⟩)) o') = some b → (o' = o ∧ b = L) ∨ ∃ z, o' ≠ o ∧ σ.mem o' = some z ∧ y = z.kill o ∧ ownB (β o') = some b := fun o' y b hy hb => by
  by_cases e : o' = o
  ·subst e
   simp only [upd, if_pos rfl] at hb
   cases hb; exact .inl ⟨rfl, rfl⟩
  ·obtain ⟨z, hz, hk⟩ := M o' y e hy
   rw [T o' e] at hb
   exact .inr ⟨z, e, hz, hk, hb⟩
 have H : ∀ b, stF c σ β w b → stF c (σ.newOb o (.sem (recOb L r))) (upd β o (.pointer (some ⟨L, 0, none⟩))) w b ∧ w.heap[b]? = w.heap[b]? := fun b hb => ⟨⟨hb.1, hb.2.1, fun o' y hy e => by
  rcases own o' y b hy e with ⟨_, rfl⟩ | ⟨z, _, hz, _, hb'⟩
  ·exact hb.2.2.2.2 r h2
  ·exact hb.2.2.1 o' z hz hb', hb.2.2.2⟩, rfl⟩
 have dfn : ∃ Ds : List Nat, a.defers = Ds.map markD ++ c.df ∧ MarksOk c (σ.newOb o (.sem (recOb L r))) (upd β o (.pointer (some ⟨L, 0, none⟩))) w (Ds ++ c.M) := by
  obtain ⟨Ds, e, m⟩ := h.df
  refine ⟨Ds, e, m.nd, fun D hD => ?_, fun y hy => ?_⟩
  ·obtain ⟨g1, g2, g3⟩ := m.ok D hD
   refine ⟨g1, g2, fun o' y hy e => ?_⟩
   rcases own o' y D hy e with ⟨_, rfl⟩ | ⟨z, _, hz, _, hb'⟩
   ·rw [h2] at g2; cases g2
   ·exact g3 o' z hz hb'
  ·obtain ⟨g1, g2, g3⟩ := m.lp y hy
   refine ⟨g1, g2, fun o' z hz e => ?_⟩
   rcases own o' z y.1 hz e with ⟨_, e2⟩ | ⟨z', _, hz', _, hb'⟩
   ·exact h4 y hy e2
   ·exact g3 o' z' hz' hb'
 refine ⟨h.keep, h.size, dfn, c.hE H h.ext, fun o' y hy => ?_, fun o' y b hy hb => ?_, fun o1 o2 y1 y2 b g1 g2 g3 g4 => ?_, fun t => ?_, h.env.mono H⟩
 ·by_cases e : o' = o
  ·subst e
   obtain rfl : (Ob.sem (recOb L r)) = y := by simpa [S.newOb, upd] using hy
   exact ⟨by simp [upd], h2⟩
  ·obtain ⟨z, hz, rfl⟩ := M o' y e hy
   rw [T o' e]
   exact ((h.obj o' z hz).mono H fun _ _ => rfl).turn T
 ·rcases own o' y b hy hb with ⟨_, rfl⟩ | ⟨z, _, hz, _, hb'⟩
  ·exact .inl h1
  ·exact h.blk o' z b hz hb'
 ·rcases own o1 y1 b g1 g3 with ⟨e1, b1⟩ | ⟨z1, _, hz1, _, hb1⟩
  ·rcases own o2 y2 b g2 g4 with ⟨e2, _⟩ | ⟨z2, _, hz2, _, hb2⟩
   ·rw [e1, e2]
   ·exact (h3 o2 z2 hz2 (b1 ▸ hb2)).elim
  ·rcases own o2 y2 b g2 g4 with ⟨e2, b2⟩ | ⟨z2, _, hz2, _, hb2⟩
   ·exact (h3 o1 z1 hz1 (b2 ▸ hb1)).elim
   ·exact h.dis o1 o2 z1 z2 b hz1 hz2 hb1 hb2
 ·exact ((h.reg t).mono H).turn T
end
noncomputable def S.again2 (T vs : List Value) (rs : Nat → R) (L2 : Nat) (r2 : Loop) (τ σ : S) : S := ((S.again T τ σ).newOb 999997 (.sem (recOb L2 r2))).newOb 999996 (.frame vs fun t => (rs t).pur)
theorem SemOp.ghost {P : Program} {gl : Nat → Option (List D)} {o : Oper} {σ σ' : S} {K : S → Prop} (g : Ghost σ σ') (h : SemOp P gl o σ' K) : SemOp P gl o σ K := fun c β a w hP hgl hs hd => by
 obtain ⟨β', hs'⟩ := g c β a w hs
 exact h c β' a w hP hgl hs' hd
theorem yield_semF {P : Program} {gl : Nat → Option (List D)} {L : Nat} {T : Array Value} {dst : Option Tmp} {y z : Operand} {ts : Array TypeId} {ty : TypeId} {pos : String} {after : Array Edge} {g : Option (Nat × Bool)} {τ : S} {A' B' : S → Prop} {K : S → Prop}
  (hy : τ.eval gl y = .a (.d (.v (yieldV L)))) (hx : τ.eval gl z = .own (upId 999995)) (hf : fvOf (τ.mem 999999) = some T.toList) (hY : YieldF P gl L T τ.leave A' B')
  (hA : ∀ σ', A' σ' → K ((S.again T.toList τ σ').put dst (.a (.d (.v (.bool true)))))) (hB : ∀ σ', B' σ' → K ((S.again T.toList τ σ').put dst (.a (.d (.v (.bool false)))))) :
  SemOp P gl ⟨dst, .call ⟨.value y, #[z], ts⟩, ty, pos, after, g⟩ τ K := by
 intro c β a w hP hgl hs hd
 subst hP; subst hgl
 have hyv : a.eval y = yieldV L := (hy ▸ hs.eval y).inv_v
 obtain ⟨rs, hfr⟩ := fv_at hf
 obtain ⟨Ds, hds, hM⟩ := hs.df
 let E' : (Nat → Prop) → World → Prop := fun st w => c.E st w ∧ ∀ t, RelR (fun _ => undef) st w (a.tmps.getD t undef) (τ.regs t).pur
 have hE' : ∀ {st st' : Nat → Prop} {w w' : World}, (∀ b, st b → st' b ∧ w'.heap[b]? = w.heap[b]?) → E' st w → E' st' w' := fun H h => ⟨c.hE H h.1, fun t => (h.2 t).mono H⟩
 obtain ⟨hl, hst⟩ := leave_re (E := E') (hE := hE') hs hfr hM ⟨hs.ext, fun t => pur_rel (hs.reg t)⟩
 have hzv : a.eval z = β (upId 999995) := (hx ▸ hs.eval z).inv_own
 refine Run.of_wp (fun _ e => by cases e) fun ρ n next Q hn => ?_
 obtain ⟨fn, tmps, assign, body, hyl, hR⟩ := hY (reC c T.size [] (Ds ++ c.M) E' hE') _ _ w (n - 1) rfl rfl rfl hl
 have hrun : (execOp a.eval ⟨dst, .call ⟨.value y, #[z], ts⟩, ty, pos, after, g⟩).run c.P w = .ok (.round L fn tmps assign body) w := by
  have h2 : (#[z].map a.eval) = #[β (upId 999995)] := by simp [hzv]
  simp only [execOp, resolve, hyv, yieldV, Sem.run_bind, Sem.run_pure, Result.andThen_ok]
  simp [Deferred.ofValue, invoke, h2, hyl]
 rw [hrun]
 refine ⟨fun hs => by simp [WF, Fence.wide] at hs, ?_⟩
 have hW : ∀ R, RoundIn Fence.wide (n - 1) c.P L fn tmps assign body w R → RoundIn (WF ρ) (n - 1) c.P L fn tmps assign body w R := fun R h => by
  cases ρ with
  | none => exact h
  | some l => exact h
 refine RoundIn.mono (hW _ hR) fun e w' he => ?_
 obtain ⟨σ', β', hs', hk⟩ := he
 have hag := again_re (c := c) (a := a) (τ := τ) hs' (fun _ _ h => h) hs.size hds
 rcases hk with ⟨rfl, hk⟩ | ⟨rfl, hk⟩
 ·exact hn _ _ ⟨_, _, hA σ' hk, hag.put hd (.a (x := .d (.v (.bool true))) (.v rfl))⟩
 ·exact hn _ _ ⟨_, _, hB σ' hk, hag.put hd (.a (x := .d (.v (.bool false))) (.v rfl))⟩
theorem yield_semF2 {P : Program} {gl : Nat → Option (List D)} {L : Nat} {T : Array Value} {dst : Option Tmp} {y z : Operand} {ts : Array TypeId} {ty : TypeId} {pos : String} {after : Array Edge} {g : Option (Nat × Bool)} {τ : S} {A' B' : S → Prop} {K : S → Prop}
  {vs : List Value} {rs2 : Nat → R} {L2 : Nat} {r2 : Loop} (hy : τ.eval gl y = .a (.d (.v (yieldV L)))) (hx : τ.eval gl z = .own (upId 999995)) (hf : fvOf (τ.mem 999999) = some T.toList) (h6 : τ.mem 999996 = some (.frame vs rs2)) (h7 : τ.mem 999997 = some (.sem (recOb L2 r2))) (hY : YieldF P gl L T τ.leave A' B')
  (hA : ∀ σ', A' σ' → K ((S.again2 T.toList vs rs2 L2 r2 τ σ').put dst (.a (.d (.v (.bool true)))))) (hB : ∀ σ', B' σ' → K ((S.again2 T.toList vs rs2 L2 r2 τ σ').put dst (.a (.d (.v (.bool false)))))) :
  SemOp P gl ⟨dst, .call ⟨.value y, #[z], ts⟩, ty, pos, after, g⟩ τ K := by
 intro c β a w hP hgl hs hd
 subst hP; subst hgl
 have hyv : a.eval y = yieldV L := (hy ▸ hs.eval y).inv_v
 obtain ⟨rs, hfr⟩ := fv_at hf
 obtain ⟨Ds, hds, hM⟩ := hs.df
 obtain ⟨hb7, hh7⟩ := hs.obj _ _ h7
 have ho7 : ownB (β 999997) = some L2 := by rw [hb7]; rfl
 have h6o := hs.obj _ _ h6
 let E' : (Nat → Prop) → World → Prop := fun st w => c.E st w ∧ (∀ t, RelR (fun _ => undef) st w (a.tmps.getD t undef) (τ.regs t).pur) ∧ ∀ t, RelR (fun _ => undef) st w (vs.getD t undef) (rs2 t).pur
 have hE' : ∀ {st st' : Nat → Prop} {w w' : World}, (∀ b, st b → st' b ∧ w'.heap[b]? = w.heap[b]?) → E' st w → E' st' w' := fun H h => ⟨c.hE H h.1, fun t => (h.2.1 t).mono H, fun t => (h.2.2 t).mono H⟩
 obtain ⟨hl, hst⟩ := leave_re (E := E') (hE := hE') hs hfr hM ⟨hs.ext, fun t => pur_rel (hs.reg t), fun t => pur_rel (h6o.2 t)⟩
 have hl2 : Sim (reL (reC c T.size [] (Ds ++ c.M) E' hE') (L2, r2)) τ.leave (fun o => β (upId o)) { tmps := T, defers := [] } w := hl.addL ((hs.blk 999997 _ L2 h7 ho7).resolve_right fun hx => absurd hx.2 (by omega)) hh7 fun o z hz e => by
  obtain ⟨_, y', hy', _⟩ := leave_at hz
  have := hs.dis _ _ _ _ L2 h7 hy' ho7 e
  have := upId_le o
  omega
 have hzv : a.eval z = β (upId 999995) := (hx ▸ hs.eval z).inv_own
 refine Run.of_wp (fun _ e => by cases e) fun ρ n next Q hn => ?_
 obtain ⟨fn, tmps, assign, body, hyl, hR⟩ := hY (reL (reC c T.size [] (Ds ++ c.M) E' hE') (L2, r2)) _ _ w (n - 1) rfl rfl rfl hl2
 have hrun : (execOp a.eval ⟨dst, .call ⟨.value y, #[z], ts⟩, ty, pos, after, g⟩).run c.P w = .ok (.round L fn tmps assign body) w := by
  have h2 : (#[z].map a.eval) = #[β (upId 999995)] := by simp [hzv]
  simp only [execOp, resolve, hyv, yieldV, Sem.run_bind, Sem.run_pure, Result.andThen_ok]
  simp [Deferred.ofValue, invoke, h2, hyl]
 rw [hrun]
 refine ⟨fun hs => by simp [WF, Fence.wide] at hs, ?_⟩
 have hW : ∀ R, RoundIn Fence.wide (n - 1) c.P L fn tmps assign body w R → RoundIn (WF ρ) (n - 1) c.P L fn tmps assign body w R := fun R h => by
  cases ρ with
  | none => exact h
  | some l => exact h
 refine RoundIn.mono (hW _ hR) fun e w' he => ?_
 obtain ⟨σ', β', hs', hk⟩ := he
 obtain ⟨hs1, g1, g2, g3⟩ := hs'.dropL
 have hag := again_re (c := c) (a := a) (τ := τ) hs1 (fun _ _ h => ⟨h.1, h.2.1⟩) hs.size hds
 have hfr' : ∀ t, RelR (fun _ => undef) (stF (reC c T.size [] (Ds ++ c.M) E' hE') σ' β' w') w' (vs.getD t undef) (rs2 t).pur := hs1.ext.2.2
 have at_ : ∀ o z, (S.again T.toList τ σ').mem o = some z → (o = 999999 ∧ z = .frame T.toList fun t => (σ'.regs t).up) ∨ ∃ o' y, o = upId o' ∧ σ'.mem o' = some y ∧ z = y.up := fun o z hz => enter_at (vs := T.toList) (rs := []) hz
 have hag1 := hag.claim (o := 999997) (L := L2) (r := r2) (by omega) g1 g2 (fun o z hz e => by
  rcases at_ o z hz with ⟨rfl, _⟩ | ⟨o', y, rfl, hy, _⟩
  ·simp [βIn, undef_own] at e
  ·rw [βIn_add] at e; exact g3 o' y hy e) fun y hy e => (hM.lp y hy).2.2 _ _ h7 (e ▸ ho7)
 have hst2 : ∀ b, stF (reC c T.size [] (Ds ++ c.M) E' hE') σ' β' w' b → stF c ((S.again T.toList τ σ').newOb 999997 (.sem (recOb L2 r2))) (upd (βIn β') 999997 (.pointer (some ⟨L2, 0, none⟩))) w' b ∧ w'.heap[b]? = w'.heap[b]? := fun b hb => ⟨⟨hb.1, hb.2.1, fun o z hz e => by
  by_cases eo : o = 999997
  ·subst eo
   simp only [upd, if_pos rfl] at e
   cases e; exact hb.2.2.2.2 _ g2
  ·simp only [S.newOb, upd, if_neg eo] at hz e
   obtain ⟨z', hz', _⟩ := Option.map_eq_some_iff.1 hz
   rcases at_ o z' hz' with ⟨rfl, _⟩ | ⟨o', y, rfl, hy, _⟩
   ·simp [βIn, undef_own] at e
   ·rw [βIn_add] at e; exact hb.2.2.1 o' y hy e, hb.2.2.2⟩, rfl⟩
 have hag2 := hag1.new (o := 999996) (x := .frame vs fun t => (rs2 t).pur) (bv := undef) (w' := w') (Keep.refl _ _) (fun b hb => by cases hb) ⟨rfl, fun t => by
  have h1 := pur_rel (β' := upd (upd (βIn β') 999997 (.pointer (some ⟨L2, 0, none⟩))) 999996 undef) (hfr' t)
  rw [pur_pur] at h1
  refine h1.mono fun b hb => ?_
  have h2 := hst2 b hb
  exact ⟨st_new (Nat.le_refl _) (fun _ _ => rfl) (fun b hb => by cases hb) h2.1, rfl⟩⟩
 rcases hk with ⟨rfl, hk⟩ | ⟨rfl, hk⟩
 ·exact hn _ _ ⟨_, _, hA σ' hk, hag2.put hd (.a (x := .d (.v (.bool true))) (.v rfl))⟩
 ·exact hn _ _ ⟨_, _, hB σ' hk, hag2.put hd (.a (x := .d (.v (.bool false))) (.v rfl))⟩
end Go.VC
end
section
set_option maxRecDepth 100000
namespace Go.VC
open Go.RowKit Go.Proofs
def ties (base : Nat) (vals : List Value) : SemOb where
 os := (List.range vals.length).map (base + ·)
 p := fun β _ _ bv => ownB bv = none ∧ ∀ (i : Nat) (v : Value), vals[i]? = some v → β (base + i) = v
 lt := fun h b hb => by rw [h.1] at hb; cases hb
 mono := fun _ h _ => h
 dep := fun h k => ⟨k.1, fun i v hv => (h _ (List.mem_map.2 ⟨i, List.mem_range.2 (List.getElem?_eq_some_iff.1 hv).1, rfl⟩)).trans (k.2 i v hv)⟩
theorem ties_os {base o : Nat} {vals : List Value} (h : o ∈ (ties base vals).os) : base ≤ o ∧ o < base + vals.length := by
 obtain ⟨i, hi, rfl⟩ := List.mem_map.1 h
 have := List.mem_range.1 hi
 omega
theorem ties_any {base o : Nat} {vals : List Value} (h : decide (o < base) = true) : ((ties base vals).os.any fun o' => o' == o) = false := by
 rw [List.any_eq_false]
 intro x hx
 have := of_decide_eq_true h
 have := ties_os hx
 simp; omega
theorem k_ties {base o : Nat} {vals : List Value} (h : decide (o < base) = true) : Ob.kill o (.sem (ties base vals)) = .sem (ties base vals) := by
 simp only [Ob.kill]; rw [ties_any h]; rfl
theorem k_tie1 {v : Value} {o : Nat} (h : (o == 999995) = false) : Ob.kill o (.sem (ties 999995 [v])) = .sem (ties 999995 [v]) := by
 have : ((ties 999995 [v]).os.any fun o' => o' == o) = false := by
  simp [ties]; intro e; subst e; simp at h
 simp only [Ob.kill]; rw [this]; rfl
theorem fineO_ties {vals : List Value} (h : vals.length ≤ 80000) : FineO 999995 (.sem (ties 710000 vals)) := fineO_sem fun hq => by have := ties_os hq; omega
theorem g_ties0 {σ : S} {o base : Nat} : Ghost σ (σ.newOb o (.sem (ties base []))) := fun c β a w hs =>
 ⟨_, hs.new (o := o) (x := .sem (ties base [])) (bv := undef) (w' := w) (Keep.refl _ _) (fun b hb => by cases hb) ⟨rfl, fun i v h => by simp at h⟩⟩
theorem awpE_tie {P : Program} {gl : Nat → Option (List D)} {code : Code} {Q : Ex → S → Prop} {σ : S} {p : Tmp} {e : TypeId} {sz : Nat} {x : List (List D)} (hp : σ.regs p = .own 999995) (hlog : σ.mem 999995 = some (.log e sz x))
  (h : ∀ v, awp P gl code Q (S.newOb { σ with regs := upd σ.regs p (.a (.d (.v v))) } 999994 (.sem (ties 999995 [v])))) : AwpE P gl code Q σ := fun c β a w hs => by
 have hv := hs.reg p
 rw [hp] at hv
 have h1 := log_one (hs.obj _ _ hlog)
 have hs1 := hs.reg_set p (r := .a (.d (.v (β 999995)))) (by rw [hv.inv_own]; exact .a (x := .d (.v (β 999995))) (.v h1))
 exact ⟨_, _, hs1.new (o := 999994) (x := .sem (ties 999995 [β 999995])) (bv := undef) (w' := w) (Keep.refl _ _) (fun b hb => by cases hb) ⟨rfl, fun i v hi => by
  cases i with
  | zero => simp at hi; subst hi; simp [upd]
  | succ i => simp at hi⟩, h _⟩
theorem awpE_nil {P : Program} {gl : Nat → Option (List D)} {code : Code} {Q : Ex → S → Prop} {σ : S} {p : Tmp} {d : Nat} {e : TypeId} (hp : σ.regs p = .cs []) (h : awp P gl code Q ((σ.newOb d (.log e 1 [])).put (some p) (.own d))) : AwpE P gl code Q σ := fun c β a w hs => by
 have hv := hs.reg p
 rw [hp] at hv
 obtain ⟨q, n, hq, hr⟩ := hv.inv_cs
 have hn : n = 0 := by
  generalize hvv : Value.slice q n n = u at hr
  cases hr with
  | nil => cases hvv; rfl
  | sl _ _ hn _ _ _ _ _ => cases hvv; simpa using hn
 subst hn
 have hs1 := hs.new (o := d) (x := .log e 1 []) (bv := .slice q 0 0) (w' := w) (Keep.refl _ _) (fun b hb => by cases q <;> cases hb) ⟨[], .inr ⟨rfl, rfl, q, rfl⟩, F2.nil, by simp⟩
 refine ⟨_, _, hs1.reg_set p (r := .own d) ?_, h⟩
 rw [hq]
 exact .own (by simp [upd]) rfl
theorem g_take {σ : S} {v : Value} {vals : List Value} {e : TypeId} {sz : Nat} {x : List (List D)} (hn : vals.length < 80000) (h5 : σ.mem 999995 = some (.log e sz x)) (h4 : σ.mem 999994 = some (.sem (ties 999995 [v]))) (h1 : σ.mem 700001 = some (.sem (ties 710000 vals))) :
  Ghost σ ((σ.mv 999995 (710000 + vals.length)).setOb 700001 (.sem (ties 710000 (vals ++ [v])))) := fun c β a w hs => by
 have hv : β 999995 = v := (hs.obj _ _ h4).2 0 v rfl
 obtain ⟨hb, hvs⟩ := hs.obj _ _ h1
 have hs1 := hs.mv (a := 999995) (b := 710000 + vals.length) (by omega) (by omega)
 have hm : (σ.mv 999995 (710000 + vals.length)).mem 700001 = some (Ob.mv 999995 (710000 + vals.length) (.sem (ties 710000 vals))) := by rw [mv_mo (by simp; omega) rfl, h1]; rfl
 refine ⟨_, hs1.tell hm fun st hst => ⟨?_, fun i u hu => ?_⟩⟩
 ·rw [show upd β (710000 + vals.length) (β 999995) 700001 = β 700001 by simp only [upd]; rw [if_neg (by omega)]]; exact hb
 ·rw [List.getElem?_append] at hu
  by_cases hi : i < vals.length
  ·rw [if_pos hi] at hu
   simp only [upd]; rw [if_neg (by omega)]; exact hvs i u hu
  ·rw [if_neg hi] at hu
   have : i - vals.length = 0 := by
    rcases Nat.eq_zero_or_pos (i - vals.length) with h | h
    ·exact h
    ·rw [List.getElem?_eq_none (by simp only [List.length_singleton]; omega)] at hu; cases hu
   rw [this] at hu
   obtain rfl : v = u := by simpa using hu
   rw [show 710000 + i = 710000 + vals.length by omega]
   simp only [upd]; rw [if_pos trivial]; exact hv
theorem Sim.rest_in {c : Cx} {σ : S} {β : Nat → Value} {a : Act} {w : World} {n q j : Nat} {v : Value} {e0 e1 : TypeId} {row xs : List (List D)} {z : Nat} (hq : q < 1000000000) (hqn : q ≠ n) (hr : σ.mem q = some (.log e1 z row)) (hn : σ.mem n = some (.log e0 1 xs)) (hx : xs[j]? = some [.v v]) (hv : β q = v) (hs : Sim c σ β a w) :
  Sim c ((σ.frz q fun _ => .sl row).setOb n (.log e0 1 (xs.set j [.sl row]))) β a w := by
 obtain ⟨cells, hr', hf, hall⟩ := hs.obj _ _ hr
 have hx' : ∀ st, (∀ b, stF c σ β w b → st b) → (∀ b, ownB (β q) = some b → st b) → Rd st w (β q) (.sl row) := fun st h1 h2 => row_rd hr' hf hall h1 h2
 have hz := hs.frz (f := fun _ => .sl row) hr (fun st h1 h2 => .inl (hx' st h1 h2)) (fun st h1 h2 off b hb => by
  rw [hb] at hr'
  rcases hr' with hr' | ⟨_, _, p, hp⟩
  ·rcases hr'.2 with ⟨hp, _⟩ | ⟨_, _, _, hp, _⟩ <;> cases hp
  ·cases hp) hq (fun b' hb' => hr'.nd hb')
 have hm : (σ.frz q fun _ => .sl row).mem n = some (.log e0 1 xs) := by
  simp only [S.frz]; rw [if_neg (Ne.symm hqn), hn]; rfl
 refine hz.1.tell hm fun st hst => ?_
 obtain ⟨cs, hcr, hcf, hca⟩ := hz.1.obj _ _ hm
 have hl := (List.getElem?_eq_some_iff.1 hx).1
 have hone : ∀ l : List (List D), (∀ x ∈ l, x.length = 1) → ∀ (k : Nat) (d : D), l.flatten[k]? = some d ↔ l[k]? = some [d] := by
  intro l
  induction l with
  | nil => simp
  | cons y l ih =>
   intro hy k d
   obtain ⟨u, rfl⟩ : ∃ u, y = [u] := List.length_eq_one_iff.1 (hy y (List.mem_cons_self ..))
   cases k with
   | zero => simp
   | succ k => simpa using ih (fun x hx => hy x (List.mem_cons_of_mem _ hx)) k d
 have hall2 : ∀ x ∈ xs.set j [.sl row], x.length = 1 := fun x hx => by
  rcases List.mem_or_eq_of_mem_set hx with h | rfl
  ·exact hca x h
  ·rfl
 have hfl : ∀ l : List (List D), (∀ x ∈ l, x.length = 1) → l.flatten.length = l.length := by
  intro l
  induction l with
  | nil => simp
  | cons y l ih =>
   intro hy
   have := hy y (List.mem_cons_self ..)
   have := ih fun x hx => hy x (List.mem_cons_of_mem _ hx)
   simp_all
   omega
 refine ⟨cs, by rw [List.length_set]; exact hcr, ⟨?_, fun k u d hu hd => ?_⟩, hall2⟩
 ·rw [hfl _ hall2, List.length_set, ← hfl _ hca]; exact hcf.1
 ·rw [hone _ hall2, List.getElem?_set] at hd
  by_cases e : j = k
  ·subst e
   rw [if_pos rfl, if_pos hl] at hd
   obtain rfl : D.sl row = d := by simpa using hd
   have h1 := hcf.2 j u (.v v) hu ((hone _ hca _ _).2 hx)
   obtain rfl : u = v := by cases h1 with | v h => rfl
   rw [← hv]
   exact (hx' _ hz.2.1 hz.2.2).mono fun b hb => ⟨hst b hb, rfl⟩
  ·rw [if_neg e] at hd
   exact (hcf.2 k u d hu ((hone _ hca _ _).2 hd)).mono fun b hb => ⟨hst b hb, rfl⟩
theorem tie_at {σ : S} {vals : List Value} {i : Nat} {v : Value} (h1 : σ.mem 700001 = some (.sem (ties 710000 vals))) (hv : vals[i]? = some v) (c : Cx) (β : Nat → Value) (a : Act) (w : World) (hs : Sim c σ β a w) : β (710000 + i) = v := (hs.obj _ _ h1).2 i v hv
theorem sem_tie_load {P : Program} {gl : Nat → Option (List D)} {σ : S} {K : S → Prop} {dst : Option Tmp} {ty : TypeId} {pos : String} {after : Array Edge} {g : Option (Nat × Bool)} {t : TypeId} {x : Operand} {i : Nat} {v : Value} {vals : List Value} {e1 : TypeId} {row : List (List D)}
  (hl : loadR P σ t (σ.eval gl x) = some (.a (.d (.v v)))) (h1 : σ.mem 700001 = some (.sem (ties 710000 vals))) (hv : vals[i]? = some v) (hr : σ.mem (710000 + i) = some (.log e1 1 row)) (hk : K (σ.put dst (.own (710000 + i)))) :
  SemOp P gl ⟨dst, .load t x, ty, pos, after, g⟩ σ K := fun c β a w hP hgl hs hd => by
 subst hP; subst hgl
 obtain ⟨u, hrun, hrel⟩ := load_run hs hl
 obtain rfl : u = v := hrel.inv_v
 have hb := tie_at h1 hv c β a w hs
 exact Run.val (v := u) (w' := w) (fun _ e => by cases e) (by simp [execOp, hrun]) ⟨_, β, hk, hs.put hd (.own hb (hb ▸ log_one (hs.obj _ _ hr)))⟩
def restN (σ : S) (e0 : TypeId) (vals : List Value) (rows : List (List Int)) : Nat → S
 | 0 => σ
 | k + 1 => ((restN σ e0 vals rows k).frz (710000 + k) fun _ => .sl ((rows.getD k []).map ienc)).setOb 700000 (.log e0 1 ((List.range vals.length).map fun i => if i < k + 1 then [.sl ((rows.getD i []).map ienc)] else [.v (vals.getD i undef)]))
theorem g_rests {σ : S} {e0 e1 : TypeId} {vals : List Value} {rows : List (List Int)} (hl : vals.length = rows.length) (hlen : rows.length ≤ 80000) (h0 : σ.mem 700000 = some (.log e0 1 (vals.map fun v => [.v v]))) (h1 : σ.mem 700001 = some (.sem (ties 710000 vals)))
  (hr : ∀ i r, rows[i]? = some r → σ.mem (710000 + i) = some (.log e1 1 (r.map ienc))) : Ghost σ (restN σ e0 vals rows rows.length) ∧ (restN σ e0 vals rows rows.length).mem 700000 = some (.log e0 1 (rows.map fun r => [.sl (r.map ienc)])) := by
 have e0' : vals.map (fun v => [D.v v]) = (List.range vals.length).map fun i => if i < 0 then [.sl ((rows.getD i []).map ienc)] else [.v (vals.getD i undef)] := by
  refine List.ext_getElem? fun i => ?_
  by_cases hi : i < vals.length
  ·simp [hi]
  ·rw [List.getElem?_eq_none (by simpa using hi), List.getElem?_eq_none (by simpa using hi)]
 have en : ((List.range vals.length).map fun i => if i < rows.length then [D.sl ((rows.getD i []).map ienc)] else [.v (vals.getD i undef)]) = rows.map fun r => [.sl (r.map ienc)] := by
  refine List.ext_getElem? fun i => ?_
  by_cases hi : i < rows.length
  ·simp [hi, hl]
  ·rw [List.getElem?_eq_none (by simp; omega), List.getElem?_eq_none (by simpa using hi)]
 have hset : ∀ k, k < vals.length → ((List.range vals.length).map fun i => if i < k then [D.sl ((rows.getD i []).map ienc)] else [.v (vals.getD i undef)]).set k [.sl ((rows.getD k []).map ienc)] = (List.range vals.length).map fun i => if i < k + 1 then [D.sl ((rows.getD i []).map ienc)] else [.v (vals.getD i undef)] := fun k hk => by
  refine List.ext_getElem? fun i => ?_
  rw [List.getElem?_set]
  by_cases e : k = i
  ·subst e; simp [hk]
  ·rw [if_neg e]
   by_cases hi : i < vals.length
   ·by_cases hik : i < k
    ·simp [hi, hik, show i < k + 1 by omega]
    ·simp [hi, hik, show ¬ i < k + 1 by omega]
   ·rw [List.getElem?_eq_none (by simpa using hi), List.getElem?_eq_none (by simpa using hi)]
 have mem : ∀ k, k ≤ rows.length → (restN σ e0 vals rows k).mem 700000 = some (.log e0 1 ((List.range vals.length).map fun i => if i < k then [.sl ((rows.getD i []).map ienc)] else [.v (vals.getD i undef)])) ∧ ∀ i r, k ≤ i → rows[i]? = some r → (restN σ e0 vals rows k).mem (710000 + i) = some (.log e1 1 (r.map ienc)) := by
  intro k
  induction k with
  | zero => exact fun _ => ⟨by rw [← e0']; exact h0, fun i r _ h => hr i r h⟩
  | succ k ih =>
   intro hk
   obtain ⟨i1, i2⟩ := ih (by omega)
   refine ⟨by simp [restN, S.setOb, upd], fun i r hi h => ?_⟩
   simp only [restN, S.setOb, upd, S.frz]
   rw [if_neg (by omega), if_neg (by omega), i2 i r (by omega) h]; rfl
 refine ⟨fun c β a w hs => ⟨β, ?_⟩, by rw [(mem _ (Nat.le_refl _)).1, en]⟩
 have hb : ∀ i v, vals[i]? = some v → β (710000 + i) = v := (hs.obj _ _ h1).2
 have : ∀ k, k ≤ rows.length → Sim c (restN σ e0 vals rows k) β a w := by
  intro k
  induction k with
  | zero => exact fun _ => hs
  | succ k ih =>
   intro hk
   obtain ⟨i1, i2⟩ := mem k (by omega)
   have hkr : rows[k]? = some (rows.getD k []) := by rw [List.getD_eq_getElem?_getD, List.getElem?_eq_getElem (by omega)]; rfl
   have hkv : vals[k]? = some (vals.getD k undef) := by rw [List.getD_eq_getElem?_getD, List.getElem?_eq_getElem (by omega)]; rfl
   have := Sim.rest_in (n := 700000) (q := 710000 + k) (j := k) (v := vals.getD k undef) (e0 := e0) (e1 := e1) (z := 1) (by omega) (by omega) (i2 k _ (Nat.le_refl _) hkr) i1 (by rw [List.getElem?_map, List.getElem?_range (by omega), Option.map_some, if_neg (Nat.lt_irrefl k)]) (hb k _ hkv) (ih (by omega))
   rw [hset k (by omega)] at this
   exact this
 exact this _ (Nat.le_refl _)
theorem restN_r {σ : S} {e0 : TypeId} {vals : List Value} {rows : List (List Int)} {t : Nat} {r : R} (h : σ.regs t = r) (hf : ∀ q f, 710000 ≤ q → r.frz q f = r) : ∀ k, (restN σ e0 vals rows k).regs t = r
 | 0 => h
 | k + 1 => by
  show ((restN σ e0 vals rows k).regs t).frz (710000 + k) (fun _ => .sl ((rows.getD k []).map ienc)) = r
  rw [restN_r h hf k]; exact hf _ _ (by omega)
theorem restN_m {σ : S} {e0 : TypeId} {vals : List Value} {rows : List (List Int)} {o : Nat} {x : Ob} (ho : o < 700000) (h : σ.mem o = some x) (hf : ∀ q f, 710000 ≤ q → x.frz q f = x) : ∀ k, (restN σ e0 vals rows k).mem o = some x
 | 0 => h
 | k + 1 => by
  simp only [restN, S.setOb, upd, S.frz]
  rw [if_neg (by omega), if_neg (by omega), restN_m ho h hf k, Option.map_some, hf _ _ (by omega)]
theorem frz_own7 {q : Nat} {f : Nat → D} (h : 710000 ≤ q) : R.frz q f (.own 700000) = .own 700000 := by simp only [R.frz]; rw [if_neg (by omega)]
def inR (o : Nat) : Bool := decide (700000 ≤ o) && decide (o < 800000)
open Classical in
noncomputable def R.killP (p : Nat → Bool) (r : R) : R := if ∃ o, p o = true ∧ r.says o = true then .any else r
noncomputable def Ob.killP (p : Nat → Bool) : Ob → Ob
 | .box cs => .box (cs.map (R.killP p))
 | .frame vs rs => .frame vs fun t => (rs t).killP p
 | .sem x => if x.os.any p then .lost else .sem x
 | x => x
section
variable {p : Nat → Bool}
theorem R.killP_of {r : R} (h : ∀ o, p o = true → r.says o = false) : r.killP p = r := by
 unfold R.killP
 rw [if_neg]
 rintro ⟨o, h1, h2⟩
 rw [h o h1] at h2; cases h2
theorem RelR.turnP {β β' : Nat → Value} {st : Nat → Prop} {w : World} (H : ∀ o', p o' = false → β' o' = β o') {v : Value} {r : R} (h : RelR β st w v r) : RelR β' st w v (r.killP p) := by
 have H' : ∀ {o : Nat}, ¬ p o = true → β' o = β o := fun ho => H _ (by simpa using ho)
 have flat : ∀ {v : Value} {r : R}, RelR β st w v r → (∀ o, p o = true → r.says0 o = false) → (∀ xs, r ≠ .tp xs) → (∀ xs, r ≠ .agr xs) → RelR β' st w v r := by
  intro v r h k n1 n2
  cases h with
  | any => exact .any
  | a h => exact .a h
  | cs h => exact .cs h
  | @ref o _ _ h => exact .ref ((H' fun hp => by simpa [R.says0] using k o hp).trans h)
  | @eref o _ _ _ _ _ _ h => exact .eref ((H' fun hp => by simpa [R.says0] using k o hp).trans h)
  | @own o _ h h1 => exact .own ((H' fun hp => by simpa [R.says0] using k o hp).trans h) h1
  | @omp o _ h h1 => exact .omp ((H' fun hp => by simpa [R.says0] using k o hp).trans h) h1
  | clo h =>
   refine .clo ⟨h.1, fun i v c hv hc => ?_⟩
   obtain ⟨b, hb, e⟩ := h.2 i v c hv hc
   refine ⟨b, (H' fun hp => ?_).trans hb, e⟩
   have := k c.1 hp
   simp only [R.says0, List.any_eq_false, beq_iff_eq] at this
   exact this c (List.mem_of_getElem? hc) rfl
  | tp hl hd => exact absurd rfl (n1 _)
  | agr hl h1 hd => exact absurd rfl (n2 _)
  | @sem os q v h hp =>
   have e : ∀ o' ∈ os, β' o' = β o' := fun o' ho' => H' fun hq => by
    have := k o' hq
    simp only [R.says0, List.any_eq_false, beq_iff_eq] at this
    exact this o' ho' rfl
   exact .sem (hp _ e) fun β2 h2 => hp β2 fun o' ho' => (h2 o' ho').trans (e o' ho')
 unfold R.killP
 split
 ·exact .any
 ·rename_i hk
  have hk' : ∀ o, p o = true → r.says o = false := fun o ho => by
   cases h : r.says o with
   | false => rfl
   | true => exact absurd ⟨o, ho, h⟩ hk
  have inner : ∀ (xs : List R), (∀ o, p o = true → (xs.any (R.says0 o)) = false) → (∀ r ∈ xs, (∃ o, p o = true) → (∀ ys, r ≠ .tp ys) ∧ ∀ ys, r ≠ .agr ys) := fun xs h r hr ⟨o, ho⟩ => by
   have := h o ho
   rw [List.any_eq_false] at this
   have := this r hr
   constructor <;> (intro ys e; subst e; simp [R.says0] at this)
  by_cases hex : ∃ o, p o = true
  ·cases h with
   | tp hl hd =>
    refine .tp hl fun j v r hv hr => flat (hd j v r hv hr) (fun o ho => ?_) (inner _ hk' r (List.mem_of_getElem? hr) hex).1 (inner _ hk' r (List.mem_of_getElem? hr) hex).2
    have := hk' o ho
    simp only [R.says, List.any_eq_false] at this
    simpa using this r (List.mem_of_getElem? hr)
   | agr hl h1 hd =>
    refine .agr hl h1 fun j v r hv hr => flat (hd j v r hv hr) (fun o ho => ?_) (inner _ hk' r (List.mem_of_getElem? hr) hex).1 (inner _ hk' r (List.mem_of_getElem? hr) hex).2
    have := hk' o ho
    simp only [R.says, List.any_eq_false] at this
    simpa using this r (List.mem_of_getElem? hr)
   | any => exact .any
   | a h => exact .a h
   | cs h => exact .cs h
   | ref h => exact flat (.ref h) hk' (fun _ e => by cases e) (fun _ e => by cases e)
   | eref h => exact flat (.eref h) hk' (fun _ e => by cases e) (fun _ e => by cases e)
   | own h h1 => exact flat (.own h h1) hk' (fun _ e => by cases e) (fun _ e => by cases e)
   | omp h h1 => exact flat (.omp h h1) hk' (fun _ e => by cases e) (fun _ e => by cases e)
   | clo h => exact flat (.clo h) hk' (fun _ e => by cases e) (fun _ e => by cases e)
   | sem h hp => exact flat (.sem h hp) hk' (fun _ e => by cases e) (fun _ e => by cases e)
  ·have e : β' = β := funext fun o => H o (by
    cases h : p o with
    | false => rfl
    | true => exact absurd ⟨o, h⟩ hex)
   rw [e]; exact h
theorem ObRel.turnP {β β' : Nat → Value} {st : Nat → Prop} {w : World} (H : ∀ o', p o' = false → β' o' = β o') {bv : Value} {x : Ob} (h : ObRel β st w bv x) : ObRel β' st w bv (x.killP p) := by
 cases x with
 | box cs =>
  obtain ⟨b, arr, e, rfl, hb, hr⟩ := h
  refine ⟨b, arr, e, rfl, hb, by simp [hr.1], fun i v r hv hr' => ?_⟩
  simp only [List.getElem?_map, Option.map_eq_some_iff] at hr'
  obtain ⟨r0, h0, rfl⟩ := hr'
  exact ⟨(hr.2 i v r0 hv h0).1, (hr.2 i v r0 hv h0).2.turnP H⟩
 | log e sz xs => exact h
 | mpo kv => exact h
 | iter kv seen => exact h
 | frame vs rs => exact ⟨h.1, fun t => (h.2 t).turnP H⟩
 | sem x =>
  simp only [Ob.killP]
  split
  ·exact fun b hb => x.lt h b hb
  ·rename_i hk
   simp only [Bool.not_eq_true, List.any_eq_false] at hk
   exact x.dep (fun o' ho' => H o' (by simpa using hk o' ho')) h
 | lost => exact h
end
noncomputable def S.bring (σ : S) (e0 e1 : TypeId) (vals : List Value) (rows : List (List Int)) : S where
 regs := fun t => (σ.regs t).killP inR
 mem := fun o => if inR o = true then (if o = 700000 then some (.log e0 1 (vals.map fun v => [.v v])) else if o = 700001 then some (.sem (ties 710000 vals)) else if 710000 ≤ o then (rows[o - 710000]?).map fun r => .log e1 1 (r.map ienc) else none) else (σ.mem o).map (Ob.killP inR)
section
variable {c : Cx} {σ : S} {β : Nat → Value} {a : Act} {w : World}
theorem Sim.bring {w' : World} {e0 e1 : TypeId} {v0 : Value} {vals : List Value} {rows : List (List Int)} (hs : Sim c σ β a w) (k : Keep (fun _ => False) w w') (hl : vals.length = rows.length) (hlen : rows.length ≤ 80000)
  (h0 : ObRel (fun _ => undef) (fun _ => False) w' v0 (.log e0 1 (vals.map fun v => [.v v]))) (hr : ∀ (i : Nat) (v : Value) (r : List Int), vals[i]? = some v → rows[i]? = some r → ObRel (fun _ => undef) (fun _ => False) w' v (.log e1 1 (r.map ienc)))
  (n0 : ∀ b, ownB v0 = some b → w.heap.size ≤ b) (nv : ∀ v ∈ vals, ∀ b, ownB v = some b → w.heap.size ≤ b) (d0 : ∀ v ∈ vals, ∀ b, ownB v0 = some b → ownB v ≠ some b)
  (dv : ∀ (i j : Nat) (v v' : Value) (b : Nat), vals[i]? = some v → vals[j]? = some v' → ownB v = some b → ownB v' = some b → i = j) : ∃ β', Sim c (σ.bring e0 e1 vals rows) β' a w' ∧ β' 700000 = v0 := by
 let β' : Nat → Value := fun o => if inR o = true then (if o = 700000 then v0 else if 710000 ≤ o then vals.getD (o - 710000) undef else undef) else β o
 have T : ∀ o', inR o' = false → β' o' = β o' := fun o' e => by simp [β', e]
 have b0 : β' 700000 = v0 := by simp [β', inR]
 have b1 : β' 700001 = undef := by simp [β', inR]
 have bi : ∀ (i : Nat) (v : Value), vals[i]? = some v → β' (710000 + i) = v := fun i v hv => by
  have := (List.getElem?_eq_some_iff.1 hv).1
  have hin : inR (710000 + i) = true := by simp [inR]; omega
  simp only [β', hin, if_true]
  rw [if_neg (by omega), if_pos (by omega), Nat.add_sub_cancel_left, List.getD_eq_getElem?_getD, hv]; rfl
 have at_ : ∀ o x, (σ.bring e0 e1 vals rows).mem o = some x → (o = 700000 ∧ x = .log e0 1 (vals.map fun v => [.v v])) ∨ (o = 700001 ∧ x = .sem (ties 710000 vals)) ∨ (∃ i v r, o = 710000 + i ∧ vals[i]? = some v ∧ rows[i]? = some r ∧ x = .log e1 1 (r.map ienc)) ∨ (inR o = false ∧ ∃ z, σ.mem o = some z ∧ x = z.killP inR) := fun o x hx => by
  simp only [S.bring] at hx
  by_cases hin : inR o = true
  ·rw [if_pos hin] at hx
   by_cases e : o = 700000
   ·rw [if_pos e] at hx; cases hx; exact .inl ⟨e, rfl⟩
   ·rw [if_neg e] at hx
    by_cases e1 : o = 700001
    ·rw [if_pos e1] at hx; cases hx; exact .inr (.inl ⟨e1, rfl⟩)
    ·rw [if_neg e1] at hx
     split at hx
     ·obtain ⟨r, hr, rfl⟩ := Option.map_eq_some_iff.1 hx
      have := (List.getElem?_eq_some_iff.1 hr).1
      exact .inr (.inr (.inl ⟨o - 710000, vals[o - 710000]'(by omega), r, by omega, List.getElem?_eq_getElem _, hr, rfl⟩))
     ·cases hx
  ·rw [if_neg hin] at hx
   obtain ⟨z, hz, rfl⟩ := Option.map_eq_some_iff.1 hx
   exact .inr (.inr (.inr ⟨by simpa using hin, z, hz, rfl⟩))
 have own : ∀ o x b, (σ.bring e0 e1 vals rows).mem o = some x → ownB (β' o) = some b → (o = 700000 ∧ ownB v0 = some b) ∨ (∃ i v, o = 710000 + i ∧ vals[i]? = some v ∧ ownB v = some b) ∨ (inR o = false ∧ ∃ z, σ.mem o = some z ∧ ownB (β o) = some b) := fun o x b hx hb => by
  rcases at_ o x hx with ⟨rfl, _⟩ | ⟨rfl, _⟩ | ⟨i, v, r, rfl, hv, _, _⟩ | ⟨hin, z, hz, _⟩
  ·rw [b0] at hb; exact .inl ⟨rfl, hb⟩
  ·rw [b1, undef_own] at hb; cases hb
  ·rw [bi i v hv] at hb; exact .inr (.inl ⟨i, v, rfl, hv, hb⟩)
  ·rw [T o hin] at hb; exact .inr (.inr ⟨hin, z, hz, hb⟩)
 have new : ∀ o x b, (σ.bring e0 e1 vals rows).mem o = some x → ownB (β' o) = some b → w.heap.size ≤ b ∨ (inR o = false ∧ ∃ z, σ.mem o = some z ∧ ownB (β o) = some b) := fun o x b hx hb => by
  rcases own o x b hx hb with ⟨_, h⟩ | ⟨i, v, _, hv, h⟩ | h
  ·exact .inl (n0 b h)
  ·exact .inl (nv v (List.mem_of_getElem? hv) b h)
  ·exact .inr h
 have H : ∀ b, stF c σ β w b → stF c (σ.bring e0 e1 vals rows) β' w' b ∧ w'.heap[b]? = w.heap[b]? := fun b hb => by
  have hk := k.block b hb.1 id
  refine ⟨⟨Nat.lt_of_lt_of_le hb.1 k.size, hb.2.1, fun o x hx e => ?_, hb.2.2.2.same hk⟩, hk⟩
  rcases new o x b hx e with h | ⟨_, z, hz, h⟩
  ·exact absurd hb.1 (Nat.not_lt.2 h)
  ·exact hb.2.2.1 o z hz h
 obtain ⟨Ds, e, m⟩ := hs.df
 have m' := m.keep (w' := w') (σ' := σ.bring e0 e1 vals rows) (β' := β') (fun D hD _ => k.block D hD id) fun o x hx => by
  rcases at_ o x hx with ⟨rfl, _⟩ | ⟨rfl, _⟩ | ⟨i, v, r, rfl, hv, _, _⟩ | ⟨hin, z, hz, _⟩
  ·exact .inr fun b hb => .inl (by rw [b0] at hb; exact n0 b hb)
  ·exact .inr fun b hb => by rw [b1, undef_own] at hb; cases hb
  ·exact .inr fun b hb => .inl (by rw [bi i v hv] at hb; exact nv v (List.mem_of_getElem? hv) b hb)
  ·exact .inl ⟨o, z, hz, T o hin⟩
 refine ⟨β', ⟨hs.keep.trans k fun j hX _ => hX.elim, hs.size, ⟨Ds, e, m'⟩, c.hE H hs.ext, fun o x hx => ?_, fun o x b hx hb => ?_, fun o o' x x' b hx hx' hb hb' => ?_, fun t => ((hs.reg t).mono H).turnP T, hs.env.mono H⟩, b0⟩
 ·rcases at_ o x hx with ⟨rfl, rfl⟩ | ⟨rfl, rfl⟩ | ⟨i, v, r, rfl, hv, hr', rfl⟩ | ⟨hin, z, hz, rfl⟩
  ·rw [b0]; exact ObRel.mono (fun b hb => hb.elim) h0 fun _ _ => rfl
  ·rw [b1]; exact ⟨rfl, bi⟩
  ·rw [bi i v hv]; exact ObRel.mono (fun b hb => hb.elim) (hr i v r hv hr') fun _ _ => rfl
  ·rw [T o hin]
   exact ((hs.obj o z hz).mono H fun b hb => k.block b ((hs.obj o z hz).lt hb) id).turnP T
 ·rcases new o x b hx hb with h | ⟨_, z, hz, h⟩
  ·exact .inl (Nat.le_trans hs.keep.size h)
  ·exact hs.blk o z b hz h
 ·have old : ∀ o z, σ.mem o = some z → ownB (β o) = some b → ¬ w.heap.size ≤ b := fun o z hz h => Nat.not_le.2 ((hs.obj o z hz).lt h)
  rcases own o x b hx hb with ⟨rfl, h⟩ | ⟨i, v, rfl, hv, h⟩ | ⟨_, z, hz, h⟩ <;> rcases own o' x' b hx' hb' with ⟨rfl, h'⟩ | ⟨i', v', rfl, hv', h'⟩ | ⟨_, z', hz', h'⟩
  ·rfl
  ·exact absurd h' (d0 v' (List.mem_of_getElem? hv') b h)
  ·exact absurd (n0 b h) (old _ _ hz' h')
  ·exact absurd h (d0 v (List.mem_of_getElem? hv) b h')
  ·rw [dv i i' v v' b hv hv' h h']
  ·exact absurd (nv v (List.mem_of_getElem? hv) b h) (old _ _ hz' h')
  ·exact absurd (n0 b h') (old _ _ hz h)
  ·exact absurd (nv v' (List.mem_of_getElem? hv') b h') (old _ _ hz h)
  ·exact hs.dis o o' z z' b hz hz' h h'
end
section
variable {σ : S} {e0 e1 : TypeId} {vals : List Value} {rows : List (List Int)} {t o f i : Nat}
theorem br_r : (σ.bring e0 e1 vals rows).regs t = (σ.regs t).killP inR := rfl
theorem br_0 : (σ.bring e0 e1 vals rows).mem 700000 = some (.log e0 1 (vals.map fun v => [.v v])) := by simp [S.bring, inR]
theorem br_1 : (σ.bring e0 e1 vals rows).mem 700001 = some (.sem (ties 710000 vals)) := by simp [S.bring, inR]
theorem br_i {r : List Int} (hl : rows.length ≤ 80000) (h : rows[i]? = some r) : (σ.bring e0 e1 vals rows).mem (710000 + i) = some (.log e1 1 (r.map ienc)) := by
 have := (List.getElem?_eq_some_iff.1 h).1
 have hin : inR (710000 + i) = true := by simp [inR]; omega
 simp only [S.bring, hin, if_true]
 rw [if_neg (by omega), if_neg (by omega), if_pos (by omega), Nat.add_sub_cancel_left, h]; rfl
theorem br_m (h : inR o = false) : (σ.bring e0 e1 vals rows).mem o = (σ.mem o).map (Ob.killP inR) := by simp [S.bring, h]
theorem kp_a {x : A} : R.killP inR (.a x) = .a x := R.killP_of fun _ _ => rfl
theorem kp_cs {x : List (List D)} : R.killP inR (.cs x) = .cs x := R.killP_of fun _ _ => rfl
theorem kp_any : R.killP inR .any = .any := R.killP_of fun _ _ => rfl
theorem kp_own (h : inR o = false) : R.killP inR (.own o) = .own o := R.killP_of fun q hq => by
 simp only [R.says, R.says0, beq_eq_false_iff_ne]; intro e; subst e; rw [h] at hq; cases hq
theorem kp_ref (h : inR o = false) : R.killP inR (.ref o f) = .ref o f := R.killP_of fun q hq => by
 simp only [R.says, R.says0, beq_eq_false_iff_ne]; intro e; subst e; rw [h] at hq; cases hq
theorem kpo_log {e : TypeId} {z : Nat} {xs : List (List D)} : Ob.killP inR (.log e z xs) = .log e z xs := rfl
theorem kpo_box {cs : List R} : Ob.killP inR (.box cs) = .box (cs.map (R.killP inR)) := rfl
theorem one_1 {r : R} : one [r] = r := rfl
theorem one_2 {r r' : R} {rs : List R} : one (r :: r' :: rs) = .tp (r :: r' :: rs) := rfl
end
def PBR := And.intro @br_r <| And.intro @br_0 <| And.intro @br_1 <| And.intro @br_m <| And.intro @kp_a <| And.intro @kp_cs <| And.intro @kp_any <| And.intro @kp_own <| And.intro @kp_ref <| And.intro @kpo_log <| And.intro @kpo_box <| And.intro @one_1 <| @one_2
attribute [go_sem] PBR
def HoldsRows (P : Program) (gl : Nat → Option (List D)) (f : FuncId) (rs : List R) (e0 e1 : TypeId) (rows : List (List Int)) (zs : List A) : Prop :=
 FnOk P f ∧ ∀ (st : Nat → Prop) (w : World) (vs : List Value), EnvOk gl st w → F2 (RelR (fun _ => undef) st w) vs rs →
  Calls P f vs.toArray w fun e w' => ∃ (v0 : Value) (us vals : List Value), e = .returned (retV (v0 :: us)) ∧ Keep (fun _ => False) w w' ∧ F2 (RelA (fun _ => False) w') us zs ∧ vals.length = rows.length ∧
   ObRel (fun _ => undef) (fun _ => False) w' v0 (.log e0 1 (vals.map fun v => [.v v])) ∧ (∀ (i : Nat) (v : Value) (r : List Int), vals[i]? = some v → rows[i]? = some r → ObRel (fun _ => undef) (fun _ => False) w' v (.log e1 1 (r.map ienc))) ∧
   (∀ b, ownB v0 = some b → w.heap.size ≤ b) ∧ (∀ v ∈ vals, ∀ b, ownB v = some b → w.heap.size ≤ b) ∧ (∀ v ∈ vals, ∀ b, ownB v0 = some b → ownB v ≠ some b) ∧
   (∀ (i j : Nat) (v v' : Value) (b : Nat), vals[i]? = some v → vals[j]? = some v' → ownB v = some b → ownB v' = some b → i = j)
theorem inl_rows {P : Program} {gl : Nat → Option (List D)} {f : FuncId} {rs : List R} {e0 e1 : TypeId} {rows : List (List Int)} {zs : List A} {σ : S} {K : S → List R → Prop} (h : HoldsRows P gl f rs e0 e1 rows zs) (hp : rs.map R.pur = rs) (hlen : rows.length ≤ 80000)
  (hK : ∀ vals, vals.length = rows.length → K (σ.bring e0 e1 vals rows) (.own 700000 :: zs.map .a)) : Inl P gl f rs σ K := by
 refine ⟨h.1, fun c β a w vs hP hgl hs hv => ?_⟩
 subst hP; subst hgl
 refine (h.2 (stF c σ β w) w vs hs.env ⟨hv.1, fun i v r hv' hr => ?_⟩).mono fun e w' hq => ?_
 ·have h1 := pur_rel (β' := fun _ => undef) (hv.2 i v r hv' hr)
  have h2 : (rs.map R.pur)[i]? = rs[i]? := by rw [hp]
  rw [List.getElem?_map, hr] at h2
  rw [Option.some.inj h2] at h1
  exact h1
 ·obtain ⟨v0, us, vals, rfl, hk, hus, hl, h0, hr, n0, nv, d0, dv⟩ := hq
  obtain ⟨β', hs', hb⟩ := hs.bring (e0 := e0) (e1 := e1) hk hl hlen h0 hr n0 nv d0 dv
  refine ⟨v0 :: us, _, _, β', rfl, hs', F2.cons (.own hb (log_one h0)) ⟨by simp [hus.1], fun i u r hu hr' => ?_⟩, hK vals hl⟩
  rw [List.getElem?_map] at hr'
  obtain ⟨z, hz, rfl⟩ := Option.map_eq_some_iff.1 hr'
  exact .a ((hus.2 i u z hu hz).mono fun b hb => hb.elim)
def S.pin (rs : List R) : S where
 regs := fun t => (rs[t]?).getD .any
 mem := fun _ => none
theorem pin_r {rs : List R} {t : Nat} : (S.pin rs).regs t = (rs[t]?).getD .any := rfl
theorem pin_m {rs : List R} {o : Nat} : (S.pin rs).mem o = none := rfl
def postW (t0 : Tmp) (tl : List Tmp) (e0 e1 : TypeId) (rows : List (List Int)) (zs : List A) : Ex → S → Prop
 | .normal, σ | .ret, σ => ∃ (q : Nat) (vals : List Value), q ≤ 700000 ∧ σ.regs t0 = .own q ∧ σ.mem q = some (.log e0 1 (vals.map fun v => [.v v])) ∧ σ.mem 700001 = some (.sem (ties 710000 vals)) ∧ vals.length = rows.length ∧
   (∀ i r, rows[i]? = some r → σ.mem (710000 + i) = some (.log e1 1 (r.map ienc))) ∧ tl.map σ.regs = zs.map .a
 | _, _ => False
theorem pin_sim {P : Program} {gl : Nat → Option (List D)} {st : Nat → Prop} {w : World} {N : Nat} {rs : List R} {vs : List Value} (he : EnvOk gl st w) (hv : F2 (RelR (fun _ => undef) st w) vs rs) (hp : rs.map R.pur = rs) (hN : rs.length ≤ N) :
  Sim (ctx P gl st w N) (S.pin rs) (fun _ => undef) { tmps := vs.toArray ++ Array.replicate (N - vs.toArray.size) undef, defers := [] } w := by
 have hst : ∀ b, (st b ∧ b < w.heap.size ∧ NotDef w b) → stF (ctx P gl st w N) (S.pin rs) (fun _ => undef) w b ∧ w.heap[b]? = w.heap[b]? := fun b hb => ⟨⟨hb.2.1, fun _ => hb.1, fun o x hx => (by simp [S.pin] at hx), hb.2.2⟩, rfl⟩
 have hl := hv.1
 refine ⟨Keep.refl _ _, ?_, ⟨[], rfl, List.nodup_nil, fun D hD => (by cases hD), fun y hy => (by cases hy)⟩, trivial, fun o x hx => by simp [S.pin] at hx, fun o x b hx => by simp [S.pin] at hx, fun o o' x x' b hx => by simp [S.pin] at hx, fun t => ?_, he.here.mono hst⟩
 ·simp [ctx]; omega
 ·simp only [S.pin]
  cases hx : rs[t]? with
  | none => exact .any
  | some r =>
   obtain ⟨v, hv', hr⟩ := hv.get hx
   have ht := (List.getElem?_eq_some_iff.1 hv').1
   have : (vs.toArray ++ Array.replicate (N - vs.toArray.size) undef).getD t undef = v := by
    rw [Array.getD_eq_getD_getElem?, Array.getElem?_append_left (by simpa using ht)]
    simp [hv']
   rw [this, Option.getD_some]
   have h2 : (rs.map R.pur)[t]? = rs[t]? := by rw [hp]
   rw [List.getElem?_map, hx] at h2
   have hpr : r.pur = r := Option.some.inj h2
   cases hr with
   | any => exact .any
   | a h => exact .a (h.here.mono hst)
   | cs h => exact .cs (h.here.mono hst)
   | sem h hp => exact .sem h hp
   | @tp us xs hl hd =>
    cases xs with
    | nil => exact .tp hl fun j v r _ hr => by simp at hr
    | cons x xs => cases hpr
   | ref h => cases hpr
   | eref h => cases hpr
   | own h h1 => cases hpr
   | omp h h1 => cases hpr
   | clo h => cases hpr
   | agr hl h1 hd => cases hpr
theorem rows_of {P : Program} {gl : Nat → Option (List D)} {f : FuncId} {fn : Func} {body : Code} {rs : List R} {t0 : Tmp} {tl : List Tmp} {e0 e1 : TypeId} {rows : List (List Int)} {zs : List A} (hm : P.follows .mixedOrders = true)
  (hf : P.funcs[f]? = some fn) (hb : fn.body = some body) (hr : resT fn.results.toList = some (t0 :: tl)) (hname : (fn.name == "runtime.NumGoroutine") = false) (hd : dstOK fn.ntmps body = true) (hN : decide (rs.length ≤ fn.ntmps) = true) (hp : rs.map R.pur = rs) (hz : zs.all A.flat = true)
  (h : AwpE P gl body (postW t0 tl e0 e1 rows zs) (S.pin rs)) : HoldsRows P gl f rs e0 e1 rows zs := by
 refine ⟨⟨fn, hf, by rw [hb]; rfl, hname⟩, fun st w vs he hv => ?_⟩
 rw [← callsIn_wide (n := 0)]
 refine callsIn_of_wp_marks hf hb trivial ?_
 have hwf : Fence.wide = WF none := rfl
 rw [hwf]
 obtain ⟨σ1, β1, hs1, h1⟩ := h _ _ _ _ (pin_sim (P := P) (N := fn.ntmps) he hv hp (by simpa using hN))
 refine wpIn_mono (awp_sound (c := ctx P gl st w fn.ntmps) (ρ := none) hm body hd (.inl rfl) h1 hs1) fun e a w' hq => ?_
 have fin : ∀ σ β a w', Sim (ctx P gl st w fn.ntmps) σ β a w' → postW t0 tl e0 e1 rows zs .ret σ → ∃ v, (results fn a.tmps).run P w' = .ok v w' ∧ ∃ (v0 : Value) (us vals : List Value), Ending.returned v = .returned (retV (v0 :: us)) ∧ Keep (fun _ => False) w w' ∧ F2 (RelA (fun _ => False) w') us zs ∧ vals.length = rows.length ∧
   ObRel (fun _ => undef) (fun _ => False) w' v0 (.log e0 1 (vals.map fun v => [.v v])) ∧ (∀ (i : Nat) (v : Value) (r : List Int), vals[i]? = some v → rows[i]? = some r → ObRel (fun _ => undef) (fun _ => False) w' v (.log e1 1 (r.map ienc))) ∧
   (∀ b, ownB v0 = some b → w.heap.size ≤ b) ∧ (∀ v ∈ vals, ∀ b, ownB v = some b → w.heap.size ≤ b) ∧ (∀ v ∈ vals, ∀ b, ownB v0 = some b → ownB v ≠ some b) ∧
   (∀ (i j : Nat) (v v' : Value) (b : Nat), vals[i]? = some v → vals[j]? = some v' → ownB v = some b → ownB v' = some b → i = j) := by
  intro σ β a w' hs ⟨q, vals, hq7, hreg, hmq, hmt, hl, hrows, htl⟩
  have hties := (hs.obj _ _ hmt).2
  have hv0 : a.tmps.getD t0 undef = β q := by
   have := hs.reg t0
   rw [hreg] at this
   exact this.inv_own
  have hflat : ∀ (x : List (List D)) (e : TypeId) (v : Value) (st : Nat → Prop), (∀ c ∈ x, ∀ d ∈ c, ∃ u, d = D.v u) → ObRel β st w' v (.log e 1 x) → ObRel (fun _ => undef) (fun _ => False) w' v (.log e 1 x) := fun x e v st hx ⟨cells, hr, hf, hall⟩ => ⟨cells, hr, ⟨hf.1, fun i u d hu hd => by
   have h1 := hf.2 i u d hu hd
   obtain ⟨l, hl, hdl⟩ := List.mem_flatten.1 (List.mem_of_getElem? hd)
   obtain ⟨u', rfl⟩ := hx l hl d hdl
   cases h1 with | v h => exact .v h⟩, hall⟩
  have hrow : ∀ (i : Nat) (v : Value), vals[i]? = some v → ∃ r, rows[i]? = some r ∧ σ.mem (710000 + i) = some (.log e1 1 (r.map ienc)) ∧ β (710000 + i) = v := fun i v hv => by
   have := (List.getElem?_eq_some_iff.1 hv).1
   have hr' : rows[i]? = some (rows[i]'(by omega)) := List.getElem?_eq_getElem _
   exact ⟨_, hr', hrows i _ hr', hties i v hv⟩
  have blk : ∀ o x b, σ.mem o = some x → ownB (β o) = some b → w.heap.size ≤ b := fun o x b hx hb => (hs.blk o x b hx hb).elim id fun hX => hX.1.elim
  refine ⟨retV (((t0 :: tl).map fun t => a.tmps.getD t undef)), ?_, β q, tl.map fun t => a.tmps.getD t undef, vals, by rw [List.map_cons, hv0], hs.keep, ⟨?_, fun i u z hu hzz => ?_⟩, hl, ?_, fun i v r hv hr' => ?_, fun b hb => blk q _ b hmq hb, fun v hv b hb => ?_, fun v hv b hb hb' => ?_, fun i j v v' b hv hv' hb hb' => ?_⟩
  ·have hrun : (fn.results.mapM (resG a.tmps)).run P w' = .ok ((t0 :: tl).map fun t => a.tmps.getD t undef).toArray w' := by
    have e1 : ((t0 :: tl).map fun t => a.tmps.getD t undef) = fn.results.toList.map (resV P a.tmps w') := by
     rw [resT_at hr, List.map_map]; rfl
    rw [e1]
    exact run_mapM_arr _ (resV P a.tmps w') fun v hv => by
     have : v ∈ fn.results.toList := by simpa using hv
     rw [resT_at hr] at this
     obtain ⟨t, _, rfl⟩ := List.mem_map.1 this
     rfl
   have : results fn a.tmps = (do let vs ← fn.results.mapM (resG a.tmps); pure (if h : vs.size = 1 then vs[0] else .tuple vs)) := rfl
   rw [this, Sem.run_bind, hrun, Result.andThen_ok]
   show Result.ok _ _ = _
   congr 1
   cases tl with
   | nil => rfl
   | cons t tl => simp [retV]
  ·have := congrArg List.length htl
   simpa using this
  ·rw [List.getElem?_map] at hu
   obtain ⟨t, ht, rfl⟩ := Option.map_eq_some_iff.1 hu
   have h1 : (tl.map σ.regs)[i]? = (zs.map R.a)[i]? := by rw [htl]
   rw [List.getElem?_map, List.getElem?_map, ht, hzz] at h1
   have h2 := hs.reg t
   rw [Option.some.inj h1] at h2
   exact A.flat_rel (List.all_eq_true.1 hz z (List.mem_of_getElem? hzz)) h2.inv_a
  ·exact hflat _ _ _ _ (fun c hc d hd => by
    obtain ⟨v, _, rfl⟩ := List.mem_map.1 hc
    exact ⟨v, by simpa using hd⟩) (hs.obj _ _ hmq)
  ·obtain ⟨r', hr'', hm', hb⟩ := hrow i v hv
   rw [hr'] at hr''
   cases hr''
   rw [← hb]
   exact hflat _ _ _ _ (fun c hc d hd => by
    obtain ⟨n, _, rfl⟩ := List.mem_map.1 hc
    exact ⟨.int .i64 n, by simpa [ienc] using hd⟩) (hs.obj _ _ hm')
  ·obtain ⟨i, hi⟩ := List.getElem?_of_mem hv
   obtain ⟨r', _, hm', hb'⟩ := hrow i v hi
   exact blk _ _ b hm' (by rw [hb']; exact hb)
  ·obtain ⟨i, hi⟩ := List.getElem?_of_mem hv
   obtain ⟨r', _, hm', hb''⟩ := hrow i v hi
   have := hs.dis _ _ _ _ b hmq hm' hb (by rw [hb'']; exact hb')
   omega
  ·obtain ⟨r1, _, hm1, h1⟩ := hrow i v hv
   obtain ⟨r2, _, hm2, h2⟩ := hrow j v' hv'
   have := hs.dis _ _ _ _ b hm1 hm2 (by rw [h1]; exact hb) (by rw [h2]; exact hb')
   omega
 cases e with
 | normal =>
  obtain ⟨σ, β, hs, hk⟩ := hq
  obtain ⟨Ds, hd, hm⟩ := hs.df
  rw [show (ctx P gl st w fn.ntmps).df = [] from rfl, List.append_nil] at hd
  show LeavesInM _ _ P fn a.tmps _ a.defers .returning w'
  rw [hd]
  exact marks_out rfl Ds hs hd hm fun a' w' _ _ hs' => fin σ β a' w' hs' hk
 | ret =>
  obtain ⟨σ, β, hs, hk⟩ := hq
  obtain ⟨Ds, hd, hm⟩ := hs.df
  rw [show (ctx P gl st w fn.ntmps).df = [] from rfl, List.append_nil] at hd
  show LeavesInM _ _ P fn a.tmps _ a.defers .returning w'
  rw [hd]
  exact marks_out rfl Ds hs hd hm fun a' w' _ _ hs' => fin σ β a' w' hs' hk
 | exit id => obtain ⟨σ, β, hs, hk⟩ := hq; exact hk.elim
 | goto l => exact hq.elim
 | panic ch => obtain ⟨_, _, _, _, _, _, _, _, hk⟩ := hq; exact hk.elim
 | outgrown => exact hq.elim
end Go.VC
end
section
set_option maxRecDepth 100000
namespace Go.VC
open Go.RowKit Go.Proofs Go.IntWalk
def freeX (after : List Nat) (left k i : Nat) : Bool := !(left.testBit i && (after.getD i 0).testBit k)
def freeE (after : List Nat) (left k : Nat) : Bool := (List.range after.length).all (freeX after left k)
theorem t135 (after : List Nat) (left k : Nat) (hl : after.length ≤ 30) (ha : ∀ b ∈ after, b < 2 ^ 32) (hw : left < 2 ^ 32) (hk : k < 32) : Holds Tryz.prog GL 151 [unsA after, U left, I k] [.a (B (freeE after left k))] := by
 refine fn_holds (vs := [.tmp 6]) (by kernel_rfl) Tryz.func151 rfl rfl (by kernel_rfl) (by kernel_rfl) rfl ?_
 have hfr : freeE after left k = (List.range after.length).all (freeX after left k) := rfl
 (refine rO ?_; repeat' ((with_reducible first | refine rG ?_ | (refine rS ?_ ?_ <;> intro hp) | (refine rB ?_ ?_ <;> intro hb <;> try rw [hb]) | refine rD ?_ | refine rA ?_ | fail) <;> try simp only [go_sem, simprocAttr, List.length_map]))
 refine awp_loopA (fun i : Nat => [(1, .a (U left)), (2, .a (I k)), (9, .a (unsA after)), (10, .a (I after.length)), (11, .a (I i))]) (fun _ => []) (fun i => i ≤ after.length ∧ ∀ q, q < i → freeX after left k q = true) (after.length - ·) 0 ?_ ?_ ⟨Nat.zero_le _, fun i hi => by omega⟩ ?_
 ·simp only [go_sem, simprocAttr, List.length_map]
 ·simp only [go_sem, simprocAttr]
 intro i j ⟨hi, hq⟩
 (refine rO ?_; repeat' ((with_reducible first | refine rG ?_ | (refine rS ?_ ?_ <;> intro hp) | (refine rB ?_ ?_ <;> intro hb <;> try rw [hb]) | refine rD ?_ | refine rA ?_ | fail) <;> try simp only [go_sem, simprocAttr]))
 ·have hil : i < after.length := by omega
  have hwi := wrap_succ (n := after.length) hil (by simp only [maxLen]; omega)
  have hx : after[i]? = some after[i] := List.getElem?_eq_getElem hil
  have hb0 : freeX after left k i = !(left.testBit i && after[i].testBit k) := by simp [freeX, hil]
  have hb32 := ha _ (List.getElem_mem hil)
  generalize after[i] = b at hx hb0 hb32
  have h2 := u32_bit (k := i) hw
  have h3 := u32_bit (k := k) hb32
  have s1 := u32_shr (b := left) (k := i) (by omega)
  have s2 := u32_shr (b := b) (k := k) hk
  cases hc1 : left.testBit i with
  | false =>
   rw [hc1] at h2 hb0
   simp only [Bool.false_eq_true, if_false] at h2
   (refine rO ?_; repeat' ((with_reducible first | refine rG ?_ | (refine rS ?_ ?_ <;> intro hp) | (refine rB ?_ ?_ <;> intro hb <;> try rw [hb]) | refine rD ?_ | refine rA ?_ | fail) <;> try simp only [go_sem, simprocAttr, hx, uenc_eq, s1, h2, hwi]))
   (refine ⟨i + 1, ?_, ?_, ⟨hil, nx_all hq hb0⟩, by dsimp only; omega⟩ <;> simp only [go_sem, simprocAttr, hwi])
  | true =>
   rw [hc1] at h2 hb0
   simp only [if_true] at h2
   cases hc2 : b.testBit k with
   | false =>
    rw [hc2] at h3 hb0
    simp only [Bool.false_eq_true, if_false] at h3
    (refine rO ?_; repeat' ((with_reducible first | refine rG ?_ | (refine rS ?_ ?_ <;> intro hp) | (refine rB ?_ ?_ <;> intro hb <;> try rw [hb]) | refine rD ?_ | refine rA ?_ | fail) <;> try simp only [go_sem, simprocAttr, hx, uenc_eq, s1, s2, h2, h3, hwi]))
    (refine ⟨i + 1, ?_, ?_, ⟨hil, nx_all hq hb0⟩, by dsimp only; omega⟩ <;> simp only [go_sem, simprocAttr, hwi])
   | true =>
    rw [hc2] at h3 hb0
    simp only [if_true] at h3
    (refine rO ?_; repeat' ((with_reducible first | refine rG ?_ | (refine rS ?_ ?_ <;> intro hp) | (refine rB ?_ ?_ <;> intro hb <;> try rw [hb]) | refine rD ?_ | refine rA ?_ | fail) <;> try simp only [go_sem, simprocAttr, hx, uenc_eq, s1, s2, h2, h3, hwi]))
    rw [hfr]
    symm
    rw [List.all_eq_false]
    exact ⟨i, List.mem_range.2 hil, by rw [hb0]; simp⟩
 ·rw [hfr]
  symm
  rw [List.all_eq_true]
  exact fun q hq' => hq q (by have := List.mem_range.1 hq'; omega)
end Go.VC
end
section
set_option maxRecDepth 100000
namespace Go.VC
open Go.RowKit Go.Proofs
def QhG (c : Cx) (Q : Ex → S → Prop) (l : Nat) (J : S → Prop) : Exit → Act → World → Prop
 | .goto l', a, w => l' = l ∧ ∃ σ β, Sim c σ β a w ∧ J σ
 | e, a, w => Qh c Q e a w
def SemG (P : Program) (gl : Nat → Option (List D)) (code : Code) (Q : Ex → S → Prop) (l : Nat) (J : S → Prop) (σ : S) : Prop :=
 ∀ (c : Cx) (β : Nat → Value) (a : Act) (w : World) (ρ : Option Nat) (n : Nat), c.P = P → c.gl = gl → c.P.follows .mixedOrders = true → dstOK c.N code = true → (ρ = none ∨ noRng code = true) → Sim c σ β a w → code.wpIn (WF ρ) n c.P (QhG c Q l J) a w
section
variable {P : Program} {gl : Nat → Option (List D)} {Q : Ex → S → Prop} {l : Nat} {J : S → Prop} {σ : S}
theorem sg_awp {code : Code} (h : awp P gl code Q σ) : SemG P gl code Q l J σ := fun c β a w ρ n hP hgl hm hd hp hs => by
 subst hP; subst hgl
 refine wpIn_mono (awp_sound hm code hd hp h hs) fun e a w hq => ?_
 cases e <;> first | exact hq | exact hq.elim
theorem sg_seq {x y : Code} (h : SemG P gl x (Ex.then (fun σ' => SemG P gl y Q l J σ') Q) l J σ) : SemG P gl (.seq x y) Q l J σ := fun c β a w ρ n hP hgl hm hd hp hs => by
 simp only [dstOK, Bool.and_eq_true] at hd
 refine wpIn_seq (wpIn_mono (h c β a w ρ n hP hgl hm hd.1 (np_l hp) hs) fun e a w he => ?_)
 cases e with
 | normal => obtain ⟨σ', β', hs', hk⟩ := he; exact hk c β' a w ρ n hP hgl hm hd.2 (np_r hp) hs'
 | exit id => exact he
 | ret => exact he
 | goto l => exact he
 | panic ch => exact he
 | outgrown => exact he
theorem sg_cond {x : Operand} {y z : Code} {b : Bool} (hb : σ.eval gl x = .a (.d (.v (.bool b)))) (hy : b = true → SemG P gl y Q l J σ) (hz : b = false → SemG P gl z Q l J σ) : SemG P gl (.cond x y z) Q l J σ := fun c β a w ρ n hP hgl hm hd hp hs => by
 simp only [dstOK, Bool.and_eq_true] at hd
 have hv := hs.eval x
 rw [hgl, hb] at hv
 exact wpIn_cond_split hv.inv_v (fun e => hy e c β a w ρ n hP hgl hm hd.1 (np_l hp) hs) (fun e => hz e c β a w ρ n hP hgl hm hd.2 (np_r hp) hs)
theorem sg_block {id : Nat} {x : Code} (h : SemG P gl x (Ex.inBlock id Q) l J σ) : SemG P gl (.block id x) Q l J σ := fun c β a w ρ n hP hgl hm hd hp hs => by
 refine wpIn_block (wpIn_mono (h c β a w ρ n hP hgl hm hd hp hs) fun e a w he => ?_)
 cases e with
 | normal => exact he
 | exit id' =>
  obtain ⟨σ', β', hs', hk⟩ := he
  simp only [Ex.inBlock] at hk
  simp only [Exit.inBlock]
  split at hk
  ·rw [if_pos ‹_›]; exact ⟨σ', β', hs', hk⟩
  ·rw [if_neg ‹_›]; exact ⟨σ', β', hs', hk⟩
 | ret => exact he
 | goto l => exact he
 | panic ch => exact he
 | outgrown => exact he
theorem sg_goto (h : J σ) : SemG P gl (.goto l) Q l J σ := fun c β a w ρ n hP hgl hm hd hp hs => wpIn_goto ⟨rfl, σ, β, hs, h⟩
theorem sg_loop {α : Type} (Inv : α → S → Prop) (m : α → Nat) {x : Code} (a0 : α) (h0 : ∃ σ', Ghost σ σ' ∧ Inv a0 σ')
  (h : ∀ a τ, Inv a τ → SemG P gl x (Ex.then (fun σ' => ∃ σ'' a', Ghost σ' σ'' ∧ Inv a' σ'' ∧ m a' < m a) Q) l J τ) : SemG P gl (.loop x) Q l J σ := by
 intro c β a w ρ n hP hgl hm hd hp hs b k cs hro hb hr
 have key : ∀ (N : Nat) (a0 : α) (τ : S) (β : Nat → Value) (a : Act) (w : World), m a0 = N → Inv a0 τ → Sim c τ β a w →
   ∃ e a' w', QhG c Q l J e a' w' ∧ ArrivesIn (Machine.fenced c.P (WF ρ)) c.P (lone (b.atR a (.code x :: .inLoop x :: k)) cs w) b k cs e a' w' := by
  intro N
  induction N using Nat.strongRecOn with
  | _ N ih =>
   intro a0 τ β a w hN hI hs
   obtain ⟨e, a₁, w₁, hq, harr⟩ := h a0 τ hI c β a w ρ n hP hgl hm hd hp hs b (.inLoop x :: k) cs hro hb hr
   cases e with
   | normal =>
    obtain ⟨σ', β', hs', σ'', a', hg, hI', hlt⟩ := hq
    obtain ⟨β'', hs''⟩ := hg c β' a₁ w₁ hs'
    obtain ⟨e₂, a₂, w₂, hq₂, harr₂⟩ := ih (m a') (by omega) a' σ'' β'' a₁ w₁ rfl hI' hs''
    exact ⟨e₂, a₂, w₂, hq₂, .of_steps (StepsIn.trans harr (.one (fenced_calm hb hr rfl) stepR_inLoop)) harr₂⟩
   | exit id => exact ⟨.exit id, a₁, w₁, hq, .pass (x := .inLoop x) rfl (fun _ _ => .inl (by simp)) harr⟩
   | ret => exact ⟨.ret, a₁, w₁, hq, .pass (x := .inLoop x) rfl (fun _ _ => .inl (by simp)) harr⟩
   | goto l => exact ⟨.goto l, a₁, w₁, hq, .pass (x := .inLoop x) rfl (fun _ _ => .inl (by simp)) harr⟩
   | panic ch => exact ⟨.panic ch, a₁, w₁, hq, .pass (x := .inLoop x) rfl (fun _ _ => .inl (by simp)) harr⟩
   | outgrown => exact hq.elim
 obtain ⟨σ', hg, hI⟩ := h0
 obtain ⟨β', hs'⟩ := hg c β a w hs
 obtain ⟨e, a', w', hq, harr⟩ := key _ a0 σ' β' a w rfl hI hs'
 exact ⟨e, a', w', hq, .of_steps (.one (fenced_calm hb hr rfl) stepR_loop) harr⟩
theorem sem_scope {α : Type} (Inv : α → S → Prop) (m : α → Nat) {x rest : Code} (hf : findLabel x l = none) (h1 : awp P gl x (Ex.then (fun σ' => ∃ a, Inv a σ') Q) σ)
  (hpass : ∀ a τ, Inv a τ → SemG P gl rest Q l (fun σ' => ∃ a', Inv a' σ' ∧ m a' < m a) τ) : SemCode P gl (.scope (.seq x (.seq (.label l) rest))) Q σ := by
 intro c β a w ρ n hP hgl hm hd hp hs fr k cs hro hb hr
 subst hP; subst hgl
 simp only [dstOK, Bool.and_eq_true] at hd
 have hpx : ρ = none ∨ noRng x = true := hp.imp id fun h => by simp only [noRng, Bool.and_eq_true] at h; exact h.1
 have hpr : ρ = none ∨ noRng rest = true := hp.imp id fun h => by simp only [noRng, Bool.and_eq_true] at h; exact h.2.2
 have hg : gotoIn l (.inScope (.seq x (.seq (.label l) rest)) :: k) = some (.code (.seq .skip rest) :: .inScope (.seq x (.seq (.label l) rest)) :: k) := by simp [gotoIn, findLabel, hf]
 have s1 : ∀ a w, step c.P (lone (fr.atR a (.inScope (.seq x (.seq (.label l) rest)) :: k)) cs w) = .next (lone (fr.atR a k) cs w) := fun a w => step_lone_go (by simp [Go.stepG, Go.stepG.exec, Frame.atR])
 have hx : ∀ id, exitTo id (.inScope (.seq x (.seq (.label l) rest)) :: k) = exitTo id k := fun id => by simp [exitTo]
 have key : ∀ (N : Nat) (a0 : α) (τ : S) (β : Nat → Value) (a : Act) (w : World), m a0 = N → Inv a0 τ → Sim c τ β a w →
   ∃ e a' w', Qh c Q e a' w' ∧ ArrivesIn (Machine.fenced c.P (WF ρ)) c.P (lone (fr.atR a (.code rest :: .inScope (.seq x (.seq (.label l) rest)) :: k)) cs w) fr k cs e a' w' := by
  intro N
  induction N using Nat.strongRecOn with
  | _ N ih =>
   intro a0 τ β a w hN hI hs
   obtain ⟨e, a₁, w₁, hq, harr⟩ := hpass a0 τ hI c β a w ρ n rfl rfl hm hd.2.2 hpr hs fr (.inScope (.seq x (.seq (.label l) rest)) :: k) cs hro hb hr
   cases e with
   | normal => exact ⟨.normal, a₁, w₁, hq, StepsIn.trans harr (.one (fenced_calm hb hr rfl) (s1 _ _))⟩
   | exit id =>
    exact ⟨.exit id, a₁, w₁, hq, fun k' hk => harr.1 k' (by rw [hx]; exact hk), fun hr' hk => harr.2 hr' (by rw [hx]; exact hk)⟩
   | goto l' =>
    obtain ⟨rfl, σ', β', hs', a', hI', hlt⟩ := hq
    obtain ⟨e₂, a₂, w₂, hq₂, harr₂⟩ := ih (m a') (by omega) a' σ' β' a₁ w₁ rfl hI' hs'
    refine ⟨e₂, a₂, w₂, hq₂, .of_steps (harr.1 _ hg) (.of_steps (.head (fenced_calm hb hr rfl) stepR_seq (.one (fenced_calm hb hr rfl) stepR_skip)) harr₂)⟩
   | ret => exact ⟨.ret, a₁, w₁, hq, harr⟩
   | panic ch => exact ⟨.panic ch, a₁, w₁, hq, harr⟩
   | outgrown => exact hq.elim
 have h0 : (lone (fr.atR a (.code (.scope (.seq x (.seq (.label l) rest))) :: k)) cs w).fenced c.P (WF ρ) := fenced_calm hb hr rfl
 have s0 : step c.P (lone (fr.atR a (.code (.scope (.seq x (.seq (.label l) rest))) :: k)) cs w) = .next (lone (fr.atR a (.code (.seq x (.seq (.label l) rest)) :: .inScope (.seq x (.seq (.label l) rest)) :: k)) cs w) := step_lone_go (by simp [Go.stepG, Go.stepG.exec, Frame.atR])
 obtain ⟨e, a₁, w₁, hq, harr⟩ := awp_sound hm x hd.1 hpx h1 hs fr (.code (.seq (.label l) rest) :: .inScope (.seq x (.seq (.label l) rest)) :: k) cs hro hb hr
 have hx2 : ∀ id, exitTo id (.code (.seq (.label l) rest) :: .inScope (.seq x (.seq (.label l) rest)) :: k) = exitTo id k := fun id => by simp [exitTo]
 cases e with
 | normal =>
  obtain ⟨σ', β', hs', a0, hI⟩ := hq
  obtain ⟨e₂, a₂, w₂, hq₂, harr₂⟩ := key _ a0 σ' β' a₁ w₁ rfl hI hs'
  refine ⟨e₂, a₂, w₂, hq₂, .of_steps (.head h0 s0 (.head (fenced_calm hb hr rfl) stepR_seq (StepsIn.trans harr (.head (fenced_calm hb hr rfl) stepR_seq (.one (fenced_calm hb hr rfl) stepR_label))))) harr₂⟩
 | exit id =>
  exact ⟨.exit id, a₁, w₁, hq, fun k' hk => .head h0 s0 (.head (fenced_calm hb hr rfl) stepR_seq (harr.1 k' (by rw [hx2]; exact hk))),
   fun hr' hk => let ⟨k₁, g1, g2⟩ := harr.2 hr' (by rw [hx2]; exact hk); ⟨k₁, g1, .head h0 s0 (.head (fenced_calm hb hr rfl) stepR_seq g2)⟩⟩
 | goto l' => exact hq.elim
 | ret => exact ⟨.ret, a₁, w₁, hq, .of_steps (.head h0 s0 (.one (fenced_calm hb hr rfl) stepR_seq)) harr⟩
 | panic ch => exact ⟨.panic ch, a₁, w₁, hq, .of_steps (.head h0 s0 (.one (fenced_calm hb hr rfl) stepR_seq)) harr⟩
 | outgrown => exact hq.elim
end
end Go.VC
end
section
set_option maxRecDepth 100000
namespace Go.VC
open Go.RowKit Go.Proofs Go.IntWalk
def cntB : Nat → Nat → Nat
 | 0, _ => 0
 | n + 1, b => cntB n b + if b.testBit n then 1 else 0
theorem cntB_ext {a b : Nat} : ∀ {n : Nat}, (∀ q, q < n → a.testBit q = b.testBit q) → cntB n a = cntB n b
 | 0, _ => rfl
 | n + 1, h => by rw [cntB, cntB, cntB_ext fun q hq => h q (by omega), h n (by omega)]
theorem cntB_clr {b k : Nat} (hb : b.testBit k = true) : ∀ {n : Nat}, k < n → cntB n (andN b (2 ^ k)) + 1 = cntB n b
 | n + 1, h => by
  rw [cntB, cntB]
  by_cases e : k = n
  ·subst e
   rw [cntB_ext (a := andN b (2 ^ k)) (b := b) fun q hq => by
    rw [andN_bit, Nat.testBit_two_pow]
    have : ¬ k = q := by omega
    simp [this]]
   rw [andN_bit, hb, Nat.testBit_two_pow]
   simp
  ·have := cntB_clr hb (n := n) (by omega)
   rw [show (andN b (2 ^ k)).testBit n = b.testBit n by
    rw [andN_bit, Nat.testBit_two_pow]; simp [e]]
   omega
theorem cntB_zero {b : Nat} : ∀ {n : Nat}, cntB n b = 0 → ∀ q, q < n → b.testBit q = false
 | n + 1, h, q, hq => by
  rw [cntB] at h
  by_cases e : q = n
  ·subst e
   cases hc : b.testBit q with
   | false => rfl
   | true => rw [hc] at h; simp at h
  ·exact cntB_zero (n := n) (by omega) q (by omega)
theorem bits_zero {b n : Nat} (hb : b < 2 ^ n) (h : ∀ q, q < n → b.testBit q = false) : b = 0 := Nat.eq_of_testBit_eq fun q => by
 rw [Nat.zero_testBit]
 by_cases hq : q < n
 ·exact h q hq
 ·exact Nat.testBit_lt_two_pow (Nat.lt_of_lt_of_le hb (Nat.pow_le_pow_right (by omega) (by omega)))
theorem cntB_all : ∀ n m : Nat, n ≤ m → cntB n (2 ^ m - 1) = n
 | 0, _, _ => rfl
 | n + 1, m, h => by
  rw [cntB, cntB_all n m (by omega), Nat.testBit_two_pow_sub_one]
  simp; omega
theorem andN_lt2 {a b n : Nat} (ha : a < 2 ^ n) : andN a b < 2 ^ n := Nat.xor_lt_two_pow ha (Nat.lt_of_le_of_lt Nat.and_le_left ha)
theorem two6 {n : Nat} (h : n ≤ 6) : 2 ^ n ≤ 64 := Nat.pow_le_pow_right (n := 2) (by omega) h
theorem u32_mask1 {m : Nat} (hm : m < 32) : IntKind.u32.wrap (((2 ^ m : Nat) : Int) - 1) = ((2 ^ m - 1 : Nat) : Int) := by
 have h1 : 0 < 2 ^ m := Nat.pow_pos (by omega)
 have h2 : (2 : Nat) ^ m ≤ 2 ^ 31 := Nat.pow_le_pow_right (by omega) (by omega)
 generalize 2 ^ m = q at h1 h2 ⊢
 rw [u32_in _ (by omega)]; omega
def extS (after : List Nat) (left k : Nat) : Bool := left.testBit k && freeE after left k
def cycF (after : List Nat) : Nat → Nat → Nat
 | 0, left => left
 | f + 1, left => match (List.range after.length).find? (extS after left) with
  | none => left
  | some k => cycF after f (andN left (2 ^ k))
def cycE (after : List Nat) : Bool := !decide (cycF after after.length (2 ^ after.length - 1) = 0)
def oddA (after : List Nat) (a : Nat) : Bool := !decide (a / 2 ^ after.length = 0)
def mayX (after : List Nat) : Nat := if after.length > 6 ∨ after.any (oddA after) = true then 1 else if cycE after = true then 8 else 0
theorem cyc_none {after : List Nat} {f left : Nat} (h : ∀ q, q < after.length → extS after left q = false) : cycF after f left = left := by
 cases f with
 | zero => rfl
 | succ f =>
  have : (List.range after.length).find? (extS after left) = none := by
   rw [List.find?_eq_none]; intro q hq; rw [h q (List.mem_range.1 hq)]; simp
  rw [cycF, this]
theorem find_hit {p : Nat → Bool} {n k : Nat} (hk : k < n) (hq : ∀ q, q < k → p q = false) (hp : p k = true) : (List.range n).find? p = some k := by
 rw [List.find?_eq_some_iff_getElem]
 refine ⟨hp, k, by simpa using hk, by simp, fun j hj => ?_⟩
 rw [List.getElem_range, hq j (by omega)]; rfl
theorem cyc_some {after : List Nat} {left k : Nat} (hk : k < after.length) (hq : ∀ q, q < k → extS after left q = false) (hp : extS after left k = true) : cycF after (cntB after.length left) left = cycF after (cntB after.length (andN left (2 ^ k))) (andN left (2 ^ k)) := by
 have hb : left.testBit k = true := by simp only [extS, Bool.and_eq_true] at hp; exact hp.1
 rw [← cntB_clr hb hk, cycF, find_hit hk hq hp]
theorem nx_no {p : Nat → Bool} {i : Nat} (h : ∀ q, q < i → p q = false) (hi : p i = false) : ∀ q, q < i + 1 → p q = false := fun q hq => by
 rcases Nat.lt_succ_iff_lt_or_eq.1 hq with h1 | rfl
 ·exact h q h1
 ·exact hi
structure CyI (after : List Nat) (left : Nat) (σ : S) : Prop where
 r0 : σ.regs 0 = .a (unsA after)
 r3 : σ.regs 3 = .a (U left)
 lt : left < 2 ^ after.length
 eq : cycF after (cntB after.length left) left = cycF after after.length (2 ^ after.length - 1)
structure CyJ (after : List Nat) (left i : Nat) (σ : S) : Prop where
 r0 : σ.regs 0 = .a (unsA after)
 r3 : σ.regs 3 = .a (U left)
 r10 : σ.regs 10 = .a (I after.length)
 r11 : σ.regs 11 = .a (I i)
 le : i ≤ after.length
 no : ∀ q, q < i → extS after left q = false
theorem t115 (after : List Nat) (hl : after.length ≤ 6) (ha : ∀ b ∈ after, b < 2 ^ 32) : Holds Tryz.prog GL 132 [unsA after] [.a (B (cycE after))] := by
 refine fn_holds (vs := [.tmp 2]) (by kernel_rfl) Tryz.func132 rfl rfl (by kernel_rfl) (by kernel_rfl) rfl ?_
 have h6 := two6 hl
 have h1 : 1 ≤ 2 ^ after.length := Nat.one_le_two_pow
 have hm := u32_mask1 (m := after.length) (by omega)
 (refine rO ?_; repeat' ((with_reducible first | refine rG ?_ | (refine rS ?_ ?_ <;> intro hp) | (refine rB ?_ ?_ <;> intro hb <;> try rw [hb]) | refine rD ?_ | refine rA ?_ | fail) <;> try simp only [go_sem, simprocAttr]))
 refine sem_scope (α := Nat) (CyI after) (cntB after.length) rfl ?_ fun left τ hI => ?_
 ·(refine rO ?_; repeat' ((with_reducible first | refine rG ?_ | (refine rS ?_ ?_ <;> intro hp) | (refine rB ?_ ?_ <;> intro hb <;> try rw [hb]) | refine rD ?_ | refine rA ?_ | fail) <;> try simp only [go_sem, simprocAttr, List.length_map, u32_shl (k := after.length) (by omega), hm]))
  refine ⟨2 ^ after.length - 1, ?_, ?_, by omega, by rw [cntB_all _ _ (Nat.le_refl _)]⟩
  ·simp only [go_sem, simprocAttr]
  ·simp only [go_sem, simprocAttr]
 obtain ⟨r0, r3, lt, eq⟩ := hI
 have hw : left < 2 ^ 32 := by omega
 refine sg_seq (sg_seq (sg_awp ?_))
 (refine rO ?_; repeat' ((with_reducible first | refine rG ?_ | (refine rS ?_ ?_ <;> intro hp) | (refine rB ?_ ?_ <;> intro hb <;> try rw [hb]) | refine rD ?_ | refine rA ?_ | fail) <;> try simp only [go_sem, simprocAttr, List.length_map, r0, r3]))
 refine sg_block (sg_loop (α := Nat) (CyJ after left) (after.length - ·) 0 ⟨_, Ghost.refl _, ?_, ?_, ?_, ?_, Nat.zero_le _, fun q hq => by omega⟩ fun i τ2 hJ => ?_)
 iterate 4 (· simp only [go_sem, simprocAttr, r0, r3])
 obtain ⟨r0, r3, r10, r11, le, no⟩ := hJ
 refine sg_seq (sg_awp ?_)
 (refine rO ?_; repeat' ((with_reducible first | refine rG ?_ | (refine rS ?_ ?_ <;> intro hp) | (refine rB ?_ ?_ <;> intro hb <;> try rw [hb]) | refine rD ?_ | refine rA ?_ | fail) <;> try simp only [go_sem, simprocAttr, r0, r3, r10, r11]))
 ·have hil : i < after.length := by omega
  have hwi := wrap_succ (n := after.length) hil (by simp only [maxLen]; omega)
  have hfree := t135 after left i (by omega) ha hw (by omega)
  have h2 := u32_bit (k := i) hw
  have s1 := u32_shr (b := left) (k := i) (by omega)
  have hX : extS after left i = (left.testBit i && freeE after left i) := rfl
  refine sg_seq (sg_cond (b := true) (by simp only [go_sem, simprocAttr]) (fun _ => sg_awp ?_) (fun h => by cases h))
  (refine rO ?_; repeat' ((with_reducible first | refine rG ?_ | (refine rS ?_ ?_ <;> intro hp) | (refine rB ?_ ?_ <;> intro hb <;> try rw [hb]) | refine rD ?_ | refine rA ?_ | fail) <;> try simp only [go_sem, simprocAttr]))
  refine sg_seq (sg_block (sg_seq (sg_awp ?_)))
  (refine rO ?_; repeat' ((with_reducible first | refine rG ?_ | (refine rS ?_ ?_ <;> intro hp) | (refine rB ?_ ?_ <;> intro hb <;> try rw [hb]) | refine rD ?_ | refine rA ?_ | fail) <;> try simp only [go_sem, simprocAttr, r0, r3, r10, r11]))
  refine sg_seq (sg_awp ?_)
  cases hc1 : left.testBit i with
  | false =>
   rw [hc1] at h2 hX
   simp only [Bool.false_eq_true, if_false] at h2
   (refine rO ?_; repeat' ((with_reducible first | refine rG ?_ | (refine rS ?_ ?_ <;> intro hp) | (refine rB ?_ ?_ <;> intro hb <;> try rw [hb]) | refine rD ?_ | refine rA ?_ | fail) <;> try simp only [go_sem, simprocAttr, r0, r3, r10, r11, s1, h2]))
   refine sg_cond (b := false) (by simp only [go_sem, simprocAttr]) (fun h => by cases h) (fun _ => sg_awp ?_)
   (refine rO ?_; repeat' ((with_reducible first | refine rG ?_ | (refine rS ?_ ?_ <;> intro hp) | (refine rB ?_ ?_ <;> intro hb <;> try rw [hb]) | refine rD ?_ | refine rA ?_ | fail) <;> try simp only [go_sem, simprocAttr]))
   refine sg_awp ?_
   (refine rO ?_; repeat' ((with_reducible first | refine rG ?_ | (refine rS ?_ ?_ <;> intro hp) | (refine rB ?_ ?_ <;> intro hb <;> try rw [hb]) | refine rD ?_ | refine rA ?_ | fail) <;> try simp only [go_sem, simprocAttr, r0, r3, r10, r11, hwi]))
   exact ⟨_, i + 1, Ghost.refl _, ⟨by simp only [go_sem, simprocAttr, r0], by simp only [go_sem, simprocAttr, r3], by simp only [go_sem, simprocAttr, r10], by simp only [go_sem, simprocAttr, hwi], hil, nx_no no hX⟩, by omega⟩
  | true =>
   rw [hc1] at h2 hX
   simp only [if_true] at h2
   have hfr := hfree
   cases hc2 : freeE after left i with
   | false =>
    rw [hc2] at hfr hX
    (refine rO ?_; repeat' ((with_reducible first | refine rG ?_ | (refine rS ?_ ?_ <;> intro hp) | (refine rB ?_ ?_ <;> intro hb <;> try rw [hb]) | refine rD ?_ | refine rA ?_ | fail) <;> try simp only [go_sem, simprocAttr, r0, r3, r10, r11, s1, h2]))
    refine call_dat hfr ?_
    (refine rO ?_; repeat' ((with_reducible first | refine rG ?_ | (refine rS ?_ ?_ <;> intro hp) | (refine rB ?_ ?_ <;> intro hb <;> try rw [hb]) | refine rD ?_ | refine rA ?_ | fail) <;> try simp only [go_sem, simprocAttr, r0, r3, r10, r11, s1, h2]))
    refine sg_cond (b := false) (by simp only [go_sem, simprocAttr]) (fun h => by cases h) (fun _ => sg_awp ?_)
    (refine rO ?_; repeat' ((with_reducible first | refine rG ?_ | (refine rS ?_ ?_ <;> intro hp) | (refine rB ?_ ?_ <;> intro hb <;> try rw [hb]) | refine rD ?_ | refine rA ?_ | fail) <;> try simp only [go_sem, simprocAttr]))
    refine sg_awp ?_
    (refine rO ?_; repeat' ((with_reducible first | refine rG ?_ | (refine rS ?_ ?_ <;> intro hp) | (refine rB ?_ ?_ <;> intro hb <;> try rw [hb]) | refine rD ?_ | refine rA ?_ | fail) <;> try simp only [go_sem, simprocAttr, r0, r3, r10, r11, hwi]))
    exact ⟨_, i + 1, Ghost.refl _, ⟨by simp only [go_sem, simprocAttr, r0], by simp only [go_sem, simprocAttr, r3], by simp only [go_sem, simprocAttr, r10], by simp only [go_sem, simprocAttr, hwi], hil, nx_no no hX⟩, by omega⟩
   | true =>
    rw [hc2] at hfr hX
    have hb := u32_andn (a := left) (b := 2 ^ i) hw (Nat.pow_lt_pow_right (by omega) (by omega))
    (refine rO ?_; repeat' ((with_reducible first | refine rG ?_ | (refine rS ?_ ?_ <;> intro hp) | (refine rB ?_ ?_ <;> intro hb <;> try rw [hb]) | refine rD ?_ | refine rA ?_ | fail) <;> try simp only [go_sem, simprocAttr, r0, r3, r10, r11, s1, h2]))
    refine call_dat hfr ?_
    (refine rO ?_; repeat' ((with_reducible first | refine rG ?_ | (refine rS ?_ ?_ <;> intro hp) | (refine rB ?_ ?_ <;> intro hb <;> try rw [hb]) | refine rD ?_ | refine rA ?_ | fail) <;> try simp only [go_sem, simprocAttr, r0, r3, r10, r11, s1, h2]))
    refine sg_cond (b := true) (by simp only [go_sem, simprocAttr]) (fun _ => sg_seq (sg_awp ?_)) (fun h => by cases h)
    (refine rO ?_; repeat' ((with_reducible first | refine rG ?_ | (refine rS ?_ ?_ <;> intro hp) | (refine rB ?_ ?_ <;> intro hb <;> try rw [hb]) | refine rD ?_ | refine rA ?_ | fail) <;> try simp only [go_sem, simprocAttr, r0, r3, r10, r11, u32_shl (k := i) (by omega), hb]))
    refine sg_goto ⟨andN left (2 ^ i), ⟨by simp only [go_sem, simprocAttr, r0], by simp only [go_sem, simprocAttr], andN_lt2 lt, by rw [← cyc_some hil no hX]; exact eq⟩, ?_⟩
    have := cntB_clr hc1 hil
    omega
 ·have hi : i = after.length := by omega
  refine sg_seq (sg_cond (b := false) (by simp only [go_sem, simprocAttr]) (fun h => by cases h) (fun _ => sg_awp ?_))
  (refine rO ?_; repeat' ((with_reducible first | refine rG ?_ | (refine rS ?_ ?_ <;> intro hp) | (refine rB ?_ ?_ <;> intro hb <;> try rw [hb]) | refine rD ?_ | refine rA ?_ | fail) <;> try simp only [go_sem, simprocAttr]))
  refine sg_awp ?_
  have hf : cycF after (cntB after.length left) left = left := cyc_none (by rw [← hi]; exact no)
  have hr : cycE after = !decide (left = 0) := by rw [cycE, ← eq, hf]
  (refine rO ?_; repeat' ((with_reducible first | refine rG ?_ | (refine rS ?_ ?_ <;> intro hp) | (refine rB ?_ ?_ <;> intro hb <;> try rw [hb]) | refine rD ?_ | refine rA ?_ | fail) <;> try simp only [go_sem, simprocAttr, r0, r3, hr]))
  all_goals simp_all
end Go.VC
end
section
set_option maxRecDepth 100000
namespace Go.VC
open Go.RowKit Go.Proofs
section
variable {c : Cx} {σ : S} {β : Nat → Value} {a : Act} {w : World}
theorem anyI_sound {ρ : Option Nat} {n : Nat} {ops : Array Oper} {Q : Exit → Act → World → Prop} {D : List Deferred} (I : Array Bool → S → Prop) (hd : ∀ o ∈ ops.toList, ∀ d, o.dst = some d → d < c.N)
  (hfin : ∀ listed σ β a w, Sim c σ β a w → a.defers = D → Region.ready .any ops listed = [] → I listed σ → Q .normal a w)
  (hstep : ∀ listed σ i o, i ∈ Region.ready .any ops listed → ops[i]? = some o → I listed σ → opsA c.P c.gl ops [o] σ (I (listed.setIfInBounds i true))) :
  ∀ (fuel : Nat) (listed : Array Bool) {σ : S} {β : Nat → Value} {a : Act} {w : World} (U : List Nat), U.length ≤ fuel → (∀ i, listed.getD i true = false → i ∈ U) → Sim c σ β a w → a.defers = D → I listed σ → wpAnyIn (WF ρ) n c.P .any ops Q fuel listed a w
 | 0, listed, σ, β, a, w, U, hU, hin, h, hDf, hk => by
  have hr : Region.ready .any ops listed = [] := List.eq_nil_iff_forall_not_mem.2 fun i hi => by
   have := hin i (mem_ready.1 hi).1
   rw [List.eq_nil_of_length_eq_zero (Nat.le_zero.1 hU)] at this
   cases this
  exact ⟨hr, hfin _ σ β a w h hDf hr hk⟩
 | fuel + 1, listed, σ, β, a, w, U, hU, hin, h, hDf, hk => by
  refine ⟨fun hr => hfin _ σ β a w h hDf hr hk, fun i hi => ?_⟩
  obtain ⟨hun, o, ho, _⟩ := mem_ready.1 hi
  have hst := hstep listed σ i o hi ho hk
  have hdo := hd o (by rw [Array.mem_toList_iff]; exact Array.mem_of_getElem? ho)
  have hiU := hin i hun
  have hU' : (U.erase i).length ≤ fuel := by
   have := List.length_erase_of_mem hiU
   have := List.length_pos_of_mem hiU
   omega
  have hin' : ∀ k, (listed.setIfInBounds i true).getD k true = false → k ∈ U.erase i := fun k hk' => by
   by_cases e : i = k
   ·subst e
    rw [Array.getD_eq_getD_getElem?, Array.getElem?_setIfInBounds, if_pos rfl] at hk'
    split at hk' <;> simp at hk'
   ·rw [getD_set_ne true e] at hk'
    exact (List.mem_erase_of_ne fun e' => e e'.symm).2 (hin k hk')
  simp only [wpOpIn, ho]
  rw [opsA_cons] at hst
  split at hst
  ·rename_i hw
   rw [want_sound h hw, if_pos rfl]
   refine opA_sound h hdo hst ρ n _ Q ?_
   rintro v w' ⟨σ', β', hk', h'⟩
   exact anyI_sound I hd hfin hstep fuel _ _ hU' hin' h' (by cases o.dst <;> exact hDf) hk'
  ·rename_i hw
   rw [want_sound h hw, if_neg (by simp)]
   exact ⟨fun _ _ => trivial, anyI_sound I hd hfin hstep fuel _ _ hU' hin' (h.put hdo und_rel) (by cases o.dst <;> exact hDf) hst⟩
  ·exact hst.elim
end
def backO (l : List Oper) : Bool := (List.range l.length).all fun j => match l[j]? with
 | some o => o.after.all fun e => !Region.binds .any e || decide (e.on < j)
 | none => true
def depOn (o : Oper) (i : Nat) : Bool := o.after.any fun e => Region.binds .any e && e.on == i
theorem draw_I {P : Program} {gl : Nat → Option (List D)} {id : Nat} {l : List Oper} {Q : Ex → S → Prop} {σ : S} {X : Prop} (Base : S → Prop) (F : Nat → S → Prop) (hB : (Region.noSelect l.toArray && backO l) = true) (h0 : Base σ)
  (hstep : ∀ j o, l[j]? = some o → ∀ τ, Base τ → (∀ i, depOn o i = true → F i τ) → opsA P gl l.toArray [o] τ fun τ' => Base τ' ∧ F j τ' ∧ ∀ i, i < l.length → i ≠ j → F i τ → F i τ')
  (hfin : ∀ τ, Base τ → (∀ i, i < l.length → F i τ) → Q .normal τ) : drawK l.toArray X (SemCode P gl (.region id l.toArray true) Q σ) := by
 refine draw_sem fun c β a w ρ n hP hgl hm hdN _ hs => ?_
 subst hP; subst hgl
 simp only [Bool.and_eq_true] at hB
 have hdst : ∀ o ∈ l.toArray.toList, ∀ d, o.dst = some d → d < c.N := fun o ho d hod => by
  have := List.all_eq_true.1 hdN o ho
  rw [hod] at this
  simpa using this
 have hback : ∀ j o, l[j]? = some o → ∀ e ∈ o.after, Region.binds .any e = true → e.on < j := fun j o ho e he hb => by
  have h1 := List.all_eq_true.1 hB.2 j (List.mem_range.2 (List.getElem?_eq_some_iff.1 ho).1)
  simp only [ho, Array.all_eq_true', Bool.or_eq_true, Bool.not_eq_true', decide_eq_true_eq] at h1
  rcases h1 e he with h2 | h2
  ·rw [hb] at h2; cases h2
  ·exact h2
 have key : ∀ {b : Array Bool} {m : Nat}, b.getD m false = true → m < b.size := fun {b m} h => by
  rcases Nat.lt_or_ge m b.size with h' | h'
  ·exact h'
  ·simp [Array.getElem?_eq_none h'] at h
 refine wpIn_region_any hm (anyI_sound (D := a.defers) (fun listed τ => listed.size = l.length ∧ Base τ ∧ ∀ i, listed.getD i false = true → F i τ) hdst ?_ ?_ l.toArray.size _ (List.range l.length) (by simp) (fun i hi => ?_) (hs.drawn _) rfl ⟨by simp, h0, fun i hi => ?_⟩)
 ·rintro listed τ β' a' w' hs' hDf hr ⟨hsz, hb, hF⟩
  refine ⟨τ, β', hs', hfin τ hb fun i hi => hF i ?_⟩
  -- all are done
  have all : ∀ n i, i < n → i < l.length → listed.getD i false = true := by
   intro n
   induction n with
   | zero => intro i h; omega
   | succ n ih =>
    intro i hin hil
    cases hc : listed.getD i false with
    | true => rfl
    | false =>
     exfalso
     have hmem : i ∈ Region.ready .any l.toArray listed := mem_ready.2 ⟨by
      rw [Array.getD_eq_getD_getElem?] at hc ⊢
      rw [Array.getElem?_eq_getElem (by omega)] at hc ⊢
      simpa using hc, l[i], by simp [hil], fun e he hb => by
      have := hback i l[i] (List.getElem?_eq_getElem hil) e he hb
      exact ih _ (by omega) (by omega)⟩
     rw [hr] at hmem; cases hmem
  exact all (i + 1) i (by omega) hi
 ·rintro listed τ i o hi ho ⟨hsz, hb, hF⟩
  obtain ⟨hun, o', ho', hall⟩ := mem_ready.1 hi
  rw [ho] at ho'; cases ho'
  have ho2 : l[i]? = some o := by simpa using ho
  refine opsA_mono (fun τ' h => ?_) [o] (hstep i o ho2 τ hb fun k hk => by
   unfold depOn at hk
   rw [Array.any_eq_true'] at hk
   obtain ⟨e, he, h2⟩ := hk
   simp only [Bool.and_eq_true, beq_iff_eq] at h2
   rw [← h2.2]
   exact hF _ (hall e he h2.1))
  obtain ⟨hb', hFi, hrest⟩ := h
  refine ⟨by simp [hsz], hb', fun k hk => ?_⟩
  by_cases e : i = k
  ·subst e; exact hFi
  ·rw [getD_set_ne false e] at hk
   exact hrest k (by have := key hk; omega) (fun e' => e e'.symm) (hF k hk)
 ·rw [Array.getD_eq_getD_getElem?] at hi
  rw [List.mem_range]
  rcases Nat.lt_or_ge i l.length with h | h
  ·exact h
  ·rw [Array.getElem?_eq_none (by simpa using h)] at hi; cases hi
 ·rw [Array.getD_eq_getD_getElem?, Array.getElem?_replicate] at hi
  split at hi <;> simp at hi
end Go.VC
end
section
set_option maxRecDepth 100000
namespace Go.VC
open Go.RowKit Go.Proofs Go.IntWalk
theorem t134 (r : List Nat) (f : FuncId) (c : D) (p : Nat → Bool) (hr : r.length ≤ 1000) (hf : ∀ e ∈ r, Holds Tryz.prog GL f [U e, .d c] [.a (B (p e))]) : Holds Tryz.prog GL 150 [unsA r, .d (.fn f [c])] [.a (I (idxOf p r))] := by
 refine fn_holds (vs := [.tmp 4]) (by kernel_rfl) Tryz.func150 rfl rfl (by kernel_rfl) (by kernel_rfl) rfl ?_
 simp only [go_sem, simprocAttr, List.length_map]
 refine awp_loopA (fun k : Nat => [(0, .a (unsA r)), (1, .a (.d (.fn f [c]))), (7, .a (I r.length)), (8, .a (I k))]) (fun _ => []) (fun k => k ≤ r.length ∧ noneTo p r k) (r.length - ·) 0 ?_ ?_ ⟨Nat.zero_le _, noneTo_0⟩ ?_
 ·simp only [go_sem, simprocAttr]
 ·simp only [go_sem, simprocAttr]
 intro k j ⟨hk, hl⟩
 (refine rO ?_; repeat' ((with_reducible first | refine rG ?_ | (refine rS ?_ ?_ <;> intro hp) | (refine rB ?_ ?_ <;> intro hb <;> try rw [hb]) | refine rD ?_ | refine rA ?_ | fail) <;> try simp only [go_sem, simprocAttr]))
 ·have hkl : k < r.length := by omega
  have hx : r[k]? = some r[k] := List.getElem?_eq_getElem hkl
  have hw := wrap_succ (n := r.length) hkl (by simp only [maxLen]; omega)
  (refine rO ?_; repeat' ((with_reducible first | refine rG ?_ | (refine rS ?_ ?_ <;> intro hp) | (refine rB ?_ ?_ <;> intro hb <;> try rw [hb]) | refine rD ?_ | refine rA ?_ | fail) <;> try simp only [go_sem, simprocAttr, hx, uenc_eq, hw]))
  refine call_dat (hf r[k] (List.getElem_mem hkl)) ?_
  (refine rO ?_; repeat' ((with_reducible first | refine rG ?_ | (refine rS ?_ ?_ <;> intro hp) | (refine rB ?_ ?_ <;> intro hb <;> try rw [hb]) | refine rD ?_ | refine rA ?_ | fail) <;> try simp only [go_sem, simprocAttr, hx, uenc_eq, hw]))
  ·exact (idx_hit hkl hl hb).symm
  ·(refine ⟨k + 1, ?_, ?_, ⟨hkl, noneTo_s hkl hl hb⟩, by dsimp only; omega⟩ <;> simp only [go_sem, simprocAttr])
 ·exact (idx_none (by omega) hl).symm
theorem t114 (r : List Nat) (f : FuncId) (c : D) (p : Nat → Bool) (hr : r.length ≤ 1000) (hf : ∀ e ∈ r, Holds Tryz.prog GL f [U e, .d c] [.a (B (p e))]) : Holds Tryz.prog GL 131 [unsA r, .d (.fn f [c])] [.a (B (r.any p))] := by
 refine fn_holds (vs := [.tmp 4]) (by kernel_rfl) Tryz.func131 rfl rfl (by kernel_rfl) (by kernel_rfl) rfl ?_
 rw [← idx_ge]
 (refine rO ?_; repeat' ((with_reducible first | refine rG ?_ | (refine rS ?_ ?_ <;> intro hp) | (refine rB ?_ ?_ <;> intro hb <;> try rw [hb]) | refine rD ?_ | refine rA ?_ | fail) <;> try simp only [go_sem, simprocAttr]))
 refine call_dat (t134 r f c p hr hf) ?_
 (refine rO ?_; repeat' ((with_reducible first | refine rG ?_ | (refine rS ?_ ?_ <;> intro hp) | (refine rB ?_ ?_ <;> intro hb <;> try rw [hb]) | refine rD ?_ | refine rA ?_ | fail) <;> try simp only [go_sem, simprocAttr]))
 all_goals simp_all
theorem t113 (after : List Nat) (b : Nat) (hl : after.length ≤ 6) : Holds Tryz.prog GL 130 [U b, .d (.pt [.sl (after.map uenc)])] [.a (B (oddA after b))] := by
 refine fn_holds (vs := [.tmp 3]) (by kernel_rfl) Tryz.func130 rfl rfl (by kernel_rfl) (by kernel_rfl) rfl ?_
 have s := u32_shr (b := b) (k := after.length) (by omega)
 have e : oddA after b = !decide (b / 2 ^ after.length = 0) := rfl
 (refine rO ?_; repeat' ((with_reducible first | refine rG ?_ | (refine rS ?_ ?_ <;> intro hp) | (refine rB ?_ ?_ <;> intro hb <;> try rw [hb]) | refine rD ?_ | refine rA ?_ | fail) <;> try simp only [go_sem, simprocAttr, List.length_map, s]))
 ·rw [e, decide_eq_true (show b / 2 ^ after.length = 0 by omega)]; rfl
 ·rw [e, decide_eq_false (show ¬ b / 2 ^ after.length = 0 by omega)]; rfl
theorem t86 (after : List Nat) (hl : after.length ≤ 6) (ha : ∀ b ∈ after, b < 2 ^ 32) : Holds Tryz.prog GL 110 [unsA after] [.a (I (mayX after))] := by
 refine fn_holds (vs := [.tmp 2]) (by kernel_rfl) Tryz.func110 rfl rfl (by kernel_rfl) (by kernel_rfl) rfl ?_
 have h113 := t114 after 130 (.pt [.sl (after.map uenc)]) (oddA after) (by omega) (fun b _ => t113 after b hl)
 have h115 := t115 after hl ha
 have e : mayX after = if after.length > 6 ∨ after.any (oddA after) = true then 1 else if cycE after = true then 8 else 0 := rfl
 have n6 : ¬ (6 : Int) < (after.length : Int) := by omega
 have n6' : ¬ after.length > 6 := by omega
 (refine rO ?_; repeat' ((with_reducible first | refine rG ?_ | (refine rS ?_ ?_ <;> intro hp) | (refine rB ?_ ?_ <;> intro hb <;> try rw [hb]) | refine rD ?_ | refine rA ?_ | fail) <;> try simp only [go_sem, simprocAttr, List.length_map, n6]))
 refine call_dat h113 ?_
 cases h1 : after.any (oddA after) with
 | true =>
  rw [if_pos (.inr h1)] at e
  rw [e]
  (refine rO ?_; repeat' ((with_reducible first | refine rG ?_ | (refine rS ?_ ?_ <;> intro hp) | (refine rB ?_ ?_ <;> intro hb <;> try rw [hb]) | refine rD ?_ | refine rA ?_ | fail) <;> try simp only [go_sem, simprocAttr]))
 | false =>
  (refine rO ?_; repeat' ((with_reducible first | refine rG ?_ | (refine rS ?_ ?_ <;> intro hp) | (refine rB ?_ ?_ <;> intro hb <;> try rw [hb]) | refine rD ?_ | refine rA ?_ | fail) <;> try simp only [go_sem, simprocAttr]))
  refine call_dat h115 ?_
  cases h2 : cycE after with
  | true =>
   rw [if_neg (by simp [h1, n6']), if_pos h2] at e
   rw [e]
   (refine rO ?_; repeat' ((with_reducible first | refine rG ?_ | (refine rS ?_ ?_ <;> intro hp) | (refine rB ?_ ?_ <;> intro hb <;> try rw [hb]) | refine rD ?_ | refine rA ?_ | fail) <;> try simp only [go_sem, simprocAttr]))
  | false =>
   rw [if_neg (by simp [h1, n6']), if_neg (by simp [h2])] at e
   rw [e]
   (refine rO ?_; repeat' ((with_reducible first | refine rG ?_ | (refine rS ?_ ?_ <;> intro hp) | (refine rB ?_ ?_ <;> intro hb <;> try rw [hb]) | refine rD ?_ | refine rA ?_ | fail) <;> try simp only [go_sem, simprocAttr]))
theorem t137 (r : List Int) (hr : r.length ≤ 1000000) : Holds Tryz.prog GL 153 [intsA r] [.fresh 3 1 (r.map ienc)] := by
 refine fn_holds (vs := [.tmp 2]) (by kernel_rfl) Tryz.func153 rfl rfl (by kernel_rfl) (by kernel_rfl) rfl ?_
 have h0 : (0 + (r.map ienc).length) * 8 ≤ 140737488355328 := by simp; omega
 (refine rO ?_; repeat' ((with_reducible first | refine rG ?_ | (refine rS ?_ ?_ <;> intro hp) | (refine rB ?_ ?_ <;> intro hb <;> try rw [hb]) | refine rD ?_) <;> try simp only [go_sem, simprocAttr]))
 refine sem_nil (.inl ⟨rfl, rfl⟩) (e := 3) (by kernel_rfl) (xs := r.map ienc) (by simp only [go_sem, simprocAttr]; rfl) (fun hne => ?_) (fun he b => ?_)
 ·(refine rO ?_; repeat' ((with_reducible first | refine rG ?_ | (refine rS ?_ ?_ <;> intro hp) | (refine rB ?_ ?_ <;> intro hb <;> try rw [hb]) | refine rD ?_) <;> try simp only [go_sem, simprocAttr, h0]))
 ·cases b
  ·(refine rO ?_; repeat' ((with_reducible first | refine rG ?_ | (refine rS ?_ ?_ <;> intro hp) | (refine rB ?_ ?_ <;> intro hb <;> try rw [hb]) | refine rD ?_) <;> try simp only [go_sem, simprocAttr, h0]))
  ·rw [he]
   (refine rO ?_; repeat' ((with_reducible first | refine rG ?_ | (refine rS ?_ ?_ <;> intro hp) | (refine rB ?_ ?_ <;> intro hb <;> try rw [hb]) | refine rD ?_) <;> try simp only [go_sem, simprocAttr]))
theorem t116 (after : List Nat) (row : List Int) (left : Nat) : Holds Tryz.prog GL 134 [unsA after, intsA row, U left] [.a (.d (.fn 152 [.pt [.v (.int .u32 left)], .pt [.sl (row.map ienc)], .pt [.sl (after.map uenc)]]))] := by
 refine fn_holds (vs := [.tmp 6]) (by kernel_rfl) Tryz.func134 rfl rfl (by kernel_rfl) (by kernel_rfl) rfl ?_
 (refine rO ?_; repeat' ((with_reducible first | refine rG ?_ | (refine rS ?_ ?_ <;> intro hp) | (refine rB ?_ ?_ <;> intro hb <;> try rw [hb]) | refine rD ?_ | refine rA ?_ | fail) <;> try simp only [go_sem, simprocAttr, y_assign_nf]))
theorem t87 (after : List Nat) (hl : after.length ≤ 6) : Holds Tryz.prog GL 112 [unsA after] [.a (.d (.fn 152 [.pt [.v (.int .u32 (2 ^ after.length - 1 : Nat))], .pt [.sl []], .pt [.sl (after.map uenc)]]))] := by
 refine fn_holds (vs := [.tmp 2]) (by kernel_rfl) Tryz.func112 rfl rfl (by kernel_rfl) (by kernel_rfl) rfl ?_
 have hm := u32_mask1 (m := after.length) (by omega)
 have h116 := t116 after [] (2 ^ after.length - 1)
 (refine rO ?_; repeat' ((with_reducible first | refine rG ?_ | (refine rS ?_ ?_ <;> intro hp) | (refine rB ?_ ?_ <;> intro hb <;> try rw [hb]) | refine rD ?_ | refine rA ?_ | fail) <;> try simp only [go_sem, simprocAttr, y_assign_nf, List.length_map, u32_shl (k := after.length) (by omega), hm]))
 refine call_rest _ h116 ?_
 simp only [go_sem, simprocAttr, List.length_map, u32_shl (k := after.length) (by omega), hm]
 rfl
end Go.VC
end
section
set_option maxRecDepth 100000
namespace Go.VC
open Go.RowKit Go.Proofs Go.IntWalk
theorem leftF_ud {B : Nat} (hB : B ≤ 999000000) (σ : S) : LeftF B σ σ.ud := ⟨fun ht hr => by rw [ud_r, ht]; exact hr.1, fun {o x} h1 h2 h3 h4 => by rw [ud_m (decide_eq_true (by have := of_decide_eq_true h2; omega)), h3]; exact congrArg some h4.1⟩
theorem g_box {σ : S} {o : Nat} {cs : List R} {ds : List D} (ho : o < 1000000000) (hm : σ.mem o = some (.box cs)) (h1 : allD cs = some ds) : Ghost σ (σ.frz o fun k => .pt (ds.drop k)) := fun c β a w h => by
 obtain ⟨b, arr, e, hb, hh, hf⟩ := h.obj _ _ hm
 have hds := allD_inv h1
 have hx : ∀ st, (∀ b, stF c σ β w b → st b) → (∀ b, ownB (β o) = some b → st b) → ∀ k b', β o = .pointer (some ⟨b', 0, none⟩) → Rd st w (.pointer (some ⟨b', k, none⟩)) (.pt (ds.drop k)) := fun st h1 h2 k b' hb' => by
  rw [hb] at hb'; cases hb'
  refine Rd.mk_pt (h2 b (by rw [hb]; rfl)) hh fun j d hj => ?_
  rw [List.getElem?_drop] at hj
  obtain ⟨u, hu, _, hr⟩ := hf.get (show cs[k + j]? = some (.a (.d d)) by rw [hds]; simp [hj])
  exact ⟨u, by simpa using hu, hr.inv_d.mono fun b hb => ⟨h1 b hb, rfl⟩⟩
 have hz := h.frz (f := fun k => .pt (ds.drop k)) hm (fun st h1 h2 => .inr ⟨b, hb⟩) hx ho (fun b' hb' => by rw [hb] at hb'; cases hb'; exact nd_cells hh)
 exact ⟨β, hz.1⟩
section
variable {σ : S} {vs : List Value} {p t o : Nat}
theorem rf_r : (σ.rndF vs p).regs t = upd (killR 999996 σ.regs) p (.own 999995) t := rfl
theorem rf_m : (σ.rndF vs p).mem o = (σ.newOb 999996 (.frame vs (killR 999996 σ.regs))).mem o := rfl
theorem ag2 {T us : List Value} {rs : Nat → R} {L2 : Nat} {r2 : Loop} {τ : S} : S.again2 T us rs L2 r2 τ σ = ((S.again T τ σ).newOb 999997 (.sem (recOb L2 r2))).newOb 999996 (.frame us fun t => (rs t).pur) := rfl
theorem pu_own : R.pur (.own o) = .any := rfl
theorem mv_frame {a b : Nat} {rs : Nat → R} : Ob.mv a b (.frame vs rs) = .frame vs fun t => (rs t).mv a b := rfl
theorem mv_rec {a b L : Nat} {r : Loop} : Ob.mv a b (.sem (recOb L r)) = .sem (recOb L r) := rfl
end
def PFF := And.intro @rf_r <| And.intro @rf_m <| And.intro @ag2 <| And.intro @pu_own <| And.intro @mv_rec <| @mv_frame
attribute [go_sem] PFF
theorem tiY : tinf Tryz.prog 208 = some ⟨1, 8, false, [.nilFunc]⟩ := by kernel_rfl
theorem tiZ (pos : String) : isXL Tryz.prog 208 pos = false := rfl
def rowsF (after : List Nat) : Nat → List Nat → Nat → List (List Nat)
 | 0, row, _ => [row]
 | f + 1, row, left => if left = 0 then [row] else (List.range after.length).flatMap fun q => if extS after left q = true then rowsF after f (row ++ [q]) (andN left (2 ^ q)) else []
def partF (after : List Nat) (f : Nat) (row : List Nat) (left k : Nat) : List (List Nat) := (List.range k).flatMap fun q => if extS after left q = true then rowsF after f (row ++ [q]) (andN left (2 ^ q)) else []
theorem rowsF_0 {after : List Nat} {row : List Nat} : ∀ f, rowsF after f row 0 = [row]
 | 0 => rfl
 | f + 1 => by rw [rowsF, if_pos rfl]
theorem rowsF_s {after : List Nat} {f : Nat} {row : List Nat} {left : Nat} (h : left ≠ 0) : rowsF after (f + 1) row left = partF after f row left after.length := by rw [rowsF, if_neg h]; rfl
theorem partF_s {after : List Nat} {f : Nat} {row : List Nat} {left k : Nat} : partF after f row left (k + 1) = partF after f row left k ++ if extS after left k = true then rowsF after f (row ++ [k]) (andN left (2 ^ k)) else [] := by
 simp [partF, List.range_succ, List.flatMap_append]
theorem part_at {after : List Nat} {f : Nat} {row : List Nat} {left k i : Nat} {x : List Nat} (hk : k < after.length) (he : extS after left k = true) (hx : (rowsF after f (row ++ [k]) (andN left (2 ^ k)))[i]? = some x) : (partF after f row left after.length)[(partF after f row left k).length + i]? = some x := by
 have : ∀ n, k < n → ∃ R, partF after f row left n = partF after f row left k ++ (rowsF after f (row ++ [k]) (andN left (2 ^ k)) ++ R) := by
  intro n
  induction n with
  | zero => intro h; omega
  | succ n ih =>
   intro h
   by_cases e : k = n
   ·subst e; exact ⟨[], by rw [partF_s, if_pos he, List.append_nil]⟩
   ·obtain ⟨R, hR⟩ := ih (by omega)
    exact ⟨R ++ if extS after left n = true then rowsF after f (row ++ [n]) (andN left (2 ^ n)) else [], by rw [partF_s, hR]; simp only [List.append_assoc]⟩
 obtain ⟨R, hR⟩ := this _ hk
 have hi := (List.getElem?_eq_some_iff.1 hx).1
 rw [hR, List.getElem?_append_right (by omega), Nat.add_sub_cancel_left, List.getElem?_append_left hi]
 exact hx
def rowsC (l : List (List Nat)) : List (List (List D)) := l.map fun r => (rowI r).map ienc
theorem rowsC_len (l : List (List Nat)) : (rowsC l).length = l.length := by simp [rowsC]
theorem rowsC_at {l : List (List Nat)} {i : Nat} {x : List (List D)} (h : (rowsC l)[i]? = some x) : ∃ r, l[i]? = some r ∧ x = (rowI r).map ienc := by
 rw [rowsC, List.getElem?_map] at h
 obtain ⟨r, hr, rfl⟩ := Option.map_eq_some_iff.1 h
 exact ⟨r, hr, rfl⟩
theorem rowsC_of {l : List (List Nat)} {i : Nat} {r : List Nat} (h : l[i]? = some r) : (rowsC l)[i]? = some ((rowI r).map ienc) := by rw [rowsC, List.getElem?_map, h]; rfl
def BdE (f : Nat) : Nat := 900000000 - f * 1000000
abbrev capE (after : List Nat) (row : List Nat) (left : Nat) : List D := [.pt [.v (.int .u32 left)], .pt [.sl ((rowI row).map ienc)], .pt [.sl (after.map uenc)]]
structure ItR (L : Nat) (after : List Nat) (row : List Nat) (left k : Nat) (τ : S) : Prop where
 r1 : τ.regs 1 = .a (.d (.pt [.v (.int .u32 left)]))
 r2 : τ.regs 2 = .a (.d (.pt [.sl ((rowI row).map ienc)]))
 r3 : τ.regs 3 = .a (.d (.pt [.sl (after.map uenc)]))
 r4 : τ.regs 4 = .a (.d (.pt [.v (yieldV L)]))
 r14 : τ.regs 14 = .a (I after.length)
 r15 : τ.regs 15 = .a (I k)
structure ItI (L : Nat) (T : List Value) (after : List Nat) (row : List Nat) (left f : Nat) (Inv : Nat → S → Prop) (k : Nat) (τ : S) : Prop where
 le : k ≤ after.length
 rr : ItR L after row left k τ
 kp : ∃ σ0, KeepsF (BdE (f + 1)) T σ0 τ ∧ Inv (partF after f row left k).length σ0
def FitE : List (List Nat) := [[0], []]
theorem ItR.put {L : Nat} {after row : List Nat} {left k : Nat} {τ : S} {d : Nat} {r : R} (h : ItR L after row left k τ) (hd : (d == 1 || d == 2 || d == 3 || d == 4 || d == 14 || d == 15) = false) : ItR L after row left k (τ.put (some d) r) := by
 simp only [Bool.or_eq_false_iff] at hd
 obtain ⟨⟨⟨⟨⟨h1, h2⟩, h3⟩, h4⟩, h5⟩, h6⟩ := hd
 exact ⟨by simp only [go_sem, simprocAttr, h1, h.r1], by simp only [go_sem, simprocAttr, h2, h.r2], by simp only [go_sem, simprocAttr, h3, h.r3], by simp only [go_sem, simprocAttr, h4, h.r4], by simp only [go_sem, simprocAttr, h5, h.r14], by simp only [go_sem, simprocAttr, h6, h.r15]⟩
theorem yield_row {P : Program} {gl : Nat → Option (List D)} {B L k q sz : Nat} {T : Array Value} {dst : Option Tmp} {y z : Tmp} {ts : Array TypeId} {ty : TypeId} {pos : String} {after : Array Edge} {g : Option (Nat × Bool)} {σ0 τ : S} {K : S → Prop} {e : TypeId} {x : List (List D)} {xs : List (List (List D))} {Inv : Nat → S → Prop} {Done : S → Prop}
  (hB : B ≤ 999000000) (hq : decide (q < 999999) = true) (hkp : KeepsF B T.toList σ0 τ) (hy : τ.regs y = .a (.d (.v (yieldV L)))) (hz : τ.regs z = .own q) (hm : τ.mem q = some (.log e sz x)) (hx : xs[k]? = some x) (hInv : Inv k σ0) (hI : ∀ i σ σ', LeftF B σ σ' → Inv i σ → Inv i σ')
  (hY : ∀ i x σ, xs[i]? = some x → Inv i σ → σ.mem 999995 = some (.log e sz x) → YieldF P gl L T σ (Inv (i + 1)) Done)
  (hA : ∀ σ', Inv (k + 1) σ' → K ((S.again T.toList (τ.mv q (upId 999995)) σ').put dst (.a (.d (.v (.bool true)))))) (hD : ∀ σ', Done σ' → K ((S.again T.toList (τ.mv q (upId 999995)) σ').put dst (.a (.d (.v (.bool false)))))) :
  SemOp P gl ⟨dst, .call ⟨.value (.tmp y), #[.tmp z], ts⟩, ty, pos, after, g⟩ τ K := by
 have hq0 := of_decide_eq_true hq
 have hq1 : decide (q < 1000000) = true := decide_eq_true (by omega)
 have hqu : (q == upId 999995) = false := beq_up hq1
 refine SemOp.ghost (g_mv (a := q) (b := upId 999995) (by omega) (by have := upId_le 999995; omega)) (yield_semF (L := L) (T := T) (A' := Inv (k + 1)) (B' := Done) ?_ ?_ ?_ (hY k x _ hx (hI _ _ _ (hkp.leave_mv hB hq) hInv) ?_) hA hD)
 ·show (τ.regs y).mv q (upId 999995) = _
  rw [hy]; rfl
 ·show (τ.regs z).mv q (upId 999995) = _
  rw [hz]; exact mv_own hqu
 ·rw [mv_mo (beq_up rfl) (by simp; omega), hkp.fr]; rfl
 ·rw [lv_m rfl, mv_mb, hm]; rfl
theorem yield_row2 {P : Program} {gl : Nat → Option (List D)} {B L k sz L2 : Nat} {T : Array Value} {dst : Option Tmp} {y z : Tmp} {ts : Array TypeId} {ty : TypeId} {pos : String} {after : Array Edge} {g : Option (Nat × Bool)} {σ0 τ : S} {K : S → Prop} {e : TypeId} {x : List (List D)} {xs : List (List (List D))} {Inv : Nat → S → Prop} {Done : S → Prop} {vs : List Value} {rs2 : Nat → R} {r2 : Loop}
  (hB : B ≤ 999000000) (hkp : KeepsF B T.toList σ0 τ) (hy : τ.regs y = .a (.d (.v (yieldV L)))) (hz : τ.regs z = .own 999995) (hm : τ.mem 999995 = some (.log e sz x)) (h6 : τ.mem 999996 = some (.frame vs rs2)) (h7 : τ.mem 999997 = some (.sem (recOb L2 r2))) (hx : xs[k]? = some x) (hInv : Inv k σ0) (hI : ∀ i σ σ', LeftF B σ σ' → Inv i σ → Inv i σ')
  (hY : ∀ i x σ, xs[i]? = some x → Inv i σ → σ.mem 999995 = some (.log e sz x) → YieldF P gl L T σ (Inv (i + 1)) Done)
  (hA : ∀ σ', Inv (k + 1) σ' → K ((S.again2 T.toList vs (fun t => (rs2 t).mv 999995 (upId 999995)) L2 r2 (τ.mv 999995 (upId 999995)) σ').put dst (.a (.d (.v (.bool true)))))) (hD : ∀ σ', Done σ' → K ((S.again2 T.toList vs (fun t => (rs2 t).mv 999995 (upId 999995)) L2 r2 (τ.mv 999995 (upId 999995)) σ').put dst (.a (.d (.v (.bool false)))))) :
  SemOp P gl ⟨dst, .call ⟨.value (.tmp y), #[.tmp z], ts⟩, ty, pos, after, g⟩ τ K := by
 have hqu : (999995 == upId 999995) = false := beq_up rfl
 refine SemOp.ghost (g_mv (a := 999995) (b := upId 999995) (by omega) (by have := upId_le 999995; omega)) (yield_semF2 (L := L) (T := T) (A' := Inv (k + 1)) (B' := Done) (vs := vs) (rs2 := fun t => (rs2 t).mv 999995 (upId 999995)) (L2 := L2) (r2 := r2) ?_ ?_ ?_ ?_ ?_ (hY k x _ hx (hI _ _ _ (hkp.leave_mv hB rfl) hInv) ?_) hA hD)
 ·show (τ.regs y).mv 999995 (upId 999995) = _
  rw [hy]; rfl
 ·show (τ.regs z).mv 999995 (upId 999995) = _
  rw [hz]; exact mv_own hqu
 ·rw [mv_mo (beq_up rfl) rfl, hkp.fr]; rfl
 ·rw [mv_mo (beq_up rfl) rfl, h6]; rfl
 ·rw [mv_mo (beq_up rfl) rfl, h7]; rfl
 ·rw [lv_m rfl, mv_mb, hm]; rfl
theorem KeepsF.again2 {B : Nat} {T vs : List Value} {rs : Nat → R} {L2 : Nat} {r2 : Loop} {τ σ : S} (hB : B ≤ 999000000) : KeepsF B T σ (S.again2 T vs rs L2 r2 τ σ) := ((KeepsF.again hB).new rfl).new rfl
structure RB (L : Nat) (T : List Value) (after row : List Nat) (left k B : Nat) (σ0 τ : S) : Prop where
 rr : ItR L after row left k τ
 r5 : τ.regs 5 = .a (I k)
 kp : KeepsF B T σ0 τ
def GX (after row : List Nat) (left k : Nat) : Nat → R → (Nat → Option Ob) → Prop
 | 0, r, _ => r = .a (unsA after)
 | 1, r, _ => r = .a (intsA (rowI row))
 | 2, r, _ => r = .cs ((rowI row).map ienc)
 | 3, r, _ => r = .a (I k)
 | 4, r, m => r = .own 34 ∧ m 34 = some (.log 3 1 [ienc k])
 | 5, r, m => (r = .own 35 ∧ m 35 = some (.log 3 1 ((rowI (row ++ [k])).map ienc))) ∨ r = .a (intsA (rowI (row ++ [k])))
 | 6, r, _ => r = .a (U left)
 | 7, r, _ => r = .a (I k)
 | 8, r, _ => r = .a (U (2 ^ k : Nat))
 | 9, r, _ => r = .a (U (andN left (2 ^ k)))
 | 10, r, _ => r = .a (.d (.fn 152 (capE after (row ++ [k]) (andN left (2 ^ k)))))
 | _, _, _ => True
def PostX (L : Nat) (T : List Value) (after row : List Nat) (left k B : Nat) (σ0 : S) (j : Nat) (τ τ' : S) : Prop :=
 RB L T after row left k B σ0 τ' ∧ GX after row left k j (τ'.regs (30 + j)) τ'.mem ∧ ∀ i, i < 11 → i ≠ j → GX after row left k i (τ.regs (30 + i)) τ.mem → GX after row left k i (τ'.regs (30 + i)) τ'.mem
section
variable {L : Nat} {T : List Value} {after row : List Nat} {left k B : Nat} {σ0 τ : S}
theorem RB.put {j : Nat} {r : R} (h : RB L T after row left k B σ0 τ) : RB L T after row left k B σ0 (τ.put (some (30 + j)) r) := by
 have e : ∀ t, t < 30 → (τ.put (some (30 + j)) r).regs t = τ.regs t := fun t ht => by
  simp only [S.put, upd]; rw [if_neg (by omega)]
 exact ⟨⟨(e 1 (by omega)).trans h.rr.r1, (e 2 (by omega)).trans h.rr.r2, (e 3 (by omega)).trans h.rr.r3, (e 4 (by omega)).trans h.rr.r4, (e 14 (by omega)).trans h.rr.r14, (e 15 (by omega)).trans h.rr.r15⟩, (e 5 (by omega)).trans h.r5, h.kp.put⟩
theorem RB.new {d : Nat} {x : Ob} (hd : decide (d < 999999) = true) (h : RB L T after row left k B σ0 τ) : RB L T after row left k B σ0 (τ.newOb d x) := by
 have e : ∀ t y, τ.regs t = .a y → (τ.newOb d x).regs t = .a y := fun t y ht => by
  show (τ.regs t).kill d = _
  rw [ht]; rfl
 exact ⟨⟨e _ _ h.rr.r1, e _ _ h.rr.r2, e _ _ h.rr.r3, e _ _ h.rr.r4, e _ _ h.rr.r14, e _ _ h.rr.r15⟩, e _ _ h.r5, h.kp.new hd⟩
theorem RB.frz {d : Nat} {f : Nat → D} (hd : decide (d < 999999) = true) (h : RB L T after row left k B σ0 τ) : RB L T after row left k B σ0 (τ.frz d f) := by
 have e : ∀ t y, τ.regs t = .a y → (τ.frz d f).regs t = .a y := fun t y ht => by
  show (τ.regs t).frz d f = _
  rw [ht]; rfl
 exact ⟨⟨e _ _ h.rr.r1, e _ _ h.rr.r2, e _ _ h.rr.r3, e _ _ h.rr.r4, e _ _ h.rr.r14, e _ _ h.rr.r15⟩, e _ _ h.r5, h.kp.frz hd⟩
theorem put_at {j i : Nat} {r : R} : (τ.put (some (30 + j)) r).regs (30 + i) = if i = j then r else τ.regs (30 + i) := by
 simp only [S.put, upd]
 by_cases h : i = j
 ·subst h; simp
 ·rw [if_neg (by omega), if_neg h]
theorem postX_put {j : Nat} {r : R} (h : RB L T after row left k B σ0 τ) (hr : GX after row left k j r τ.mem) : PostX L T after row left k B σ0 j τ (τ.put (some (30 + j)) r) :=
 ⟨h.put, by rw [put_at, if_pos rfl]; exact hr, fun i _ hne hi => by rw [put_at, if_neg hne]; exact hi⟩
theorem GX_new {d i : Nat} {x : Ob} {r : R} {m : Nat → Option Ob} (hd : (d = 34 ∧ i ≠ 4) ∨ (d = 35 ∧ i ≠ 5)) (hi : i < 11) (h : GX after row left k i r m) : GX after row left k i (r.kill d) (fun o => if o = d then some x else (m o).map (Ob.kill d)) := by
 match i, hi, h with
 | 0, _, h => unfold GX at h ⊢; rw [h]; rfl
 | 1, _, h => unfold GX at h ⊢; rw [h]; rfl
 | 2, _, h => unfold GX at h ⊢; rw [h]; rfl
 | 3, _, h => unfold GX at h ⊢; rw [h]; rfl
 | 4, _, h =>
  obtain ⟨h1, h2⟩ := h
  rcases hd with ⟨_, h⟩ | ⟨rfl, _⟩
  ·exact absurd rfl h
  ·exact ⟨by rw [h1]; rfl, by simp [h2, Ob.kill]⟩
 | 5, _, h =>
  rcases hd with ⟨rfl, _⟩ | ⟨_, h⟩
  ·rcases h with ⟨h1, h2⟩ | h
   ·exact .inl ⟨by rw [h1]; rfl, by simp [h2, Ob.kill]⟩
   ·exact .inr (by rw [h]; rfl)
  ·exact absurd rfl h
 | 6, _, h => unfold GX at h ⊢; rw [h]; rfl
 | 7, _, h => unfold GX at h ⊢; rw [h]; rfl
 | 8, _, h => unfold GX at h ⊢; rw [h]; rfl
 | 9, _, h => unfold GX at h ⊢; rw [h]; rfl
 | 10, _, h => unfold GX at h ⊢; rw [h]; rfl
theorem postX_new {j : Nat} {x : Ob} (hj : j = 4 ∨ j = 5) (h : RB L T after row left k B σ0 τ) (hr : GX after row left k j (.own (30 + j)) (fun o => if o = 30 + j then some x else (τ.mem o).map (Ob.kill (30 + j)))) : PostX L T after row left k B σ0 j τ ((τ.newOb (30 + j) x).put (some (30 + j)) (.own (30 + j))) := by
 refine ⟨(h.new (decide_eq_true (by omega))).put, ?_, fun i hi hne hg => ?_⟩
 ·rw [put_at, if_pos rfl]; exact hr
 ·rw [put_at, if_neg hne]
  exact GX_new (d := 30 + j) (by omega) hi hg
theorem GX_frz {i : Nat} {r : R} {m : Nat → Option Ob} (hi : i < 11) (h : GX after row left k i r m) : GX after row left k i (r.frz 35 fun _ => .sl ((rowI (row ++ [k])).map ienc)) (fun o => if o = 35 then none else (m o).map (Ob.frz 35 fun _ => .sl ((rowI (row ++ [k])).map ienc))) := by
 match i, hi, h with
 | 0, _, h => unfold GX at h ⊢; rw [h]; rfl
 | 1, _, h => unfold GX at h ⊢; rw [h]; rfl
 | 2, _, h => unfold GX at h ⊢; rw [h]; rfl
 | 3, _, h => unfold GX at h ⊢; rw [h]; rfl
 | 4, _, h =>
  obtain ⟨h1, h2⟩ := h
  exact ⟨by rw [h1]; rfl, by simp [h2, Ob.frz]⟩
 | 5, _, h =>
  rcases h with ⟨h1, h2⟩ | h
  ·exact .inr (by rw [h1]; rfl)
  ·exact .inr (by rw [h]; rfl)
 | 6, _, h => unfold GX at h ⊢; rw [h]; rfl
 | 7, _, h => unfold GX at h ⊢; rw [h]; rfl
 | 8, _, h => unfold GX at h ⊢; rw [h]; rfl
 | 9, _, h => unfold GX at h ⊢; rw [h]; rfl
 | 10, _, h => unfold GX at h ⊢; rw [h]; rfl
theorem postX_frz {r : R} (h : RB L T after row left k B σ0 τ) (hr : r = .a (.d (.fn 152 (capE after (row ++ [k]) (andN left (2 ^ k)))))) : PostX L T after row left k B σ0 10 τ ((τ.frz 35 fun _ => .sl ((rowI (row ++ [k])).map ienc)).put (some 40) r) := by
 refine ⟨(h.frz rfl).put (j := 10), ?_, fun i hi hne hg => ?_⟩
 ·rw [show (some 40 : Option Nat) = some (30 + 10) from rfl, put_at, if_pos rfl]; exact hr
 ·rw [show (some 40 : Option Nat) = some (30 + 10) from rfl, put_at, if_neg hne]
  exact GX_frz hi hg
end
structure ItK (L : Nat) (T : List Value) (after : List Nat) (row : List Nat) (left f : Nat) (Inv : Nat → S → Prop) (k j : Nat) (τ : S) : Prop where
 rr : ItR L after row left k τ
 kp : ∃ σ0, KeepsF (BdE (f + 1)) T σ0 τ ∧ Inv ((partF after f row left k).length + j) σ0
structure ItD (T : List Value) (f : Nat) (Done : S → Prop) (e : Ex) (τ : S) : Prop where
 ex : e = .ret
 kp : ∃ σ0, KeepsF (BdE (f + 1)) T σ0 τ ∧ Done σ0
theorem iter136 (after : List Nat) (hl : after.length ≤ 6) (ha : ∀ b ∈ after, b < 2 ^ 32) : ∀ (f : Nat) (row : List Nat) (left : Nat), f ≤ 6 → left < 2 ^ after.length → cntB after.length left ≤ f → row.length + f ≤ 100 →
  IterF (BdE f) Tryz.prog GL 152 (capE after row left) 3 1 (rowsC (rowsF after f row left)) := by
 intro f
 induction f with
 | zero =>
  intro row left hf hlt hc hrow
  obtain rfl : left = 0 := bits_zero hlt (cntB_zero (by omega))
  refine iter_bodyF (by kernel_rfl) Tryz.func152 rfl rfl (by kernel_rfl) (by kernel_rfl) (by kernel_rfl) fun L T σ Inv Done hI hD hY h0 => ?_
  have hB : BdE 0 ≤ 999000000 := by unfold BdE; omega
  have hcl := t137 (rowI row) (by simp [rowI]; omega)
  have hx : (rowsC (rowsF after 0 row 0))[0]? = some ((rowI row).map ienc) := rfl
  (refine rO ?_; repeat' ((with_reducible first | refine rG ?_ | (refine rS ?_ ?_ <;> intro hp) | (refine rB ?_ ?_ <;> intro hb <;> try rw [hb]) | refine draw_F FitE (by decide +kernel) ?_ | refine rA ?_ | fail) <;> try simp only [go_sem, simprocAttr, PI, PY, PG, FitE, tiY, List.map_cons, List.map_nil]))
  refine call_dat hcl ?_
  (refine rO ?_; repeat' ((with_reducible first | refine rG ?_ | (refine rS ?_ ?_ <;> intro hp) | (refine rB ?_ ?_ <;> intro hb <;> try rw [hb]) | refine rA ?_ | fail) <;> try simp only [go_sem, simprocAttr, PI, PY, PG, FitE, tiY, List.map_cons, List.map_nil]))
  refine yield_row (B := BdE 0) (q := 11) (σ0 := σ) hB rfl ?_ (by simp only [go_sem, simprocAttr, PI]) (by simp only [go_sem, simprocAttr, PI]) (by simp only [go_sem, simprocAttr, PI]) hx h0 hI hY (fun σ' hA => ?_) (fun σ' hA => ?_)
  ·exact (((KeepsF.enter hB).new (d := 4) rfl).new (d := 11) rfl).mem fun o _ => rfl
  ·refine iter_end (.inr rfl) (by simp only [go_sem, simprocAttr, PI, PY]) (.inl ?_)
   simp only [PY, PI]
   exact hI _ _ _ (leftF_ud hB _) hA
  ·refine iter_end (.inr rfl) (by simp only [go_sem, simprocAttr, PI, PY]) (.inr ?_)
   simp only [PY, PI]
   exact hD _ _ (leftF_ud hB _) hA
 | succ f ih =>
  intro row left hf hlt hc hrow
  refine iter_bodyF (by kernel_rfl) Tryz.func152 rfl rfl (by kernel_rfl) (by kernel_rfl) (by kernel_rfl) fun L T σ Inv Done hI hD hY h0 => ?_
  have hB : BdE (f + 1) ≤ 999000000 := by unfold BdE; omega
  have hcl := t137 (rowI row) (by simp [rowI]; omega)
  have h6 := two6 hl
  have hw : left < 2 ^ 32 := by omega
  (refine rO ?_; repeat' ((with_reducible first | refine rG ?_ | (refine rS ?_ ?_ <;> intro hp) | (refine rB ?_ ?_ <;> intro hb <;> try rw [hb]) | refine draw_F FitE (by decide +kernel) ?_ | refine rA ?_ | fail) <;> try simp only [go_sem, simprocAttr, PI, PY, PG, FitE, tiY, List.map_cons, List.map_nil]))
  ·have e0 : left = 0 := by omega
   subst e0
   rw [rowsF_0] at hY ⊢
   have hx : (rowsC [row])[0]? = some ((rowI row).map ienc) := rfl
   refine call_dat hcl ?_
   (refine rO ?_; repeat' ((with_reducible first | refine rG ?_ | (refine rS ?_ ?_ <;> intro hp) | (refine rB ?_ ?_ <;> intro hb <;> try rw [hb]) | refine rA ?_ | fail) <;> try simp only [go_sem, simprocAttr, PI, PY, PG, FitE, tiY, List.map_cons, List.map_nil]))
   refine yield_row (B := BdE (f + 1)) (q := 11) (σ0 := σ) hB rfl ?_ (by simp only [go_sem, simprocAttr, PI]) (by simp only [go_sem, simprocAttr, PI]) (by simp only [go_sem, simprocAttr, PI]) hx h0 hI hY (fun σ' hA => ?_) (fun σ' hA => ?_)
   ·exact (((KeepsF.enter hB).new (d := 4) rfl).new (d := 11) rfl).mem fun o _ => rfl
   ·refine iter_end (.inr rfl) (by simp only [go_sem, simprocAttr, PI, PY]) (.inl ?_)
    simp only [PY, PI]
    exact hI _ _ _ (leftF_ud hB _) hA
   ·refine iter_end (.inr rfl) (by simp only [go_sem, simprocAttr, PI, PY]) (.inr ?_)
    simp only [PY, PI]
    exact hD _ _ (leftF_ud hB _) hA
  have e0 : left ≠ 0 := by omega
  rw [rowsF_s e0] at hY ⊢
  (refine rO ?_; repeat' ((with_reducible first | refine rG ?_ | (refine rS ?_ ?_ <;> intro hp) | (refine rB ?_ ?_ <;> intro hb <;> try rw [hb]) | refine rA ?_ | fail) <;> try simp only [go_sem, simprocAttr, PI, PY, List.map_cons, List.map_nil, List.length_map]))
  refine awp_loopG (ItI L T.toList after row left f Inv) (after.length - ·) 0 ⟨_, g_box (o := 4) (cs := [.a (.d (.v (yieldV L)))]) (ds := [.v (yieldV L)]) (by decide) (by simp only [go_sem, simprocAttr, PI, List.map_cons, List.map_nil]) rfl, ⟨Nat.zero_le _, ⟨?_, ?_, ?_, ?_, ?_, ?_⟩, σ, ?_, h0⟩⟩ ?_
  iterate 6 (· simp only [go_sem, simprocAttr, PI, List.map_cons, List.map_nil, List.length_map]; try rfl)
  ·exact KeepsF.frz rfl (KeepsF.mem ((KeepsF.enter hB).new (d := 4) rfl) fun o _ => rfl)
  intro k τ hJ
  obtain ⟨hk, rr, σ0, hkp, hInv⟩ := hJ
  have r1 := rr.r1
  have r2 := rr.r2
  have r3 := rr.r3
  have r4 := rr.r4
  have r14 := rr.r14
  have r15 := rr.r15
  by_cases hkl : k < after.length
  ·have hkI : ((k : Int) < (after.length : Int)) = True := eq_true (by omega)
   have hwk := wrap_succ (n := after.length) hkl (by simp only [maxLen]; omega)
   have h2 := u32_bit (k := k) hw
   have s1 := u32_shr (b := left) (k := k) (by omega)
   have hX : extS after left k = (left.testBit k && freeE after left k) := rfl
   have hfree := t135 after left k (by omega) ha hw (by omega)
   have hno : extS after left k = false → partF after f row left (k + 1) = partF after f row left k := fun h => by rw [partF_s, if_neg (by rw [h]; decide), List.append_nil]
   cases hc1 : left.testBit k with
   | false =>
    rw [hc1] at h2 hX
    simp only [Bool.false_eq_true, if_false] at h2
    (refine rO ?_; repeat' ((with_reducible first | refine rG ?_ | (refine rS ?_ ?_ <;> intro hp) | (refine rB ?_ ?_ <;> intro hb <;> try rw [hb]) | refine rA ?_ | fail) <;> try simp only [go_sem, simprocAttr, PI, PY, r1, r2, r3, r4, r14, r15, s1, h2, hwk, hkI]))
    refine ⟨_, k + 1, Ghost.refl _, ⟨hkl, ⟨?_, ?_, ?_, ?_, ?_, ?_⟩, σ0, hkp.mem fun o _ => rfl, by rw [hno hX]; exact hInv⟩, by omega⟩
    iterate 6 (· simp only [go_sem, simprocAttr, r1, r2, r3, r4, r14, r15, hwk])
   | true =>
    rw [hc1] at h2 hX
    simp only [if_true] at h2
    (refine rO ?_; repeat' ((with_reducible first | refine rG ?_ | (refine rS ?_ ?_ <;> intro hp) | (refine rB ?_ ?_ <;> intro hb <;> try rw [hb]) | refine rA ?_ | fail) <;> try simp only [go_sem, simprocAttr, PI, PY, r1, r2, r3, r4, r14, r15, s1, h2, hwk, hkI]))
    refine call_dat hfree ?_
    cases hc2 : freeE after left k with
    | false =>
     rw [hc2] at hX
     (refine rO ?_; repeat' ((with_reducible first | refine rG ?_ | (refine rS ?_ ?_ <;> intro hp) | (refine rB ?_ ?_ <;> intro hb <;> try rw [hb]) | refine rA ?_ | fail) <;> try simp only [go_sem, simprocAttr, PI, PY, r1, r2, r3, r4, r14, r15, s1, h2, hwk, hkI]))
     refine ⟨_, k + 1, Ghost.refl _, ⟨hkl, ⟨?_, ?_, ?_, ?_, ?_, ?_⟩, σ0, hkp.mem fun o _ => rfl, by rw [hno hX]; exact hInv⟩, by omega⟩
     iterate 6 (· simp only [go_sem, simprocAttr, r1, r2, r3, r4, r14, r15, hwk])
    | true =>
     rw [hc2] at hX
     have hb := u32_andn (a := left) (b := 2 ^ k) hw (Nat.pow_lt_pow_right (by omega) (by omega))
     have hsh := u32_shl (k := k) (by omega)
     (refine rO ?_; repeat' ((with_reducible first | refine rG ?_ | (refine rS ?_ ?_ <;> intro hp) | (refine rB ?_ ?_ <;> intro hb <;> try rw [hb]) | refine rA ?_ | fail) <;> try simp only [go_sem, simprocAttr, PI, PY, r1, r2, r3, r4, r14, r15, s1, h2, hwk, hkI]))
     refine draw_I (RB L T.toList after row left k (BdE (f + 1)) σ0) (fun i τ => GX after row left k i (τ.regs (30 + i)) τ.mem) (by decide +kernel) ⟨⟨?_, ?_, ?_, ?_, ?_, ?_⟩, ?_, hkp.mem fun o _ => rfl⟩ (fun j o ho τ2 hb2 hdep => ?_) (fun τ2 hb2 hF => ?_)
     iterate 7 (· simp only [go_sem, simprocAttr, r1, r2, r3, r4, r14, r15])
     ·show opsA _ _ _ [o] τ2 (PostX L T.toList after row left k (BdE (f + 1)) σ0 j τ2)
      have q1 := hb2.rr.r1
      have q2 := hb2.rr.r2
      have q3 := hb2.rr.r3
      have q5 := hb2.r5
      match j, ho, hdep with
      | 0, ho, hdep =>
       obtain rfl := Option.some.inj ho
       (refine rO ?_; repeat' ((with_reducible first | refine rG ?_ | (refine rS ?_ ?_ <;> intro hp) | (refine rB ?_ ?_ <;> intro hb <;> try rw [hb]) | refine rD ?_ | refine rA ?_ | fail) <;> try simp only [go_sem, simprocAttr, q1, q2, q3, q5]))
       exact postX_put (j := 0) hb2 rfl
      | 1, ho, hdep =>
       obtain rfl := Option.some.inj ho
       (refine rO ?_; repeat' ((with_reducible first | refine rG ?_ | (refine rS ?_ ?_ <;> intro hp) | (refine rB ?_ ?_ <;> intro hb <;> try rw [hb]) | refine rD ?_ | refine rA ?_ | fail) <;> try simp only [go_sem, simprocAttr, q1, q2, q3, q5]))
       exact postX_put (j := 1) hb2 rfl
      | 2, ho, hdep =>
       obtain rfl := Option.some.inj ho
       have d1 : τ2.regs 31 = _ := hdep 1 (by decide +kernel)
       (refine rO ?_; repeat' ((with_reducible first | refine rG ?_ | (refine rS ?_ ?_ <;> intro hp) | (refine rB ?_ ?_ <;> intro hb <;> try rw [hb]) | refine rD ?_ | refine rA ?_ | fail) <;> try simp only [go_sem, simprocAttr, q1, q2, q3, q5, d1]))
       refine call_dat (t138 (rowI row)) ?_
       (refine rO ?_; repeat' ((with_reducible first | refine rG ?_ | (refine rS ?_ ?_ <;> intro hp) | (refine rB ?_ ?_ <;> intro hb <;> try rw [hb]) | refine rD ?_ | refine rA ?_ | fail) <;> try simp only [go_sem, simprocAttr]))
       exact postX_put (j := 2) hb2 rfl
      | 3, ho, hdep =>
       obtain rfl := Option.some.inj ho
       (refine rO ?_; repeat' ((with_reducible first | refine rG ?_ | (refine rS ?_ ?_ <;> intro hp) | (refine rB ?_ ?_ <;> intro hb <;> try rw [hb]) | refine rD ?_ | refine rA ?_ | fail) <;> try simp only [go_sem, simprocAttr, q1, q2, q3, q5]))
       exact postX_put (j := 3) hb2 rfl
      | 4, ho, hdep =>
       obtain rfl := Option.some.inj ho
       have d3 : τ2.regs 33 = _ := hdep 3 (by decide +kernel)
       (refine rO ?_; repeat' ((with_reducible first | refine rG ?_ | (refine rS ?_ ?_ <;> intro hp) | (refine rB ?_ ?_ <;> intro hb <;> try rw [hb]) | refine rD ?_ | refine rA ?_ | fail) <;> try simp only [go_sem, simprocAttr, q1, q2, q3, q5, d3]))
       exact postX_new (j := 4) (.inl rfl) hb2 ⟨rfl, by simp; rfl⟩
      | 5, ho, hdep =>
       obtain rfl := Option.some.inj ho
       have d2 : τ2.regs 32 = _ := hdep 2 (by decide +kernel)
       obtain ⟨d4, m4⟩ : τ2.regs 34 = .own 34 ∧ τ2.mem 34 = _ := hdep 4 (by decide +kernel)
       have hrw : (rowI row).map ienc ++ [ienc k] = (rowI (row ++ [k])).map ienc := by simp [rowI]
       (refine rO ?_; repeat' ((with_reducible first | refine rG ?_ | (refine rS ?_ ?_ <;> intro hp) | (refine rB ?_ ?_ <;> intro hb <;> try rw [hb]) | refine rD ?_ | refine rA ?_ | fail) <;> try simp only [go_sem, simprocAttr, q1, q2, q3, q5, d2, d4, m4]))
       refine ⟨rfl, by simp [rowI]; omega, ?_⟩
       rw [hrw]
       exact postX_new (j := 5) (.inr rfl) hb2 (.inl ⟨rfl, by simp⟩)
      | 6, ho, hdep =>
       obtain rfl := Option.some.inj ho
       (refine rO ?_; repeat' ((with_reducible first | refine rG ?_ | (refine rS ?_ ?_ <;> intro hp) | (refine rB ?_ ?_ <;> intro hb <;> try rw [hb]) | refine rD ?_ | refine rA ?_ | fail) <;> try simp only [go_sem, simprocAttr, q1, q2, q3, q5]))
       exact postX_put (j := 6) hb2 rfl
      | 7, ho, hdep =>
       obtain rfl := Option.some.inj ho
       (refine rO ?_; repeat' ((with_reducible first | refine rG ?_ | (refine rS ?_ ?_ <;> intro hp) | (refine rB ?_ ?_ <;> intro hb <;> try rw [hb]) | refine rD ?_ | refine rA ?_ | fail) <;> try simp only [go_sem, simprocAttr, q1, q2, q3, q5]))
       exact postX_put (j := 7) hb2 rfl
      | 8, ho, hdep =>
       obtain rfl := Option.some.inj ho
       have d7 : τ2.regs 37 = _ := hdep 7 (by decide +kernel)
       (refine rO ?_; repeat' ((with_reducible first | refine rG ?_ | (refine rS ?_ ?_ <;> intro hp) | (refine rB ?_ ?_ <;> intro hb <;> try rw [hb]) | refine rD ?_ | refine rA ?_ | fail) <;> try simp only [go_sem, simprocAttr, q1, q2, q3, q5, d7, hsh]))
       exact postX_put (j := 8) hb2 rfl
      | 9, ho, hdep =>
       obtain rfl := Option.some.inj ho
       have d6 : τ2.regs 36 = _ := hdep 6 (by decide +kernel)
       have d8 : τ2.regs 38 = _ := hdep 8 (by decide +kernel)
       (refine rO ?_; repeat' ((with_reducible first | refine rG ?_ | (refine rS ?_ ?_ <;> intro hp) | (refine rB ?_ ?_ <;> intro hb <;> try rw [hb]) | refine rD ?_ | refine rA ?_ | fail) <;> try simp only [go_sem, simprocAttr, q1, q2, q3, q5, d6, d8, hb]))
       exact postX_put (j := 9) hb2 rfl
      | 10, ho, hdep =>
       obtain rfl := Option.some.inj ho
       have d0 : τ2.regs 30 = _ := hdep 0 (by decide +kernel)
       have d9 : τ2.regs 39 = _ := hdep 9 (by decide +kernel)
       have d5 := hdep 5 (by decide +kernel)
       rcases d5 with ⟨d5, m5⟩ | d5
       ·replace d5 : τ2.regs 35 = .own 35 := d5
        (refine rO ?_; repeat' ((with_reducible first | refine rG ?_ | (refine rS ?_ ?_ <;> intro hp) | (refine rB ?_ ?_ <;> intro hb <;> try rw [hb]) | refine rD ?_ | refine rA ?_ | fail) <;> try simp only [go_sem, simprocAttr, q1, q2, q3, q5, d0, d9, d5, m5]))
        refine call_rest _ (t116 after (rowI (row ++ [k])) (andN left (2 ^ k))) ?_
        simp only [go_sem, simprocAttr, m5]
        exact postX_frz hb2 rfl
       ·replace d5 : τ2.regs 35 = .a (intsA (rowI (row ++ [k]))) := d5
        (refine rO ?_; repeat' ((with_reducible first | refine rG ?_ | (refine rS ?_ ?_ <;> intro hp) | (refine rB ?_ ?_ <;> intro hb <;> try rw [hb]) | refine rD ?_ | refine rA ?_ | fail) <;> try simp only [go_sem, simprocAttr, q1, q2, q3, q5, d0, d9, d5]))
        refine call_dat (t116 after (rowI (row ++ [k])) (andN left (2 ^ k))) ?_
        (refine rO ?_; repeat' ((with_reducible first | refine rG ?_ | (refine rS ?_ ?_ <;> intro hp) | (refine rB ?_ ?_ <;> intro hb <;> try rw [hb]) | refine rD ?_ | refine rA ?_ | fail) <;> try simp only [go_sem, simprocAttr]))
        exact postX_put (j := 10) hb2 rfl
      | n + 11, ho, hdep => exact absurd (List.getElem?_eq_some_iff.1 ho).1 (by simp)
     replace hX : extS after left k = true := hX
     have q1 := hb2.rr.r1
     have q40 : τ2.regs 40 = .a (.d (.fn 152 (capE after (row ++ [k]) (andN left (2 ^ k))))) := hF 10 (by simp)
     have hcb := cntB_clr hc1 hkl
     have hit := ih (row ++ [k]) (andN left (2 ^ k)) (by omega) (andN_lt2 hlt) (by omega) (by simp; omega)
     have hBf : BdE (f + 1) + 1000000 ≤ BdE f := by unfold BdE; omega
     refine range_semF (p := 41) (ItK L T.toList after row left f Inv k) (ItD T.toList f Done) q40 hit (decide_eq_true (by unfold BdE; omega)) (by kernel_rfl) (by kernel_rfl) (fun i τ3 τ4 hu h => ?_) (fun e τ3 τ4 hu h => ?_) (fun L2 r2 => ?_) (fun L2 T2 r2 i x τ3 hrs hx hI3 hrec hlog => AwpE.of ?_) (fun τ3 hI3 => ?_) (fun e τ3 hD3 => ?_)
     ·obtain ⟨rr3, σ3, hkp3, hInv3⟩ := h
      exact ⟨⟨hu.r rr3.r1 fineR_a, hu.r rr3.r2 fineR_a, hu.r rr3.r3 fineR_a, hu.r rr3.r4 fineR_a, hu.r rr3.r14 fineR_a, hu.r rr3.r15 fineR_a⟩, σ3, hkp3.left hBf hu, hInv3⟩
     ·obtain ⟨ex, σ3, hkp3, hD3⟩ := h
      exact ⟨ex, σ3, hkp3.left hBf hu, hD3⟩
     ·have q := hb2.rr
      refine ⟨⟨?_, ?_, ?_, ?_, ?_, ?_⟩, σ0, hb2.kp.new rfl, hInv⟩
      iterate 6 (· simp only [go_sem, simprocAttr, q.r1, q.r2, q.r3, q.r4, q.r14, q.r15])
     ·obtain ⟨rr3, σ3, hkp3, hInv3⟩ := hI3
      have p1 := rr3.r1
      have p2 := rr3.r2
      have p3 := rr3.r3
      have p4 := rr3.r4
      have p14 := rr3.r14
      have p15 := rr3.r15
      obtain ⟨r', hr', rfl⟩ := rowsC_at hx
      have hx2 := rowsC_of (part_at hkl hX hr')
      (refine rO ?_; repeat' ((with_reducible first | refine rG ?_ | (refine rS ?_ ?_ <;> intro hp) | (refine rB ?_ ?_ <;> intro hb <;> try rw [hb]) | refine rA ?_ | fail) <;> try simp only [go_sem, simprocAttr, PI, PY, PF, PFF, tiY, tiZ, p1, p2, p3, p4, p14, p15, hrec, hlog]))
      refine yield_row2 (B := BdE (f + 1)) (σ0 := σ3) (L := L) (T := T) (vs := T2) (rs2 := killR 999996 τ3.regs) (L2 := L2) (r2 := { r2 with state := .busy }) hB ?_ ?_ ?_ ?_ ?_ ?_ hx2 hInv3 hI hY (fun σ' hA => ?_) (fun σ' hA => ?_)
      ·exact KeepsF.mem (KeepsF.set (d := 999997) (x := .sem (recOb L2 { r2 with state := .busy })) rfl (KeepsF.rnd (us := T2) (p := 41) hkp3)) fun o _ => rfl
      iterate 5 (· simp only [go_sem, simprocAttr, PI, PF, PFF, hlog, p4]; try rfl)
      ·(refine rO ?_; repeat' ((with_reducible first | refine rG ?_ | (refine rS ?_ ?_ <;> intro hp) | (refine rB ?_ ?_ <;> intro hb <;> try rw [hb]) | refine rA ?_ | fail) <;> try simp only [go_sem, simprocAttr, PI, PY, PF, PFF, p1, p2, p3, p4, p14, p15]))
       refine ⟨_, Ghost.refl _, ?_, ⟨?_, ?_, ?_, ?_, ?_, ?_⟩, σ', ?_, ?_⟩
       iterate 7 (· simp only [go_sem, simprocAttr, PI, PY, PF, PFF, p1, p2, p3, p4, p14, p15, mv_a, pu_a])
       ·exact KeepsF.back (KeepsF.set rfl (KeepsF.mem (KeepsF.again2 (vs := T2) (rs := fun t => (R.kill 999996 (τ3.regs t)).mv 999995 (upId 999995)) (L2 := L2) (r2 := { r2 with state := .busy }) hB) fun o _ => rfl))
       ·rw [← Nat.add_assoc]; exact hA
      ·(refine rO ?_; repeat' ((with_reducible first | refine rG ?_ | (refine rS ?_ ?_ <;> intro hp) | (refine rB ?_ ?_ <;> intro hb <;> try rw [hb]) | refine rA ?_ | fail) <;> try simp only [go_sem, simprocAttr, PI, PY, PF, PFF, p1, p2, p3, p4, p14, p15]))
       refine ⟨rfl, rfl, σ', ?_, hA⟩
       exact KeepsF.back (KeepsF.set rfl (KeepsF.mem (KeepsF.again2 (vs := T2) (rs := fun t => (R.kill 999996 (τ3.regs t)).mv 999995 (upId 999995)) (L2 := L2) (r2 := { r2 with state := .busy }) hB) fun o _ => rfl))
     ·obtain ⟨rr3, σ3, hkp3, hInv3⟩ := hI3
      have p1 := rr3.r1
      have p2 := rr3.r2
      have p3 := rr3.r3
      have p4 := rr3.r4
      have p14 := rr3.r14
      have p15 := rr3.r15
      (refine rO ?_; repeat' ((with_reducible first | refine rG ?_ | (refine rS ?_ ?_ <;> intro hp) | (refine rB ?_ ?_ <;> intro hb <;> try rw [hb]) | refine rA ?_ | fail) <;> try simp only [go_sem, simprocAttr, PI, PY, PF, PFF, p1, p2, p3, p4, p14, p15, hwk]))
      refine ⟨_, k + 1, Ghost.refl _, ⟨hkl, ⟨?_, ?_, ?_, ?_, ?_, ?_⟩, σ3, KeepsF.mem (KeepsF.del (d := 999997) rfl hkp3) fun o _ => rfl, ?_⟩, by omega⟩
      iterate 6 (· simp only [go_sem, simprocAttr, PF, p1, p2, p3, p4, p14, p15, hwk])
      rw [partF_s, if_pos hX, List.length_append]
      rw [rowsC_len] at hInv3
      exact hInv3
     ·obtain ⟨rfl, σ3, hkp3, hD3⟩ := hD3
      (refine rO ?_; repeat' ((with_reducible first | refine rG ?_ | (refine rS ?_ ?_ <;> intro hp) | (refine rB ?_ ?_ <;> intro hb <;> try rw [hb]) | refine rA ?_ | fail) <;> try simp only [go_sem, simprocAttr, PI, PY, PF, PFF]))
      refine iter_end (.inr rfl) (by simp only [go_sem, simprocAttr, PF, hkp3.fr]) (.inr ?_)
      exact hD _ _ (KeepsF.leave hB (KeepsF.mem (KeepsF.del (d := 999997) rfl hkp3) fun o _ => rfl)) hD3
  ·have hkn : k = after.length := by omega
   have hkI : ((k : Int) < (after.length : Int)) = False := eq_false (by omega)
   (refine rO ?_; repeat' ((with_reducible first | refine rG ?_ | (refine rS ?_ ?_ <;> intro hp) | (refine rB ?_ ?_ <;> intro hb <;> try rw [hb]) | refine rA ?_ | fail) <;> try simp only [go_sem, simprocAttr, PI, PY, r1, r2, r3, r4, r14, r15, hkI]))
   subst hkn
   refine iter_end (.inl rfl) (by simp only [go_sem, simprocAttr, hkp.fr]) (.inl ?_)
   rw [rowsC_len]
   exact hI _ _ _ (KeepsF.leave hB (hkp.mem fun o _ => rfl)) hInv
end Go.VC
end
section
set_option maxRecDepth 100000
namespace Go.VC
open Go.RowKit Go.Proofs Go.IntWalk
theorem fineR_ref {q o f : Nat} (h : (o == q) = false) : FineR q (.ref o f) := by
 have h1 : R.down (R.up (.ref o f)) = .ref o f := by simp [R.up, R.down, upId_le, upId_sub]
 have h2 : R.kill q (.ref o f) = .ref o f := by simp [R.kill, R.says, R.says0, h]
 exact ⟨h1, by rw [h2]; exact h1⟩
def FineC (q : Nat) (r : R) : Prop := FineR q r ∧ ∀ a, a < 1000000 → (r.up.mv a (upId q)).down = r
theorem fineO_box {q : Nat} {cs : List R} (h : ∀ r ∈ cs, FineC q r) : FineO q (.box cs) := by
 refine ⟨?_, ?_, fun a ha => ?_⟩
 ·simp only [Ob.up, Ob.down, List.map_map]
  congr 1
  exact (List.map_congr_left fun r hr => (h r hr).1.1).trans (List.map_id _)
 ·simp only [Ob.up, Ob.kill, Ob.down, List.map_map]
  congr 1
  refine (List.map_congr_left fun r hr => ?_).trans (List.map_id _)
  show (r.up.kill (upId q)).down = r
  rw [kill_up_hi]; exact (h r hr).1.2
 ·simp only [Ob.up, Ob.mv, Ob.down, List.map_map]
  congr 1
  exact (List.map_congr_left fun r hr => (h r hr).2 a ha).trans (List.map_id _)
theorem fineC_own {q o : Nat} (h : (o == q) = false) : FineC q (.own o) := ⟨fineR_own h, fun a ha => by
 have h1 : R.mv a (upId q) (R.up (.own o)) = R.up (.own o) := by
  show R.mv a (upId q) (.own (upId o)) = .own (upId o)
  exact mv_ownn (by rw [up_up]; exact h) (by have := upId_le o; simp; omega)
 rw [h1]; exact down_own⟩
theorem k_tiesB {o : Nat} {vals : List Value} (hl : vals.length ≤ 80000) (h : (decide (o < 710000) || decide (790000 ≤ o)) = true) : Ob.kill o (.sem (ties 710000 vals)) = .sem (ties 710000 vals) := by
 have : ((ties 710000 vals).os.any fun o' => o' == o) = false := by
  rw [List.any_eq_false]
  intro x hx
  have := ties_os hx
  simp only [Bool.or_eq_true, decide_eq_true_eq] at h
  simp; omega
 simp only [Ob.kill]; rw [this]; rfl
theorem rid_beq {c n : Nat} (h : c < 710000 ∨ 710000 + n < c) : (c == 710000 + n) = false := by simp; omega
theorem rid_beq' {c n : Nat} (h : c < 710000 ∨ 710000 + n < c) : (710000 + n == c) = false := by simp; omega
structure ApI (rows : List (List Int)) (j : Nat) (σ : S) : Prop where
 le : j ≤ rows.length
 r2 : σ.regs 2 = .ref 2 0
 m2 : σ.mem 2 = some (.box [.own 600000])
 vs : ∃ vals : List Value, vals.length = j ∧ σ.mem 700001 = some (.sem (ties 710000 vals)) ∧ σ.mem 600000 = some (.log 35 1 (vals.map fun v => [.v v])) ∧ ∀ i r, i < j → rows[i]? = some r → σ.mem (710000 + i) = some (.log 3 1 (r.map ienc))
theorem rowsD_at {rows : List (List Int)} {i : Nat} {x : List (List D)} (h : (rows.map fun r => r.map ienc)[i]? = some x) : ∃ r, rows[i]? = some r ∧ x = r.map ienc := by
 rw [List.getElem?_map] at h
 obtain ⟨r, hr, rfl⟩ := Option.map_eq_some_iff.1 h
 exact ⟨r, hr, rfl⟩
theorem t1230 {B : Nat} {g : FuncId} {caps : List D} {rows : List (List Int)} (hB : decide (1000000 ≤ B) = true) (hit : IterF B Tryz.prog GL g caps 3 1 (rows.map fun r => r.map ienc)) (hlen : rows.length ≤ 79000) :
  HoldsRows Tryz.prog GL 133 [.cs [], .a (.d (.fn g caps))] 35 3 rows [] := by
 refine rows_of (t0 := 4) (tl := []) (by kernel_rfl) Tryz.func133 rfl rfl (by kernel_rfl) (by kernel_rfl) (by kernel_rfl) rfl rfl (awpE_nil (p := 0) (d := 600000) (e := 35) rfl ?_)
 have hB0 := of_decide_eq_true hB
 (refine rO ?_; repeat' ((with_reducible first | refine rG ?_ | (refine rS ?_ ?_ <;> intro hp) | (refine rB ?_ ?_ <;> intro hb <;> try rw [hb]) | refine rA ?_ | fail) <;> try simp only [go_sem, simprocAttr, pin_r, pin_m, List.getElem?_cons_zero, List.getElem?_cons_succ, Option.getD_some]))
 refine sc_ghost (g_ties0 (o := 700001) (base := 710000)) ?_
 refine range_semF (p := 7) (ApI rows) (fun _ _ => False) (by simp only [go_sem, simprocAttr, pin_r, pin_m, List.getElem?_cons_zero, List.getElem?_cons_succ, Option.getD_some]) hit hB (by kernel_rfl) (by kernel_rfl) (fun j τ τ' hu h => ?_) (fun _ _ _ _ h => h) (fun L r => ?_) (fun L T r j x τ hrs hx hI hrec hlog => awpE_tie (p := 7) (e := 3) (sz := 1) (x := x) ?_ ?_ fun v => ?_) (fun τ hI => ?_) (fun _ _ h => h.elim)
 ·obtain ⟨le, r2, m2, vals, hl, m1, mq, mr⟩ := h
  refine ⟨le, hu.r r2 (fineR_ref rfl), hu.m rfl (decide_eq_true (by omega)) m2 (fineO_box fun r hr => ?_), vals, hl, hu.m rfl (decide_eq_true (by omega)) m1 (fineO_ties (by omega)), hu.m rfl (decide_eq_true (by omega)) mq fineO_log, fun i r hi hr => hu.m (by simp; omega) (decide_eq_true (by omega)) (mr i r hi hr) fineO_log⟩
  obtain rfl := List.mem_singleton.1 hr
  exact fineC_own rfl
 ·exact ⟨Nat.zero_le _, by simp only [go_sem, simprocAttr], by simp only [go_sem, simprocAttr], [], rfl, by simp only [go_sem, simprocAttr]; rfl, by simp only [go_sem, simprocAttr, k_log], fun i r h => absurd h (by omega)⟩
 ·simp only [go_sem, simprocAttr, PF, PFF]
 ·simp only [go_sem, simprocAttr, PF, PFF, hlog]
 ·obtain ⟨le, r2, m2, vals, hl, m1, mq, mr⟩ := hI
  obtain ⟨row, hrow, rfl⟩ := rowsD_at hx
  have hjl := (List.getElem?_eq_some_iff.1 hrow).1
  have hvl : vals.length ≤ 80000 := by omega
  have hcap : ((vals.map fun v => [D.v v]).length + 1) * 24 ≤ 140737488355328 := by simp; omega
  (refine rO ?_; repeat' ((with_reducible first | refine rG ?_ | (refine rS ?_ ?_ <;> intro hp) | (refine rB ?_ ?_ <;> intro hb <;> try rw [hb]) | refine rA ?_ | fail) <;> try simp only [go_sem, simprocAttr, PF, PFF, r2, m2, hrec, hlog, mq]))
  have b2 : ((2 : Nat) == 710000 + vals.length) = false := rid_beq (by omega)
  have b6 : ((600000 : Nat) == 710000 + vals.length) = false := rid_beq (by omega)
  have b97 : ((999997 : Nat) == 710000 + vals.length) = false := rid_beq (by omega)
  refine ⟨_, g_take (v := v) (vals := vals) (e := 3) (sz := 1) (x := row.map ienc) (by omega) ?_ ?_ ?_, ?_, ?_, ?_, ?_, vals ++ [v], ?_, ?_, ?_, fun i r hi hr => ?_⟩
  iterate 4 (· simp only [go_sem, simprocAttr, PF, PFF, hlog, k_tie1, m1, k_tiesB hvl, k_ties, PM, b97])
  ·omega
  ·simp only [go_sem, simprocAttr, PF, PFF, PM, b2, r2]
  ·simp only [go_sem, simprocAttr, PF, PFF, PM, b2, b6, m2]
  ·simp [hl]
  ·simp only [go_sem, simprocAttr, PF, PFF, PM]
  ·simp only [go_sem, simprocAttr, PF, PFF, PM, b6, List.map_append, List.map_cons, List.map_nil]
  ·by_cases e : i = vals.length
   ·subst e
    rw [hl, hrow] at hr; cases hr
    have n1 : ¬ vals.length = 289995 := by omega
    simp [S.setOb, S.mv, S.back, S.newOb, S.put, S.rndF, upd, hlog, n1, show ¬ 710000 + vals.length = 700001 by omega, Ob.kill, Ob.mv]
   ·have hij : i < j := by omega
    have h := mr i r hij hr
    simp [S.setOb, S.mv, S.back, S.newOb, S.put, S.rndF, upd, h, e, show ¬ 710000 + i = 700001 by omega, show ¬ 710000 + i = 999995 by omega, show ¬ 710000 + i = 999996 by omega, show ¬ 710000 + i = 999997 by omega, show ¬ 710000 + i = 2 by omega, show ¬ 710000 + i = 600000 by omega, show ¬ 710000 + i = 10 by omega, show ¬ 710000 + i = 999994 by omega, Ob.kill, Ob.mv]
 ·obtain ⟨le, r2, m2, vals, hl, m1, mq, mr⟩ := hI
  rw [List.length_map] at hl mr
  (refine rO ?_; repeat' ((with_reducible first | refine rG ?_ | (refine rS ?_ ?_ <;> intro hp) | (refine rB ?_ ?_ <;> intro hb <;> try rw [hb]) | refine rA ?_ | fail) <;> try simp only [go_sem, simprocAttr, PF, PFF, r2, m2, mq]))
  refine ⟨600000, vals, by omega, ?_, ?_, ?_, hl, fun i r hr => ?_, rfl⟩
  iterate 3 (· simp only [go_sem, simprocAttr, PF, mq, m1])
  ·have h := mr i r (List.getElem?_eq_some_iff.1 hr).1 hr
   have hi := (List.getElem?_eq_some_iff.1 hr).1
   have b97 : ((710000 + i : Nat) == 999997) = false := by simp; omega
   simp only [go_sem, simprocAttr, PF, b97, h]
theorem t1194 {B : Nat} {g : FuncId} {caps : List D} {rows : List (List Int)} (hB : decide (1000000 ≤ B) = true) (hit : IterF B Tryz.prog GL g caps 3 1 (rows.map fun r => r.map ienc)) (hlen : rows.length ≤ 79000) :
  HoldsRows Tryz.prog GL 111 [.a (.d (.fn g caps))] 35 3 rows [] := by
 refine rows_of (t0 := 2) (tl := []) (by kernel_rfl) Tryz.func111 rfl rfl (by kernel_rfl) (by kernel_rfl) (by kernel_rfl) rfl rfl (AwpE.of ?_)
 (refine rO ?_; repeat' ((with_reducible first | refine rG ?_ | (refine rS ?_ ?_ <;> intro hp) | (refine rB ?_ ?_ <;> intro hb <;> try rw [hb]) | refine rA ?_ | fail) <;> try simp only [go_sem, simprocAttr, pin_r, pin_m, List.getElem?_cons_zero, List.getElem?_cons_succ, Option.getD_some]))
 refine call_inl (inl_rows (t1230 hB hit hlen) rfl (by omega) fun vals hl => ?_)
 (refine rO ?_; repeat' ((with_reducible first | refine rG ?_ | (refine rS ?_ ?_ <;> intro hp) | (refine rB ?_ ?_ <;> intro hb <;> try rw [hb]) | refine rA ?_ | fail) <;> try simp only [go_sem, simprocAttr]))
 refine ⟨700000, vals, by omega, ?_, ?_, ?_, hl, fun i r hr => ?_, rfl⟩
 iterate 3 (· simp only [go_sem, simprocAttr, PBR])
 ·exact br_i (by omega) hr
def allRows (after : List Nat) : List (List Nat) := rowsF after after.length [] (2 ^ after.length - 1)
theorem t1140 (after : List Nat) (hl : after.length ≤ 6) (ha : ∀ b ∈ after, b < 2 ^ 32) (hm : mayX after = 0) (hlen : (allRows after).length ≤ 79000) : HoldsRows Tryz.prog GL 84 [.a (unsA after)] 35 3 ((allRows after).map rowI) [I 0] := by
 refine rows_of (t0 := 2) (tl := [3]) (by kernel_rfl) Tryz.func84 rfl rfl (by kernel_rfl) (by kernel_rfl) (by kernel_rfl) rfl rfl (AwpE.of ?_)
 have h86 := t86 after hl ha
 rw [hm] at h86
 have h6 := two6 hl
 have h1 : 1 ≤ 2 ^ after.length := Nat.one_le_two_pow
 have hit := iter136 after hl ha after.length [] (2 ^ after.length - 1) hl (by omega) (by rw [cntB_all _ _ (Nat.le_refl _)]; exact Nat.le_refl _) (by simp; omega)
 have e1 : rowsC (rowsF after after.length [] (2 ^ after.length - 1)) = ((allRows after).map rowI).map fun r => r.map ienc := by simp [rowsC, allRows]
 rw [e1] at hit
 (refine rO ?_; repeat' ((with_reducible first | refine rG ?_ | (refine rS ?_ ?_ <;> intro hp) | (refine rB ?_ ?_ <;> intro hb <;> try rw [hb]) | refine rA ?_ | fail) <;> try simp only [go_sem, simprocAttr, pin_r, pin_m, List.getElem?_cons_zero, List.getElem?_cons_succ, Option.getD_some]))
 refine call_dat h86 ?_
 (refine rO ?_; repeat' ((with_reducible first | refine rG ?_ | (refine rS ?_ ?_ <;> intro hp) | (refine rB ?_ ?_ <;> intro hb <;> try rw [hb]) | refine rA ?_ | fail) <;> try simp only [go_sem, simprocAttr]))
 refine call_dat (t87 after hl) ?_
 (refine rO ?_; repeat' ((with_reducible first | refine rG ?_ | (refine rS ?_ ?_ <;> intro hp) | (refine rB ?_ ?_ <;> intro hb <;> try rw [hb]) | refine rA ?_ | fail) <;> try simp only [go_sem, simprocAttr]))
 refine call_inl (inl_rows (t1194 (B := BdE after.length) (decide_eq_true (by unfold BdE; omega)) hit (by simpa using hlen)) rfl (by simp; omega) fun vals hl => ?_)
 (refine rO ?_; repeat' ((with_reducible first | refine rG ?_ | (refine rS ?_ ?_ <;> intro hp) | (refine rB ?_ ?_ <;> intro hb <;> try rw [hb]) | refine rA ?_ | fail) <;> try simp only [go_sem, simprocAttr, PBR]))
 refine ⟨700000, vals, by omega, ?_, ?_, ?_, hl, fun i r hr => ?_, ?_⟩
 iterate 3 (· simp only [go_sem, simprocAttr, PBR])
 ·have hlen' : ((allRows after).map rowI).length ≤ 80000 := by simp; omega
  exact br_i hlen' hr
 ·simp only [go_sem, simprocAttr, PBR, List.map_cons, List.map_nil]
end Go.VC
end
