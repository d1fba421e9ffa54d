/- A call whose body may turn the caller's objects: the body is run with the caller's registers laid by. -/
import Derived.Test.YtjmbgnncokeliaaDoorVE
set_option maxRecDepth 100000
set_option linter.unusedSimpArgs false
set_option linter.unusedVariables false
set_option linter.defProp false
namespace Go.VC
open Go.RowKit Go.Proofs
theorem upEx : ∃ f : Nat → Nat, ∀ o, f o = o + 1000000 := ⟨fun o => o + 1000000, fun _ => rfl⟩
/-- A caller's object, as a callee names it. -/
noncomputable def upId (o : Nat) : Nat := Classical.choose upEx o
theorem upId_eq (o : Nat) : upId o = o + 1000000 := Classical.choose_spec upEx o
theorem upId_sub (o : Nat) : upId o - 1000000 = o := by rw [upId_eq, Nat.add_sub_cancel]
theorem upId_le (o : Nat) : 1000000 ≤ upId o := by rw [upId_eq]; omega
theorem upId_of {o : Nat} (h : 1000000 ≤ o) : upId (o - 1000000) = o := by rw [upId_eq]; omega
theorem upId_inj {o o' : Nat} (h : upId o = upId o') : o = o' := by rw [upId_eq, upId_eq] at h; omega
/-- The caller's objects, as a callee names them. -/
noncomputable def R.up : R → R
  | .ref o f => .ref (upId o) f
  | .eref o i s j => .eref (upId o) i s j
  | .own o => .own (upId o)
  | .omp o => .omp (upId o)
  | .clo f caps => .clo f (caps.map fun c => (upId c.1, c.2))
  | .tp (_ :: _) => .any
  | .agr _ => .any
  | .sem os p => .sem (os.map upId) fun β v => p (fun o => β (upId o)) v
  | r => r
def R.down : R → R
  | .ref o f => if 1000000 ≤ o then .ref (o - 1000000) f else .any
  | .eref o i s j => if 1000000 ≤ o then .eref (o - 1000000) i s j else .any
  | .own o => if 1000000 ≤ o then .own (o - 1000000) else .any
  | .omp o => if 1000000 ≤ o then .omp (o - 1000000) else .any
  | .clo f caps => if caps.all (fun c => decide (1000000 ≤ c.1)) then .clo f (caps.map fun c => (c.1 - 1000000, c.2)) else .any
  | .tp (_ :: _) => .any
  | .agr _ => .any
  | .sem os p => if os.all (fun o => decide (1000000 ≤ o)) then .sem (os.map (· - 1000000)) fun β v => p (fun o => β (o - 1000000)) v else .any
  | r => r
noncomputable def SemOb.up (x : SemOb) : SemOb where
  os := x.os.map upId
  p := fun β st w bv => x.p (fun o => β (upId o)) st w bv
  lt := fun h => x.lt h
  mono := fun H h k => x.mono H h k
  dep := fun h => x.dep fun o ho => h _ (List.mem_map.2 ⟨o, ho, rfl⟩)
def SemOb.down (x : SemOb) (h : ∀ o ∈ x.os, 1000000 ≤ o) : SemOb where
  os := x.os.map (· - 1000000)
  p := fun β st w bv => x.p (fun o => β (o - 1000000)) st w bv
  lt := fun h => x.lt h
  mono := fun H h k => x.mono H h k
  dep := fun h => x.dep fun o ho => h _ (List.mem_map.2 ⟨o, ho, rfl⟩)
noncomputable def Ob.up : Ob → Ob
  | .box cs => .box (cs.map R.up)
  | .frame vs rs => .frame vs fun t => (rs t).up
  | .sem x => .sem x.up
  | x => x
open Classical in
noncomputable def Ob.down : Ob → Ob
  | .box cs => .box (cs.map R.down)
  | .frame vs rs => .frame vs fun t => (rs t).down
  | .sem x => if h : ∀ o ∈ x.os, 1000000 ≤ o then .sem (x.down h) else .lost
  | x => x
noncomputable def argR (rs : List R) (t : Nat) : R := match rs[t]? with
  | some r => r.up
  | none => .any
/-- A callee's state at its start. -/
noncomputable def S.enter (vs : List Value) (rs : List R) (σ : S) : S where
  regs := argR rs
  mem := fun o => if o < 1000000 then (if o = 999999 then some (.frame vs fun t => (σ.regs t).up) else none) else if 1000000000 ≤ o ∧ o < 1001000000 then none else (σ.mem (o - 1000000)).map Ob.up
def frR : Option Ob → Nat → R
  | some (.frame _ rs), t => (rs t).down
  | _, _ => .any
/-- The caller's state behind a call. -/
noncomputable def S.leave (σ : S) : S where
  regs := frR (σ.mem 999999)
  mem := fun o => if 999000000 ≤ o ∧ o < 1000000000 then none else (σ.mem (upId o)).map Ob.down
section
variable {β : Nat → Value} {st : Nat → Prop} {w : World} {v : Value}
theorem RelR.up {β' : Nat → Value} (hβ : ∀ o, β' (upId o) = β o) {r : R} (h : RelR β st w v r) : RelR β' st w v r.up := by
  cases h with
  | any => exact .any
  | a h => exact .a h
  | cs h => exact .cs h
  | ref h => exact .ref ((hβ _).trans h)
  | eref h => exact .eref ((hβ _).trans h)
  | own h h1 => exact .own ((hβ _).trans h) h1
  | omp h h1 => exact .omp ((hβ _).trans h) h1
  | clo h =>
    refine .clo ⟨by simp [h.1], fun i v c hv hc => ?_⟩
    simp only [List.getElem?_map, Option.map_eq_some_iff] at hc
    obtain ⟨c', hc', rfl⟩ := hc
    obtain ⟨b, hb, e⟩ := h.2 i v c' hv hc'
    exact ⟨b, (hβ _).trans hb, e⟩
  | @tp vs xs hl hd =>
    cases xs with
    | nil => exact .tp hl fun j v r _ hr => by simp at hr
    | cons x xs => exact .any
  | agr _ _ _ => exact .any
  | sem h hp =>
    have e : (fun o => β' (upId o)) = β := funext hβ
    refine .sem (by rw [e]; exact h) fun β2 h2 => ?_
    refine hp _ fun o ho => ?_
    rw [h2 _ (List.mem_map.2 ⟨o, ho, rfl⟩), hβ]
theorem RelR.down {β' : Nat → Value} (hβ : ∀ o, 1000000 ≤ o → β' (o - 1000000) = β o) {r : R} (h : RelR β st w v r) : RelR β' st w v r.down := by
  cases h with
  | any => exact .any
  | a h => exact .a h
  | cs h => exact .cs h
  | ref h => simp only [R.down]; split <;> first | exact .any | exact .ref ((hβ _ ‹_›).trans h)
  | eref h => simp only [R.down]; split <;> first | exact .any | exact .eref ((hβ _ ‹_›).trans h)
  | own h h1 => simp only [R.down]; split <;> first | exact .any | exact .own ((hβ _ ‹_›).trans h) h1
  | omp h h1 => simp only [R.down]; split <;> first | exact .any | exact .omp ((hβ _ ‹_›).trans h) h1
  | clo h =>
    simp only [R.down]
    split
    · rename_i hall
      refine .clo ⟨by simp [h.1], fun i v c hv hc => ?_⟩
      simp only [List.getElem?_map, Option.map_eq_some_iff] at hc
      obtain ⟨c', hc', rfl⟩ := hc
      obtain ⟨b, hb, e⟩ := h.2 i v c' hv hc'
      have := List.all_eq_true.1 hall c' (List.mem_of_getElem? hc')
      exact ⟨b, (hβ _ (by simpa using this)).trans hb, e⟩
    · exact .any
  | @tp vs xs hl hd =>
    cases xs with
    | nil => exact .tp hl fun j v r _ hr => by simp at hr
    | cons x xs => exact .any
  | agr _ _ _ => exact .any
  | @sem os p v h hp =>
    simp only [R.down]
    split
    · rename_i hall
      have hge : ∀ o ∈ os, 1000000 ≤ o := fun o ho => by simpa using List.all_eq_true.1 hall o ho
      refine .sem (hp _ fun o ho => hβ o (hge o ho)) fun β2 h2 => hp _ fun o ho => ?_
      show β2 (o - 1000000) = β o
      rw [h2 _ (List.mem_map.2 ⟨o, ho, rfl⟩), hβ o (hge o ho)]
    · exact .any
theorem ObRel.up {β' : Nat → Value} (hβ : ∀ o, β' (upId o) = β o) {x : Ob} (h : ObRel β st w v x) : ObRel β' st w v x.up := by
  cases x with
  | box cs =>
    obtain ⟨b, arr, e, rfl, hb, hr⟩ := h
    refine ⟨b, arr, e, rfl, hb, by simp [hr.1], fun i v r hv hr' => ?_⟩
    simp only [List.getElem?_map, Option.map_eq_some_iff] at hr'
    obtain ⟨r0, h0, rfl⟩ := hr'
    exact ⟨(hr.2 i v r0 hv h0).1, (hr.2 i v r0 hv h0).2.up hβ⟩
  | log e sz xs => exact h
  | mpo kv => exact h
  | iter kv seen => exact h
  | frame vs rs => exact ⟨h.1, fun t => (h.2 t).up hβ⟩
  | sem x =>
    have e : (fun o => β' (upId o)) = β := funext hβ
    show x.p (fun o => β' (upId o)) st w v
    rw [e]; exact h
  | lost => exact h
theorem ObRel.down {β' : Nat → Value} (hβ : ∀ o, 1000000 ≤ o → β' (o - 1000000) = β o) {x : Ob} (h : ObRel β st w v x) : ObRel β' st w v x.down := by
  cases x with
  | box cs =>
    obtain ⟨b, arr, e, rfl, hb, hr⟩ := h
    refine ⟨b, arr, e, rfl, hb, by simp [hr.1], fun i v r hv hr' => ?_⟩
    simp only [List.getElem?_map, Option.map_eq_some_iff] at hr'
    obtain ⟨r0, h0, rfl⟩ := hr'
    exact ⟨(hr.2 i v r0 hv h0).1, (hr.2 i v r0 hv h0).2.down hβ⟩
  | log e sz xs => exact h
  | mpo kv => exact h
  | iter kv seen => exact h
  | frame vs rs => exact ⟨h.1, fun t => (h.2 t).down hβ⟩
  | sem x =>
    simp only [Ob.down]
    split
    · rename_i hall
      exact x.dep (β := β) (fun o ho => hβ o (hall o ho)) h
    · exact fun b hb => x.lt h b hb
  | lost => exact h
end
section
variable {c : Cx} {σ : S} {β : Nat → Value} {a : Act} {w : World}
def cxIn (c : Cx) (N : Nat) (Ds : List Nat) : Cx := { c with N := N, df := [], M := Ds ++ c.M }
def βIn (β : Nat → Value) (o : Nat) : Value := if o < 1000000 then undef else β (o - 1000000)
theorem βIn_add (β : Nat → Value) (o : Nat) : βIn β (upId o) = β o := by unfold βIn; rw [if_neg (by have := upId_le o; omega), upId_sub]
theorem undef_own : ownB undef = none := rfl
theorem enter_at {vs : List Value} {rs : List R} {o : Nat} {x : Ob} (h : (S.enter vs rs σ).mem o = some x) : (o = 999999 ∧ x = .frame vs fun t => (σ.regs t).up) ∨ ∃ o' y, o = upId o' ∧ σ.mem o' = some y ∧ x = y.up := by
  simp only [S.enter] at h
  split at h
  · split at h
    · rename_i e; cases h; exact .inl ⟨e, rfl⟩
    · cases h
  · split at h
    · cases h
    · rename_i h1 _
      obtain ⟨y, hy, rfl⟩ := Option.map_eq_some_iff.1 h
      exact .inr ⟨o - 1000000, y, (upId_of (by omega)).symm, hy, rfl⟩
theorem enter_sim {N : Nat} {rs : List R} {vs : List Value} {Ds : List Nat} (h : Sim c σ β a w) (hM : MarksOk c σ β w (Ds ++ c.M)) (hv : F2 (RelR β (stF c σ β w) w) vs rs) (hN : rs.length ≤ N) :
    Sim (cxIn c N Ds) (S.enter a.tmps.toList rs σ) (βIn β) { tmps := vs.toArray ++ Array.replicate (N - vs.toArray.size) undef, defers := [] } w := by
  have hst : ∀ b, stF c σ β w b → stF (cxIn c N Ds) (S.enter a.tmps.toList rs σ) (βIn β) w b ∧ w.heap[b]? = w.heap[b]? := fun b hb => ⟨⟨hb.1, hb.2.1, fun o x hx => by
    rcases enter_at hx with ⟨rfl, _⟩ | ⟨o', y, rfl, hy, _⟩
    · simp [βIn, undef_own]
    · rw [βIn_add]; exact hb.2.2.1 o' y hy, hb.2.2.2⟩, rfl⟩
  have hl := hv.1
  have hdf : ∃ Ds' : List Nat, ([] : List Deferred) = Ds'.map markD ++ (cxIn c N Ds).df ∧ MarksOk (cxIn c N Ds) (S.enter a.tmps.toList rs σ) (βIn β) w (Ds' ++ (cxIn c N Ds).M) := by
    have := hM.keep (w' := w) (σ' := S.enter a.tmps.toList rs σ) (β' := βIn β) (fun _ _ _ => rfl) fun o x hx => by
      rcases enter_at hx with ⟨rfl, _⟩ | ⟨o', y, rfl, hy, _⟩
      · exact .inr fun b hb => by simp [βIn, undef_own] at hb
      · exact .inl ⟨o', y, hy, βIn_add β o'⟩
    exact ⟨[], rfl, this.nd, this.ok⟩
  refine ⟨h.keep, ?_, hdf, c.hE hst h.ext, fun o x hx => ?_, fun o x b hx hb => ?_, fun o o' x x' b hx hx' hb hb' => ?_, fun t => ?_, h.env.mono hst⟩
  · simp [cxIn]; omega
  · rcases enter_at hx with ⟨rfl, rfl⟩ | ⟨o', y, rfl, hy, rfl⟩
    · refine ⟨by simp [βIn, undef_own], fun t => ?_⟩
      have := ((h.reg t).mono hst).up (βIn_add β)
      rwa [show a.tmps.toList.getD t undef = a.tmps.getD t undef by rw [List.getD_eq_getElem?_getD, Array.getD_eq_getD_getElem?, Array.getElem?_toList]]
    · rw [βIn_add]
      exact ((h.obj o' y hy).mono hst fun _ _ => rfl).up (βIn_add β)
  · rcases enter_at hx with ⟨rfl, rfl⟩ | ⟨o', y, rfl, hy, rfl⟩
    · simp [βIn, undef_own] at hb
    · rw [βIn_add] at hb
      exact (h.blk o' y b hy hb).imp id fun hx => ⟨hx.1, by rw [upId_eq]; omega⟩
  · rcases enter_at hx with ⟨rfl, rfl⟩ | ⟨o1, y, rfl, hy, rfl⟩
    · simp [βIn, undef_own] at hb
    · rcases enter_at hx' with ⟨rfl, rfl⟩ | ⟨o2, y', rfl, hy', rfl⟩
      · simp [βIn, undef_own] at hb'
      · rw [βIn_add] at hb hb'
        rw [h.dis o1 o2 y y' b hy hy' hb hb']
  · simp only [S.enter, argR]
    split
    · rename_i r hr
      obtain ⟨v, hv', hrel⟩ := hv.get hr
      have ht := (List.getElem?_eq_some_iff.1 hv').1
      have : (vs.toArray ++ Array.replicate (N - vs.toArray.size) undef).getD t undef = v := by
        rw [Array.getD_eq_getD_getElem?, Array.getElem?_append_left (by simpa using ht)]
        simp [hv']
      rw [this]
      exact (hrel.mono hst).up (βIn_add β)
    · exact .any
theorem leave_at {o : Nat} {x : Ob} (h : (S.leave σ).mem o = some x) : ¬ (999000000 ≤ o ∧ o < 1000000000) ∧ ∃ y, σ.mem (upId o) = some y ∧ x = y.down := by
  simp only [S.leave] at h
  split at h
  · cases h
  · rename_i h1
    obtain ⟨y, hy, rfl⟩ := Option.map_eq_some_iff.1 h
    exact ⟨h1, y, hy, rfl⟩
theorem leave_sim {N : Nat} {a' : Act} {rs : Nat → R} {Ds : List Nat} (h : Sim (cxIn c N Ds) σ β a' w) (hf : σ.mem 999999 = some (.frame a.tmps.toList rs)) (hsz : a.tmps.size = c.N) (hdf : a.defers = Ds.map markD ++ c.df) :
    Sim c (S.leave σ) (fun o => β (upId o)) a w ∧ ∀ b, stF (cxIn c N Ds) σ β w b → stF c (S.leave σ) (fun o => β (upId o)) w b ∧ w.heap[b]? = w.heap[b]? := by
  have hβ : ∀ o, 1000000 ≤ o → (fun o => β (upId o)) (o - 1000000) = β o := fun o ho => congrArg β (upId_of ho)
  have hst : ∀ b, stF (cxIn c N Ds) σ β w b → stF c (S.leave σ) (fun o => β (upId o)) w b ∧ w.heap[b]? = w.heap[b]? := fun b hb => ⟨⟨hb.1, hb.2.1, fun o x hx => by
    obtain ⟨_, y, hy, _⟩ := leave_at hx
    exact hb.2.2.1 _ y hy, hb.2.2.2⟩, rfl⟩
  have hdf' : ∃ Ds' : List Nat, a.defers = Ds'.map markD ++ c.df ∧ MarksOk c (S.leave σ) (fun o => β (upId o)) w (Ds' ++ c.M) := by
    obtain ⟨Ds', _, m⟩ := h.df
    have m2 := m.keep (w' := w) (σ' := S.leave σ) (β' := fun o => β (upId o)) (fun _ _ _ => rfl) fun o x hx => by
      obtain ⟨_, y, hy, _⟩ := leave_at hx
      exact .inl ⟨_, y, hy, rfl⟩
    exact ⟨Ds, hdf, (List.nodup_append.1 m2.nd).2.1, fun D hD => m2.ok D (List.mem_append_right _ hD)⟩
  refine ⟨⟨h.keep, hsz, hdf', c.hE hst h.ext, fun o x hx => ?_, fun o x b hx hb => ?_, fun o o' x x' b hx hx' hb hb' => ?_, fun t => ?_, h.env.mono hst⟩, hst⟩
  · obtain ⟨_, y, hy, rfl⟩ := leave_at hx
    exact ObRel.down (β' := fun o => β (upId o)) hβ ((h.obj _ y hy).mono hst fun _ _ => rfl)
  · obtain ⟨h1, y, hy, rfl⟩ := leave_at hx
    exact (h.blk _ y b hy hb).imp id fun hx => ⟨hx.1, by have := hx.2; rw [upId_eq] at this; omega⟩
  · obtain ⟨_, y, hy, rfl⟩ := leave_at hx
    obtain ⟨_, y', hy', rfl⟩ := leave_at hx'
    exact upId_inj (h.dis _ _ y y' b hy hy' hb hb')
  · have := RelR.down (β' := fun o => β (upId o)) hβ (((h.obj _ _ hf).2 t).mono hst)
    simp only [S.leave, hf, frR]
    rwa [show a.tmps.toList.getD t undef = a.tmps.getD t undef by rw [List.getD_eq_getElem?_getD, Array.getD_eq_getD_getElem?, Array.getElem?_toList]] at this
end
def resT : List ResultVar → Option (List Tmp)
  | [] => some []
  | .tmp t :: rs => (resT rs).map (t :: ·)
  | .cell _ _ :: _ => none
def fvOf : Option Ob → Option (List Value)
  | some (.frame vs _) => some vs
  | _ => none
/-- The end of a callee's body. -/
noncomputable def postI (vs : List Value) (ts : List Tmp) (K : S → List R → Prop) : Ex → S → Prop
  | .normal, σ | .ret, σ => fvOf (σ.mem 999999) = some vs ∧ K σ.leave (ts.map fun t => (σ.regs t).down)
  | .exit _, _ => False
theorem resT_at : ∀ {vs : List ResultVar} {ts : List Tmp}, resT vs = some ts → vs = ts.map ResultVar.tmp
  | [], ts, h => by cases h; rfl
  | .tmp t :: rs, ts, h => by
    obtain ⟨ts', h', rfl⟩ := Option.map_eq_some_iff.1 h
    rw [resT_at h']; rfl
  | .cell _ _ :: _, ts, h => by cases h
/-- The end of a callee's body, where the memory may be told otherwise. -/
noncomputable def postG (vs : List Value) (ts : List Tmp) (K : S → List R → Prop) : Ex → S → Prop
  | .normal, σ | .ret, σ => ∃ σ', Ghost σ σ' ∧ fvOf (σ'.mem 999999) = some vs ∧ K σ'.leave (ts.map fun t => (σ'.regs t).down)
  | .exit _, _ => False
theorem inl_bodyT {P : Program} {gl : Nat → Option (List D)} {f : FuncId} {fn : Func} {body : Code} {rs : List R} {ts : List Tmp} {σ : S} {K : S → List R → Prop} {vs0 : List Value} (hm : P.follows .mixedOrders = true)
    (hf : P.funcs[f]? = some fn) (hb : fn.body = some body) (hr : resT fn.results.toList = some ts) (hd : dstOK fn.ntmps body = true) (hN : decide (rs.length ≤ fn.ntmps) = true)
    (h : awp P gl body (postG vs0 ts K) (S.enter vs0 rs σ)) (c : Cx) (β : Nat → Value) (a : Act) (w : World) (vs : List Value) (hP : c.P = P) (hgl : c.gl = gl) (hvs : a.tmps.toList = vs0) (hs : Sim c σ β a w) (hv : F2 (RelR β (stF c σ β w) w) vs rs) :
    Calls P f vs.toArray w fun e w' => ∃ (us : List Value) (rs' : List R) (σ' : S) (β' : Nat → Value), e = .returned (retV us) ∧ Sim c σ' β' a w' ∧ F2 (RelR β' (stF c σ' β' w') w') us rs' ∧ K σ' rs' := by
  subst hP; subst hgl; subst hvs
  rw [← callsIn_wide (n := 0)]
  refine callsIn_of_wp_marks hf hb trivial ?_
  have hwf : Fence.wide = WF none := rfl
  obtain ⟨Ds, hds, hM⟩ := hs.df
  refine wpIn_mono (awp_sound (c := cxIn c fn.ntmps Ds) (ρ := none) hm body hd (.inl rfl) h (enter_sim hs hM hv (by simpa using hN))) fun e a' w' hq => ?_
  have fin : ∀ σ' β' a' w', Sim (cxIn c fn.ntmps Ds) σ' β' a' w' → fvOf (σ'.mem 999999) = some a.tmps.toList → K σ'.leave (ts.map fun t => (σ'.regs t).down) → ∃ v, (results fn a'.tmps).run c.P w' = .ok v w' ∧
      ∃ (us : List Value) (rs' : List R) (σ'' : S) (β'' : Nat → Value), Ending.returned v = .returned (retV us) ∧ Sim c σ'' β'' a w' ∧ F2 (RelR β'' (stF c σ'' β'' w') w') us rs' ∧ K σ'' rs' := by
    intro σ' β' a' w' hs' hfv hk
    obtain ⟨rs', hfr⟩ : ∃ rs', σ'.mem 999999 = some (.frame a.tmps.toList rs') := by
      unfold fvOf at hfv
      split at hfv
      · rename_i vs' rs' e; cases hfv; exact ⟨rs', e⟩
      · cases hfv
    obtain ⟨hl, hst⟩ := leave_sim (a := a) hs' hfr hs.size hds
    have hβ : ∀ o, 1000000 ≤ o → (fun o => β' (upId o)) (o - 1000000) = β' o := fun o ho => congrArg β' (upId_of ho)
    refine ⟨retV (ts.map fun t => a'.tmps.getD t undef), ?_, ts.map fun t => a'.tmps.getD t undef, _, _, _, rfl, hl, ⟨by simp, fun i u r hu hr' => ?_⟩, hk⟩
    · have hrun : (fn.results.mapM (resG a'.tmps)).run c.P w' = .ok (ts.map fun t => a'.tmps.getD t undef).toArray w' := by
        have e1 : (ts.map fun t => a'.tmps.getD t undef) = fn.results.toList.map (resV c.P a'.tmps w') := by
          rw [resT_at hr, List.map_map]; rfl
        rw [e1]
        exact run_mapM_arr _ (resV c.P a'.tmps w') fun v hv => by
          have : v ∈ fn.results.toList := by simpa using hv
          rw [resT_at hr] at this
          obtain ⟨t, _, rfl⟩ := List.mem_map.1 this
          rfl
      have : results fn a'.tmps = (do let vs ← fn.results.mapM (resG a'.tmps); pure (if h : vs.size = 1 then vs[0] else .tuple vs)) := rfl
      rw [this, Sem.run_bind, hrun, Result.andThen_ok]
      show Result.ok _ _ = _
      congr 1
      match ts with
      | [] => rfl
      | [_] => rfl
      | _ :: _ :: _ => simp [retV]
    · simp only [List.getElem?_map, Option.map_eq_some_iff] at hu hr'
      obtain ⟨t, ht, rfl⟩ := hu
      obtain ⟨t', ht', rfl⟩ := hr'
      rw [ht] at ht'; cases ht'
      exact RelR.down (β' := fun o => β' (upId o)) hβ ((hs'.reg t).mono hst)
  have out : ∀ σ' β', Sim (cxIn c fn.ntmps Ds) σ' β' a' w' → postG a.tmps.toList ts K .ret σ' → LeavesInM Fence.wide 0 c.P fn a'.tmps (fun e w' => ∃ (us : List Value) (rs' : List R) (σ' : S) (β' : Nat → Value), e = .returned (retV us) ∧ Sim c σ' β' a w' ∧ F2 (RelR β' (stF c σ' β' w') w') us rs' ∧ K σ' rs') a'.defers .returning w' := by
    rintro σ' β' hs' ⟨σ'', hg, hk⟩
    obtain ⟨β'', hs''⟩ := hg _ _ _ _ hs'
    obtain ⟨Ds', hd', hm'⟩ := hs''.df
    rw [show (cxIn c fn.ntmps Ds).df = [] from rfl, List.append_nil] at hd'
    rw [hd']
    exact marks_out (c := cxIn c fn.ntmps Ds) rfl Ds' hs'' hd' hm' fun a2 w2 _ _ hs2 => fin σ'' β'' a2 w2 hs2 hk.1 hk.2
  cases e with
  | normal => obtain ⟨σ', β', hs', hk⟩ := hq; exact out σ' β' hs' hk
  | ret => obtain ⟨σ', β', hs', hk⟩ := hq; exact out σ' β' hs' hk
  | exit id => obtain ⟨σ', β', hs', hk⟩ := hq; exact hk.elim
  | goto l => exact hq.elim
  | panic ch => exact hq.elim
  | outgrown => exact hq.elim
theorem inl_bodyG {P : Program} {gl : Nat → Option (List D)} {f : FuncId} {fn : Func} {body : Code} {rs : List R} {ts : List Tmp} {σ : S} {K : S → List R → Prop} (hm : P.follows .mixedOrders = true)
    (hf : P.funcs[f]? = some fn) (hb : fn.body = some body) (hr : resT fn.results.toList = some ts) (hname : (fn.name == "runtime.NumGoroutine") = false) (hd : dstOK fn.ntmps body = true) (hN : decide (rs.length ≤ fn.ntmps) = true)
    (h : ∀ vs, awp P gl body (postG vs ts K) (S.enter vs rs σ)) : Inl P gl f rs σ K :=
  ⟨⟨fn, hf, by rw [hb]; rfl, hname⟩, fun c β a w vs hP hgl hs hv => inl_bodyT hm hf hb hr hd hN (h a.tmps.toList) c β a w vs hP hgl rfl hs hv⟩
theorem inl_body {P : Program} {gl : Nat → Option (List D)} {f : FuncId} {fn : Func} {body : Code} {rs : List R} {ts : List Tmp} {σ : S} {K : S → List R → Prop} (hm : P.follows .mixedOrders = true)
    (hf : P.funcs[f]? = some fn) (hb : fn.body = some body) (hr : resT fn.results.toList = some ts) (hname : (fn.name == "runtime.NumGoroutine") = false) (hd : dstOK fn.ntmps body = true) (hN : decide (rs.length ≤ fn.ntmps) = true)
    (h : ∀ vs, awp P gl body (postI vs ts K) (S.enter vs rs σ)) : Inl P gl f rs σ K :=
  inl_bodyG hm hf hb hr hname hd hN fun vs => awp_mono body (fun e σ he => by
    cases e with
    | normal => exact ⟨σ, fun c β a w h => ⟨β, h⟩, he⟩
    | ret => exact ⟨σ, fun c β a w h => ⟨β, h⟩, he⟩
    | exit id => exact he) (h vs)
/-! ### Stores into rows of one's own -/
theorem allD_map : ∀ (ds : List D), allD (ds.map fun d => R.a (.d d)) = some ds
  | [] => rfl
  | d :: ds => by simp [allD, allD_map ds]
theorem st_eref_ag {P : Program} {σ : S} {t o i sz : Nat} {ti : TI} {e : TypeId} {xs : List (List D)} {y ds : List D} (hti : tinf P t = some ti) (hm : σ.mem o = some (.log e sz xs)) (hy : xs[i]? = some y) (hyl : y.length = sz) (hds : ds.length = sz) (hsz : ti.sz = sz) (h2 : 2 ≤ sz) :
    storeR P σ t (.eref o i sz 0) (.a (.ag ds)) = some (σ.setOb o (.log e sz (xs.set i ds))) := by
  simp only [storeR, hti, cellsR, hm, hy, allD_map]
  rw [if_pos (by simp [hds, hsz]), if_pos (by omega)]
  match ds, hds with
  | [], hds => simp at hds; omega
  | [d], hds => simp at hds; omega
  | d :: d2 :: ds, hds =>
    have hdr : y.drop (ds.length + 1 + 1) = [] := List.drop_eq_nil_of_le (by simp at hds; omega)
    simp [hdr]
theorem st_eref_one {P : Program} {σ : S} {t o i sz j : Nat} {ti : TI} {e : TypeId} {xs : List (List D)} {y : List D} {d : D} (hti : tinf P t = some ti) (hm : σ.mem o = some (.log e sz xs)) (hy : xs[i]? = some y) (hyl : y.length = sz) (hj : j < sz) (hsz : ti.sz = 1) :
    storeR P σ t (.eref o i sz j) (.a (.d d)) = some (σ.setOb o (.log e sz (xs.set i (y.set j d)))) := by
  simp only [storeR, hti, cellsR, hm, hy, allD]
  rw [if_pos (by simp [hsz])]
  simp only [Option.map_some]
  rw [if_pos (by simp; omega)]
/-! ### The rules -/
noncomputable def upF (reg : Nat → R) : Nat → R := fun t => (reg t).up
def killR (o : Nat) (reg : Nat → R) : Nat → R := fun t => (reg t).kill o
def frzR (o : Nat) (f : Nat → D) (reg : Nat → R) : Nat → R := fun t => (reg t).frz o f
theorem kr_go {o t : Nat} {reg : Nat → R} : killR o reg t = (reg t).kill o := rfl
theorem fz_go {o t : Nat} {f : Nat → D} {reg : Nat → R} : frzR o f reg t = (reg t).frz o f := rfl
section
variable {vs : List Value} {rs : List R} {σ : S} {o t f : Nat} {reg : Nat → R}
theorem up_any : R.up .any = .any := rfl
theorem up_a {x : A} : R.up (.a x) = .a x := rfl
theorem up_cs {xs : List (List D)} : R.up (.cs xs) = .cs xs := rfl
theorem up_ref : R.up (.ref o f) = .ref (upId o) f := rfl
theorem up_eref {i s j : Nat} : R.up (.eref o i s j) = .eref (upId o) i s j := rfl
theorem up_own : R.up (.own o) = .own (upId o) := rfl
theorem up_omp : R.up (.omp o) = .omp (upId o) := rfl
theorem up_tp : R.up (.tp []) = .tp [] := rfl
theorem up_clo {g : FuncId} : R.up (.clo g [(o, f)]) = .clo g [(upId o, f)] := rfl
theorem dn_any : R.down .any = .any := rfl
theorem dn_a {x : A} : R.down (.a x) = .a x := rfl
theorem dn_cs {xs : List (List D)} : R.down (.cs xs) = .cs xs := rfl
theorem dn_ref : R.down (.ref (upId o) f) = .ref o f := by simp [R.down, upId_sub, upId_le]
theorem dn_eref {i s j : Nat} : R.down (.eref (upId o) i s j) = .eref o i s j := by simp [R.down, upId_sub, upId_le]
theorem dn_own : R.down (.own (upId o)) = .own o := by simp [R.down, upId_sub, upId_le]
theorem dn_omp : R.down (.omp (upId o)) = .omp o := by simp [R.down, upId_sub, upId_le]
theorem dn_tp : R.down (.tp []) = .tp [] := rfl
theorem dn_clo {g : FuncId} : R.down (.clo g [(upId o, f)]) = .clo g [(o, f)] := by simp [R.down, upId_sub, upId_le]
theorem ou_log {e : TypeId} {z : Nat} {xs : List (List D)} : Ob.up (.log e z xs) = .log e z xs := rfl
theorem ou_box {cs : List R} : Ob.up (.box cs) = .box (cs.map R.up) := rfl
theorem ou_mpo {kv : List (Int × D)} : Ob.up (.mpo kv) = .mpo kv := rfl
theorem od_log {e : TypeId} {z : Nat} {xs : List (List D)} : Ob.down (.log e z xs) = .log e z xs := rfl
theorem od_box {cs : List R} : Ob.down (.box cs) = .box (cs.map R.down) := rfl
theorem od_mpo {kv : List (Int × D)} : Ob.down (.mpo kv) = .mpo kv := rfl
theorem en_r : (S.enter vs rs σ).regs t = argR rs t := rfl
theorem ar_0 {r : R} : argR (r :: rs) 0 = r.up := rfl
theorem ar_s {r : R} {n : Nat} : argR (r :: rs) (n + 1) = argR rs n := rfl
theorem ar_n : argR [] t = .any := rfl
theorem me_f : (S.enter vs rs σ).mem 999999 = some (.frame vs (upF σ.regs)) := by
  simp only [S.enter]
  rw [if_pos (by omega), if_pos trivial]; rfl
theorem me_hi (h : decide (o < 999000000) = true) : (S.enter vs rs σ).mem (upId o) = (σ.mem o).map Ob.up := by
  have := of_decide_eq_true h
  have h1 := upId_eq o
  simp only [S.enter]
  rw [if_neg (by omega), if_neg (by omega), upId_sub]
theorem ne_up {o' : Nat} (h : o < 1000000) : (upId o' == o) = false := beq_eq_false_iff_ne.2 (by have := upId_le o'; omega)
theorem any_up1 (h : o < 1000000) : ∀ l : List Nat, ((l.map upId).any fun o' => o' == o) = false
  | [] => rfl
  | x :: l => by simp only [List.map_cons, List.any_cons, ne_up h, any_up1 h l, Bool.or_self]
theorem any_up2 (h : o < 1000000) : ∀ l : List (Nat × Nat), ((l.map fun c => (upId c.1, c.2)).any fun c => c.1 == o) = false
  | [] => rfl
  | x :: l => by simp only [List.map_cons, List.any_cons, ne_up h, any_up2 h l, Bool.or_self]
theorem says_up_lo {r : R} (h : o < 1000000) : r.up.says o = false := by
  cases r with
  | any => rfl
  | a x => rfl
  | cs x => rfl
  | ref o' f => exact ne_up h
  | eref o' i s j => exact ne_up h
  | own o' => exact ne_up h
  | omp o' => exact ne_up h
  | clo g caps => exact any_up2 h caps
  | tp xs => cases xs <;> rfl
  | agr xs => rfl
  | sem os p => exact any_up1 h os
theorem kill_up_lo {r : R} (h : o < 1000000) : r.up.kill o = r.up := by
  unfold R.kill; rw [says_up_lo h]; rfl
theorem frz_not {r : R} {g : Nat → D} (h : r.says o = false) : r.frz o g = r := by
  cases r with
  | any => rfl
  | a x => rfl
  | cs x => rfl
  | ref o' f =>
    have : ¬ o' = o := by simpa [R.says, R.says0] using h
    simp [R.frz, this]
  | own o' =>
    have : ¬ o' = o := by simpa [R.says, R.says0] using h
    simp [R.frz, this]
  | omp o' =>
    have : ¬ o' = o := by simpa [R.says, R.says0] using h
    simp [R.frz, this]
  | eref o' i s j => show (if _ then _ else _) = _; rw [h]; rfl
  | clo f caps => show (if _ then _ else _) = _; rw [h]; rfl
  | tp xs => show (if _ then _ else _) = _; rw [h]; rfl
  | agr xs => show (if _ then _ else _) = _; rw [h]; rfl
  | sem os p => show (if _ then _ else _) = _; rw [h]; rfl
theorem frz_up_lo {r : R} {g : Nat → D} (h : o < 1000000) : r.up.frz o g = r.up := frz_not (says_up_lo h)
theorem beq_up2 {o' : Nat} : (upId o' == upId o) = (o' == o) := by
  by_cases h : o' = o
  · subst h; simp
  · rw [beq_eq_false_iff_ne.2 h, beq_eq_false_iff_ne.2 fun e => h (upId_inj e)]
theorem any_hi1 : ∀ l : List Nat, ((l.map upId).any fun o' => o' == upId o) = l.any fun o' => o' == o
  | [] => rfl
  | x :: l => by simp only [List.map_cons, List.any_cons, beq_up2, any_hi1 l]
theorem any_hi2 : ∀ l : List (Nat × Nat), ((l.map fun c => (upId c.1, c.2)).any fun c => c.1 == upId o) = l.any fun c => c.1 == o
  | [] => rfl
  | x :: l => by simp only [List.map_cons, List.any_cons, beq_up2, any_hi2 l]
theorem says_up_hi {r : R} (h : ∀ x xs, r ≠ .tp (x :: xs)) (h' : ∀ xs, r ≠ .agr xs) : r.up.says (upId o) = r.says o := by
  cases r with
  | any => rfl
  | a x => rfl
  | cs x => rfl
  | ref o' f => exact beq_up2
  | eref o' i s j => exact beq_up2
  | own o' => exact beq_up2
  | omp o' => exact beq_up2
  | clo g caps => exact any_hi2 caps
  | tp xs =>
    cases xs with
    | nil => rfl
    | cons x xs => exact absurd rfl (h x xs)
  | agr xs => exact absurd rfl (h' xs)
  | sem os p => exact any_hi1 os
theorem kill_up_hi {r : R} : r.up.kill (upId o) = (r.kill o).up := by
  by_cases h' : ∃ xs, r = .agr xs
  · obtain ⟨xs, rfl⟩ := h'
    show R.any = _
    unfold R.kill; split <;> rfl
  · by_cases h : ∀ x xs, r ≠ .tp (x :: xs)
    · unfold R.kill; rw [says_up_hi h fun xs e => h' ⟨xs, e⟩]; split <;> rfl
    · simp only [ne_eq, Classical.not_forall, Classical.not_not] at h
      obtain ⟨x, xs, rfl⟩ := h
      show R.any = _
      unfold R.kill; split <;> rfl
theorem frz_up_hi {r : R} {g : Nat → D} : r.up.frz (upId o) g = (r.frz o g).up := by
  have e : ∀ {o'}, (upId o' = upId o) = (o' = o) := fun {o'} => propext ⟨upId_inj, fun h => h ▸ rfl⟩
  cases r with
  | any => rfl
  | a x => rfl
  | cs x => rfl
  | ref o' f => simp only [R.up, R.frz, e]; split <;> rfl
  | own o' => simp only [R.up, R.frz, e]; split <;> rfl
  | omp o' => simp only [R.up, R.frz, e]; split <;> rfl
  | eref o' i s j =>
    have := says_up_hi (o := o) (r := .eref o' i s j) (fun x xs h => by cases h) (fun xs h => by cases h)
    show (if _ then _ else _) = R.up (if _ then _ else _)
    rw [this]; split <;> rfl
  | clo f caps =>
    have := says_up_hi (o := o) (r := .clo f caps) (fun x xs h => by cases h) (fun xs h => by cases h)
    show (if _ then _ else _) = R.up (if _ then _ else _)
    rw [this]; split <;> rfl
  | tp xs =>
    cases xs with
    | nil => rfl
    | cons x xs => show R.any = R.up (if _ then _ else _); split <;> rfl
  | agr xs => show R.any = R.up (if _ then _ else _); split <;> rfl
  | sem os p =>
    have := says_up_hi (o := o) (r := .sem os p) (fun x xs h => by cases h) (fun xs h => by cases h)
    show (if _ then _ else _) = R.up (if _ then _ else _)
    rw [this]; split <;> rfl
theorem kf_lo (h : decide (o < 1000000) = true) : Ob.kill o (.frame vs (upF reg)) = .frame vs (upF reg) := by
  simp only [Ob.kill]; congr 1; exact funext fun t => kill_up_lo (of_decide_eq_true h)
theorem kf_hi : Ob.kill (upId o) (.frame vs (upF reg)) = .frame vs (upF (killR o reg)) := by
  simp only [Ob.kill]; congr 1; exact funext fun t => kill_up_hi
theorem ff_lo {g : Nat → D} (h : decide (o < 1000000) = true) : Ob.frz o g (.frame vs (upF reg)) = .frame vs (upF reg) := by
  simp only [Ob.frz]; congr 1; exact funext fun t => frz_up_lo (of_decide_eq_true h)
theorem ff_hi {g : Nat → D} : Ob.frz (upId o) g (.frame vs (upF reg)) = .frame vs (upF (frzR o g reg)) := by
  simp only [Ob.frz]; congr 1; exact funext fun t => frz_up_hi
theorem lv_r : (S.leave σ).regs t = frR (σ.mem 999999) t := rfl
theorem lv_f : frR (some (.frame vs (upF reg))) t = ((reg t).up).down := rfl
theorem lv_m (h : decide (o < 999000000) = true) : (S.leave σ).mem o = (σ.mem (upId o)).map Ob.down := by
  have := of_decide_eq_true h
  simp only [S.leave]; rw [if_neg (by omega)]
theorem fv_go : fvOf (some (.frame vs reg)) = some vs := rfl
theorem pi_r {ts : List Tmp} {K : S → List R → Prop} : postI vs ts K .ret σ = (fvOf (σ.mem 999999) = some vs ∧ K σ.leave (ts.map fun t => (σ.regs t).down)) := rfl
theorem pi_n {ts : List Tmp} {K : S → List R → Prop} : postI vs ts K .normal σ = (fvOf (σ.mem 999999) = some vs ∧ K σ.leave (ts.map fun t => (σ.regs t).down)) := rfl
/-- Ids of a caller's are none of a callee's own. -/
theorem up_beq {d : Nat} (h : decide (d < 1000000) = true) : (upId o == d) = false := ne_up (of_decide_eq_true h)
theorem beq_up {d : Nat} (h : decide (d < 1000000) = true) : (d == upId o) = false := by
  rw [BEq.comm]; exact ne_up (of_decide_eq_true h)
theorem up_up {o' : Nat} : (upId o == upId o') = (o == o') := beq_up2
theorem up_lt (h : decide (o < 999000000) = true) : decide (upId o < 1000000000) = true := by
  have := of_decide_eq_true h
  have := upId_eq o
  exact decide_eq_true (by omega)
theorem up_ltP (h : decide (o < 999000000) = true) : (upId o < 1000000000) = True := eq_true (of_decide_eq_true (up_lt h))
end
def PI :=
  And.intro (@kr_go) <| And.intro (@fz_go) <| And.intro (@up_any) <| And.intro (@up_a) <| And.intro (@up_cs) <| And.intro (@up_ref) <| And.intro (@up_eref) <| And.intro (@up_own) <| And.intro (@up_omp) <| And.intro (@up_tp) <| And.intro (@up_clo) <| And.intro (@dn_any) <| And.intro (@dn_a) <| And.intro (@dn_cs) <| And.intro (@dn_ref) <| And.intro (@dn_eref) <| And.intro (@dn_own) <| And.intro (@dn_omp) <| And.intro (@dn_tp) <| And.intro (@dn_clo) <| And.intro (@ou_log) <| And.intro (@ou_box) <| And.intro (@ou_mpo) <| And.intro (@od_log) <| And.intro (@od_box) <| And.intro (@od_mpo) <| And.intro (@en_r) <| And.intro (@ar_0) <| And.intro (@ar_s) <| And.intro (@ar_n) <| And.intro (@me_f) <| And.intro (@me_hi) <| And.intro (@kf_lo) <| And.intro (@kf_hi) <| And.intro (@ff_lo) <| And.intro (@ff_hi) <| And.intro (@lv_r) <| And.intro (@lv_f) <| And.intro (@lv_m) <| And.intro (@fv_go) <| And.intro (@pi_r) <| And.intro (@pi_n) <| And.intro (@up_beq) <| And.intro (@beq_up) <| And.intro (@up_lt) <| And.intro (@up_ltP) <| @up_up
end Go.VC
