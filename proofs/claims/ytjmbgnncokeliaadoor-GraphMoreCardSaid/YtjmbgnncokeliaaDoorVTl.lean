/- Regions that draw their order, of which quiet parts may come behind others: what they tell is asked again. -/
import Derived.Test.YtjmbgnncokeliaaDoorVW
set_option maxRecDepth 100000
set_option linter.unusedSimpArgs false
set_option linter.unusedVariables false
set_option linter.defProp false
namespace Go.VC
open Go.RowKit
theorem put_inj {a a' : Act} {dst : Option Tmp} {v v' : Value} (hsz : a.tmps.size = a'.tmps.size) (h : a'.put dst v = a'.put dst v') : a.put dst v = a.put dst v' := by
  cases dst with
  | none => rfl
  | some d =>
    by_cases hd : d < a'.tmps.size
    · have h1 := congrArg (fun z : Act => z.tmps[d]?) h
      simp only [Act.put, Array.getElem?_setIfInBounds, if_true, hd] at h1
      cases h1; rfl
    · have hd' : ¬ d < a.tmps.size := by rw [hsz]; exact hd
      simp only [Act.put]
      rw [Array.setIfInBounds_eq_of_size_le (Nat.le_of_not_lt hd'), Array.setIfInBounds_eq_of_size_le (Nat.le_of_not_lt hd')]
theorem Run.congr {P : Program} {o : Oper} {a a' : Act} {w : World} {Z : Value → World → Prop} (hdf : ∀ c, o.op ≠ .defer c) (hs : ∀ cs b, o.op ≠ .select cs b) (hx : ∀ x ∈ o.op.operands, a.eval x = a'.eval x) (hsz : a.tmps.size = a'.tmps.size)
    (h : Run P o a' w Z) : Run P o a w Z := by
  intro ρ n next Q hn
  have h1 := h ρ n (fun act w' => ∃ v, act = a'.put o.dst v ∧ next (a.put o.dst v) w') (fun e _ w' => Q e a w') fun v w' hz => ⟨v, rfl, hn v w' hz⟩
  refine ⟨fun _ _ => trivial, ?_⟩
  have h2 := h1.2
  rw [Oper.semAt_eq _ _ _ hdf] at h2 ⊢
  rw [execOp_congr o hs hx]
  have nx : ∀ v w', (∃ v', a'.put o.dst v = a'.put o.dst v' ∧ next (a.put o.dst v') w') → next (a.put o.dst v) w' := fun v w' ⟨v', e, k⟩ => by rw [put_inj hsz e]; exact k
  generalize (execOp a'.eval o).run P w = res at h2
  cases res with
  | ok x w' =>
    cases x <;> simp only [Oper.uponIn] at h2 ⊢
    case value v => exact nx _ _ h2
    case skip => exact nx _ _ h2
    case defer d =>
      obtain ⟨v, e, _⟩ := h2
      exfalso
      have := congrArg (fun z : Act => z.defers.length) e
      cases hd : o.dst <;> rw [hd] at this <;> simp [Act.put] at this
    case enter f args => exact ⟨h2.1, CallsIn.mono h2.2 fun e w'' he => by cases e <;> first | exact nx _ _ he | exact he | (obtain ⟨_, w3, h3⟩ := he; exact ⟨a, w3, h3⟩)⟩
    case row r args => exact ⟨h2.1, RowsIn.mono h2.2 fun v w'' he => nx _ _ he⟩
    case round l f tmps asg body => exact ⟨h2.1, RoundIn.mono h2.2 fun e w'' he => by cases e <;> first | exact nx _ _ he | exact he | (obtain ⟨_, w3, h3⟩ := he; exact ⟨a, w3, h3⟩)⟩
  | halt x w' => cases x <;> simp only [Oper.uponIn] at h2 ⊢ <;> exact h2
section
variable {c : Cx} {σ : S} {β : Nat → Value} {a : Act} {w : World} {o : Oper} {K : R → Prop}
/-- Operations that may come late: they read, and turn nothing. -/
def lagO (o : Oper) : Bool := o.guard.isNone && match o.op with
  | .move (.tmp _) | .load _ (.tmp _) | .fieldAddr _ (.tmp _) _ | .nilCheck (.tmp _) | .indexAddr _ (.tmp _) (.tmp _) => true
  | _ => false
theorem lag_eval (h : Sim c σ β a w) (hl : lagO o = true) (hq : opQ c.P c.gl o σ K) : ∃ v r, (execOp a.eval o).run c.P w = .ok (.value v) w ∧ K r ∧ RelR β (stF c σ β w) w v r := by
  unfold lagO at hl
  unfold opQ at hq
  split at hq
  case h_1 x ho => exact ⟨_, _, by simp [execOp, ho], hq, h.eval x⟩
  case h_4 t p ho =>
    split at hq
    · rename_i r hr
      obtain ⟨v, hv, hrel⟩ := load_run h hr
      exact ⟨v, r, by simp [execOp, ho, hv], hq, hrel⟩
    · exact hq.elim
  case h_5 t p f ho =>
    split at hq
    · rename_i offs ht
      split at hq
      · rename_i fo fs b hf
        obtain ⟨hz, hq⟩ := hq
        have hp := h.eval p
        split at hq
        · rename_i ob off he
          rw [he] at hp
          obtain ⟨bl, hb, hv⟩ := hp.inv_ref
          exact ⟨_, _, by simp [execOp, ho, hv, part_off ht hf hz], hq, .ref hb⟩
        · rename_i cs he
          rw [he] at hp
          obtain ⟨bl, off, arr, e, fr, hv, _⟩ := hp.inv_d.inv_pt
          have := hp.inv_d
          rw [hv] at this
          exact ⟨_, _, by simp [execOp, ho, hv, part_off ht hf hz], hq, .a (this.pt_drop fo)⟩
        · rename_i ob i sz j he
          rw [he] at hp
          obtain ⟨bl, n, cp, hb, hv⟩ := hp.inv_eref
          exact ⟨.pointer (some ⟨bl, i * sz + j + fo, none⟩), _, by simp [execOp, ho, hv, part_off ht hf hz], hq, by rw [Nat.add_assoc]; exact .eref hb⟩
        · exact hq.elim
      · exact hq.elim
    · exact hq.elim
  case h_6 t x i ho =>
    split at hq
    · rename_i k n hi
      have hiv := h.eval i
      rw [hi] at hiv
      have hn := hiv.inv_v
      split at hq
      · rename_i e ht
        split at hq
        · rename_i ti hti
          have hx := h.eval x
          have row : ∀ xs, Rd (stF c σ β w) w (a.eval x) (.sl xs) → idxK n xs ti.sz (fun c => K (.a (.d (.pt c)))) → ∃ v r, (execOp a.eval o).run c.P w = .ok (.value v) w ∧ K r ∧ RelR β (stF c σ β w) w v r := by
            intro xs hr hk
            obtain ⟨h0, hk⟩ := hk
            split at hk
            · rename_i cc hcc
              obtain ⟨hsz, hk⟩ := hk
              have hlt := (List.getElem?_eq_some_iff.1 hcc).1
              rcases hr.inv_sl with ⟨_, rfl⟩ | ⟨b, off, len, cap, sz, arr, e', fr, hv, hlen, hc1, hc2, hst, hb, hall, hcell⟩
              · simp at hcc
              · have hs : sz = ti.sz := (hall cc (List.mem_of_getElem? hcc)).symm.trans hsz
                subst hs
                refine ⟨.pointer (some ⟨b, off + n.toNat * ti.sz, none⟩), _, by simp [execOp, ho, hv, hn, idx_slice ht hti h0 (show n < (len : Int) by omega)], hk, .a (Rd.mk_pt hst hb fun j d hj => ?_)⟩
                exact hcell _ cc j d hcc hj
            · exact hk.elim
          split at hq
          · rename_i xs he
            rw [he] at hx
            exact row xs hx.inv_d hq
          · rename_i xs he
            rw [he] at hx
            obtain ⟨p, m, hv, hr⟩ := hx.inv_cs
            exact row xs (hv ▸ hr) hq
          · rename_i ob he
            rw [he] at hx
            split at hq
            · rename_i e' sz xs hm
              obtain ⟨h0, hk⟩ := hq
              split at hk
              · rename_i cc hcc
                obtain ⟨hsz, hk⟩ := hk
                have hlt := (List.getElem?_eq_some_iff.1 hcc).1
                obtain ⟨cells, hrow, hf, hall⟩ := h.obj ob _ hm
                rcases hrow.cells with ⟨_, hz, _⟩ | ⟨g, cap, cur, hv, _⟩
                · omega
                · have hv' : a.eval x = .slice (some ⟨g, 0, none⟩) xs.length cap := hx.inv_own.trans hv
                  refine ⟨.pointer (some ⟨g, 0 + n.toNat * ti.sz, none⟩), _, by simp [execOp, ho, hv', hn, idx_slice ht hti h0 (show n < (xs.length : Int) by omega)], hk, ?_⟩
                  have := RelR.eref (β := β) (st := stF c σ β w) (w := w) (o := ob) (i := n.toNat) (sz := ti.sz) (j := 0) hv
                  simpa using this
              · exact hk.elim
            · exact hq.elim
          · exact hq.elim
        · exact hq.elim
      · rename_i len e ht
        split at hq
        · rename_i ti hti
          obtain ⟨h0, h1, hq⟩ := hq
          have hx := h.eval x
          split at hq
          · rename_i ob off he
            rw [he] at hx
            obtain ⟨bl, hb, hv⟩ := hx.inv_ref
            exact ⟨_, _, by simp [execOp, ho, hv, hn, idx_arr ht hti h0 h1], hq, .ref hb⟩
          · rename_i cs he
            rw [he] at hx
            obtain ⟨bl, off, arr, e, fr, hv, _⟩ := hx.inv_d.inv_pt
            have := hx.inv_d
            rw [hv] at this
            exact ⟨_, _, by simp [execOp, ho, hv, hn, idx_arr ht hti h0 h1], hq, .a (this.pt_drop _)⟩
          · exact hq.elim
        · exact hq.elim
      · exact hq.elim
    · exact hq.elim
  case h_7 x ho =>
    have hx := h.eval x
    split at hq
    · rename_i ob off he
      rw [he] at hx
      obtain ⟨bl, hb, hv⟩ := hx.inv_ref
      exact ⟨_, _, by simp [execOp, ho, hv], hq, .ref hb⟩
    · rename_i cs he
      rw [he] at hx
      obtain ⟨bl, off, arr, e, fr, hv, _⟩ := hx.inv_d.inv_pt
      have := hx.inv_d
      rw [hv] at this
      exact ⟨_, _, by simp [execOp, ho, hv], hq, .a this⟩
    · rename_i ob i sz j he
      rw [he] at hx
      obtain ⟨bl, n, cp, hb, hv⟩ := hx.inv_eref
      exact ⟨_, _, by simp [execOp, ho, hv], hq, .eref hb⟩
    · exact hq.elim
  all_goals first | exact hq.elim | (rename_i ho; simp [ho] at hl)
end
/-! ### Which regions -/
def depT (ops : Array Oper) (i : Nat) : Array Bool := depA ops (Array.replicate ops.size false) i
def edgeTo (o : Oper) (j : Nat) : Bool := o.after.any fun e => Region.binds .any e && e.on == j
def lagB (ops : Array Oper) : Bool := (List.range ops.size).all fun i => match ops[i]? with
  | none => false
  | some o => o.guard.isNone && (o.after.all fun e => !Region.binds .any e || decide (e.on < i)) &&
      ((List.range ops.size).all fun j => match ops[j]? with
        | none => false
        | some oj => match oj.dst with
          | none => true
          | some d => (i == j || o.dst != some d) && (!lagO oj || !(o.looksAt ops).contains d || edgeTo o j)) &&
      (!lagO o || o.dst.isSome) && (lagO o || (List.range ops.size).all fun j => decide (j ≤ i) || (depT ops i).getD j false) &&
      ((List.range (depT ops i).size).all fun j => !(depT ops i).getD j false || match ops[j]? with
        | none => false
        | some oj => oj.after.any fun e => Region.binds .any e && (e.on == i || (depT ops i).getD e.on false)) &&
      (match o.op with
        | .defer _ | .select _ _ => false
        | _ => true)
structure LagAt (ops : Array Oper) (i : Nat) (o : Oper) : Prop where
  guard : o.guard = none
  low : ∀ e ∈ o.after, Region.binds .any e = true → e.on < i
  dst : ∀ j oj d, ops[j]? = some oj → oj.dst = some d → i ≠ j → o.dst ≠ some d
  look : ∀ j oj d, ops[j]? = some oj → lagO oj = true → oj.dst = some d → d ∈ o.looksAt ops → ∃ e ∈ o.after, Region.binds .any e = true ∧ e.on = j
  some_ : lagO o = true → ∃ d, o.dst = some d
  all_ : lagO o = false → ∀ j, i < j → j < ops.size → (depT ops i).getD j false = true
  dep : ∀ j, (depT ops i).getD j false = true → ∃ oj, ops[j]? = some oj ∧ ∃ e ∈ oj.after, Region.binds .any e = true ∧ (e.on = i ∨ (depT ops i).getD e.on false = true)
  dfr : ∀ c, o.op ≠ .defer c
  sel : ∀ cs b, o.op ≠ .select cs b
theorem lag_at {ops : Array Oper} (h : lagB ops = true) {i : Nat} {o : Oper} (hi : ops[i]? = some o) : LagAt ops i o := by
  have hlt : i < ops.size := by
    rcases Nat.lt_or_ge i ops.size with h | h
    · exact h
    · rw [Array.getElem?_eq_none h] at hi; cases hi
  have h1 := List.all_eq_true.1 h i (List.mem_range.2 hlt)
  simp only [hi, Bool.and_eq_true] at h1
  obtain ⟨⟨⟨⟨⟨⟨g, lo⟩, ds⟩, sm⟩, al⟩, dp⟩, df⟩ := h1
  have dsj : ∀ j oj d, ops[j]? = some oj → oj.dst = some d → (i == j || o.dst != some d) = true ∧ (!lagO oj || !(o.looksAt ops).contains d || edgeTo o j) = true := fun j oj d hj hd => by
    have hjl : j < ops.size := by
      rcases Nat.lt_or_ge j ops.size with h | h
      · exact h
      · rw [Array.getElem?_eq_none h] at hj; cases hj
    have h2 := List.all_eq_true.1 ds j (List.mem_range.2 hjl)
    simp only [hj, hd, Bool.and_eq_true] at h2
    exact h2
  refine ⟨by simpa using g, fun e he hb => ?_, fun j oj d hj hd hij => ?_, fun j oj d hj hlo hd hl => ?_, fun hl => ?_, fun hl j hij hjs => ?_, fun j hj => ?_, fun c e => ?_, fun cs b e => ?_⟩
  · have := Array.all_eq_true'.1 lo e he
    simpa [hb] using this
  · have := (dsj j oj d hj hd).1
    simpa [hij] using this
  · have := (dsj j oj d hj hd).2
    have hc : (o.looksAt ops).contains d = true := by simpa using hl
    rw [hc, hlo] at this
    simp only [Bool.not_true, Bool.false_or, edgeTo] at this
    obtain ⟨e, he, hb⟩ := Array.any_eq_true'.1 this
    simp only [Bool.and_eq_true, beq_iff_eq] at hb
    exact ⟨e, he, hb.1, hb.2⟩
  · rw [hl] at sm
    simp only [Bool.not_true, Bool.false_or, Option.isSome_iff_exists] at sm
    exact sm
  · rw [hl, Bool.false_or] at al
    have := List.all_eq_true.1 al j (List.mem_range.2 hjs)
    simpa [show ¬ j ≤ i by omega] using this
  · have hjl : j < (depT ops i).size := by
      rcases Nat.lt_or_ge j (depT ops i).size with h | h
      · exact h
      · simp [Array.getElem?_eq_none h] at hj
    have h2 := List.all_eq_true.1 dp j (List.mem_range.2 hjl)
    rw [hj, Bool.not_true, Bool.false_or] at h2
    split at h2
    · cases h2
    · rename_i oj hoj
      obtain ⟨e, he, hb⟩ := Array.any_eq_true'.1 h2
      simp only [Bool.and_eq_true, Bool.or_eq_true, beq_iff_eq] at hb
      exact ⟨oj, hoj, e, he, hb.1, hb.2⟩
  · rw [e] at df; cases df
  · rw [e] at df; cases df
/-- Operations ahead of 'k' that may come behind it. -/
def fidx (ops : Array Oper) (k : Nat) : List Nat := (List.range k).filter fun i => match ops[i]? with
  | some o => lagO o && !(depT ops i).getD k false
  | none => false
def fltK (P : Program) (gl : Nat → Option (List D)) (ops : Array Oper) : List Nat → S → Prop
  | [], _ => True
  | i :: is, σ => (match ops[i]? with
    | some o => match o.dst with
      | some d => opQ P gl o σ fun r => r = σ.regs d
      | none => True
    | none => True) ∧ fltK P gl ops is σ
theorem fltK_at {P : Program} {gl : Nat → Option (List D)} {ops : Array Oper} {σ : S} : ∀ {is : List Nat}, fltK P gl ops is σ → ∀ i ∈ is, ∀ o d, ops[i]? = some o → o.dst = some d → opQ P gl o σ fun r => r = σ.regs d
  | j :: is, h, i, hi, o, d, ho, hd => by
    rcases List.mem_cons.1 hi with rfl | hi
    · have := h.1; rw [ho] at this; simp only [hd] at this; exact this
    · exact fltK_at h.2 i hi o d ho hd
/-- One after the other, as they stand; behind each that turns something, what was told ahead is asked again. -/
def opsL (P : Program) (gl : Nat → Option (List D)) (ops : Array Oper) : List Oper → Nat → S → (S → Prop) → Prop
  | [], _, σ, K => K σ
  | o :: rest, k, σ, K => match lagO o with
    | true => opQ P gl o σ fun r => opsL P gl ops rest (k + 1) (σ.put o.dst r) K
    | false => opA P gl o σ fun σ' => fltK P gl ops (fidx ops k) σ' ∧ opsL P gl ops rest (k + 1) σ' K
def cnt (l : List Bool) : Nat := (l.filter (!·)).length
theorem cnt_set : ∀ (l : List Bool) (i : Nat), l[i]? = some false → cnt (l.set i true) + 1 = cnt l
  | [], i, h => by simp at h
  | b :: l, 0, h => by simp at h; subst h; simp [cnt]
  | b :: l, i + 1, h => by
    have := cnt_set l i (by simpa using h)
    cases b <;> simp [cnt] at this ⊢ <;> omega
open Classical in
/-- A state of which late operations have told nothing yet. -/
noncomputable def lagP (ops : Array Oper) (U : Nat → Prop) (σ : S) : S where
  regs := fun t => if ∃ i o, U i ∧ ops[i]? = some o ∧ o.dst = some t then .any else σ.regs t
  mem := σ.mem
theorem lagP_any {ops : Array Oper} {U : Nat → Prop} {σ : S} {t : Nat} (h : ∃ i o, U i ∧ ops[i]? = some o ∧ o.dst = some t) : (lagP ops U σ).regs t = .any := by
  simp only [lagP]; rw [if_pos h]
theorem lagP_else {ops : Array Oper} {U : Nat → Prop} {σ : S} {t : Nat} (h : ¬ ∃ i o, U i ∧ ops[i]? = some o ∧ o.dst = some t) : (lagP ops U σ).regs t = σ.regs t := by
  simp only [lagP]; rw [if_neg h]
theorem lagP_or {ops : Array Oper} {U : Nat → Prop} {σ : S} (t : Nat) : (lagP ops U σ).regs t = .any ∨ ((lagP ops U σ).regs t = σ.regs t ∧ ¬ ∃ i o, U i ∧ ops[i]? = some o ∧ o.dst = some t) := by
  by_cases h : ∃ i o, U i ∧ ops[i]? = some o ∧ o.dst = some t
  · exact .inl (lagP_any h)
  · exact .inr ⟨lagP_else h, h⟩
section
variable {c : Cx} {σ τ : S} {β : Nat → Value} {a b : Act} {w : World}
theorem Sim.part (h : Sim c σ β a w) (hm : τ.mem = σ.mem) (hs : b.tmps.size = a.tmps.size) (hdf : b.defers = a.defers)
    (hr : ∀ t, τ.regs t = .any ∨ (τ.regs t = σ.regs t ∧ b.tmps.getD t undef = a.tmps.getD t undef)) : Sim c τ β b w := by
  obtain ⟨rg, m⟩ := τ
  obtain rfl : m = σ.mem := hm
  exact { keep := h.keep, size := hs.trans h.size, df := hdf ▸ h.dfs (fun _ _ => rfl) (fun o x hx => .inl ⟨o, x, hx, rfl⟩), ext := h.ext, obj := h.obj, blk := h.blk, dis := h.dis, env := h.env,
          reg := fun t => by
            rcases hr t with e | ⟨e, e'⟩
            · rw [e]; exact .any
            · rw [e, e']; exact h.reg t }
theorem getD_false {listed : Array Bool} {j : Nat} (h : listed.getD j true = false) : listed.getD j false = false := by
  rcases Nat.lt_or_ge j listed.size with h' | h'
  · simp [h'] at h ⊢; exact h
  · simp [Array.getElem?_eq_none h'] at h
/-- What is not done yet, and what that hangs on. -/
structure LagI (P : Program) (gl : Nat → Option (List D)) (ops : Array Oper) (listed : Array Bool) (k : Nat) (σ : S) : Prop where
  size : listed.size = ops.size
  low : ∀ j, k ≤ j → j < ops.size → listed.getD j true = false
  flt : ∀ i o d, i < k → listed.getD i true = false → ops[i]? = some o → o.dst = some d → opQ P gl o σ fun r => r = σ.regs d
  lag : ∀ i o, i < k → listed.getD i true = false → ops[i]? = some o → lagO o = true
  up : ∀ k' j, listed.getD k' true = false → (depT ops k').getD j false = true → listed.getD j true = false
abbrev lagU (listed : Array Bool) (k : Nat) (i : Nat) : Prop := i < k ∧ listed.getD i true = false
theorem size_of_at {ops : Array Oper} {i : Nat} {o : Oper} (h : ops[i]? = some o) : i < ops.size := (Array.getElem?_eq_some_iff.1 h).1
theorem low_at {ops : Array Oper} {listed : Array Bool} (hsz : listed.size = ops.size) {j : Nat} (h : listed.getD j true = false) : j < ops.size := by
  rcases Nat.lt_or_ge j listed.size with h' | h'
  · omega
  · simp [Array.getElem?_eq_none h'] at h
/-- Nothing is ready only if all is done. -/
theorem ready_ex {ops : Array Oper} {listed : Array Bool} (hB : lagB ops = true) (hsz : listed.size = ops.size) : ∀ j, listed.getD j true = false → ∃ i, i ∈ Region.ready .any ops listed := by
  intro j
  induction j using Nat.strongRecOn with
  | _ j ih =>
    intro hj
    have hlt := low_at hsz hj
    have hoj : ops[j]? = some ops[j] := Array.getElem?_eq_getElem hlt
    by_cases hall : ∀ e ∈ (ops[j]).after, Region.binds .any e = true → listed.getD e.on false = true
    · exact ⟨j, mem_ready.2 ⟨hj, _, hoj, hall⟩⟩
    · simp only [Classical.not_forall] at hall
      obtain ⟨e, he, hb, hn⟩ := hall
      have hl := (lag_at hB hoj).low e he hb
      refine ih e.on hl ?_
      have hsz' : e.on < listed.size := by omega
      simp [hsz'] at hn ⊢
      exact hn
/-- What waits for something that is not done is not ready. -/
theorem not_ready {P : Program} {gl : Nat → Option (List D)} {ops : Array Oper} {listed : Array Bool} {k : Nat} (hB : lagB ops = true) (hI : LagI P gl ops listed k σ) {i k' : Nat} (hi : i ∈ Region.ready .any ops listed) (hk : listed.getD k' true = false) :
    (depT ops k').getD i false = false := by
  cases hd : (depT ops k').getD i false with
  | false => rfl
  | true =>
    exfalso
    obtain ⟨_, o, ho, hall⟩ := mem_ready.1 hi
    have hk' := low_at hI.size hk
    obtain ⟨o', ho', e, he, hb, hon⟩ := (lag_at hB (Array.getElem?_eq_getElem hk')).dep i hd
    rw [ho] at ho'; cases ho'
    have h1 := hall e he hb
    have h2 : listed.getD e.on true = false := by
      rcases hon with h | h
      · rw [h]; exact hk
      · exact hI.up k' _ hk h
    rw [getD_false h2] at h1
    cases h1
theorem LagI.set {P : Program} {gl : Nat → Option (List D)} {ops : Array Oper} {listed : Array Bool} {k : Nat} (hB : lagB ops = true) (hI : LagI P gl ops listed k σ) {i : Nat} (hi : i ∈ Region.ready .any ops listed) (hik : i < k) : LagI P gl ops (listed.setIfInBounds i true) k σ := by
  have hun : ∀ j, (listed.setIfInBounds i true).getD j true = false → j ≠ i ∧ listed.getD j true = false := fun j h => by
    by_cases hji : j = i
    · subst hji
      have hlt : j < listed.size := by rw [hI.size]; exact low_at hI.size (mem_ready.1 hi).1
      simp [hlt] at h
    · rw [getD_set_ne true (Ne.symm hji)] at h; exact ⟨hji, h⟩
  refine ⟨by simp [hI.size], fun j hj hs => ?_, fun j o d hj hu => hI.flt j o d hj (hun j hu).2, fun j o hj hu => hI.lag j o hj (hun j hu).2, fun k' j hk hd => ?_⟩
  · rw [getD_set_ne true (by omega)]; exact hI.low j hj hs
  · have h1 := hI.up k' j (hun k' hk).2 hd
    by_cases hji : j = i
    · subst hji
      have := not_ready hB hI hi (hun k' hk).2
      rw [hd] at this; cases this
    · rw [getD_set_ne true (Ne.symm hji)]; exact h1
/-- An operation's operands are known where what they hang on has told. -/
theorem lag_ev {ops : Array Oper} {U : Nat → Prop} {i : Nat} {o : Oper} (hB : lagB ops = true) (ho : ops[i]? = some o) (hUl : ∀ j oj, U j → ops[j]? = some oj → lagO oj = true) (hno : ∀ e ∈ o.after, Region.binds .any e = true → ¬ U e.on) {t : Nat} (ht : Operand.tmp t ∈ o.op.operands) : ¬ ∃ i o, U i ∧ ops[i]? = some o ∧ o.dst = some t := by
  rintro ⟨j, oj, hU, hoj, hdj⟩
  obtain ⟨e, he, hb, hon⟩ := (lag_at hB ho).look j oj t hoj (hUl j oj hU hoj) hdj (by
    simp only [Oper.looksAt, List.mem_append, List.mem_filterMap]
    exact .inl ⟨_, by simpa using ht, rfl⟩)
  exact hno e he hb (by rw [hon]; exact hU)
theorem lag_ev' {ops : Array Oper} {U : Nat → Prop} {i : Nat} {o : Oper} {gl : Nat → Option (List D)} (hB : lagB ops = true) (ho : ops[i]? = some o) (hUl : ∀ j oj, U j → ops[j]? = some oj → lagO oj = true) (hno : ∀ e ∈ o.after, Region.binds .any e = true → ¬ U e.on) : ∀ x ∈ o.op.operands, (lagP ops U σ).eval gl x = σ.eval gl x := fun x hx => by
  cases x with
  | tmp t => exact lagP_else (lag_ev hB ho hUl hno hx)
  | const v => rfl
  | global g => rfl
  | func f => rfl
/-- The late ones are done in thought. -/
theorem lag_virt {ops : Array Oper} (hB : lagB ops = true) (hd : ∀ o ∈ ops.toList, ∀ d, o.dst = some d → d < c.N) {U : Nat → Prop} {k : Nat} (hk : k ≤ ops.size) (hflt : ∀ i o d, i < k → U i → ops[i]? = some o → o.dst = some d → opQ c.P c.gl o σ fun r => r = σ.regs d)
    (hlag : ∀ i o, i < k → U i → ops[i]? = some o → lagO o = true) (hs : Sim c (lagP ops (fun i => i < k ∧ U i) σ) β a w) :
    ∀ m, m ≤ k → ∃ b : Act, Sim c (lagP ops (fun i => m ≤ i ∧ i < k ∧ U i) σ) β b w ∧ b.tmps.size = a.tmps.size ∧ b.defers = a.defers ∧
      ∀ t, (¬ ∃ i o, (i < k ∧ U i) ∧ ops[i]? = some o ∧ o.dst = some t) → b.tmps.getD t undef = a.tmps.getD t undef
  | 0, _ => ⟨a, by simpa using hs, rfl, rfl, fun _ _ => rfl⟩
  | m + 1, hm => by
    obtain ⟨b, hb, h1, h2, h3⟩ := lag_virt hB hd hk hflt hlag hs m (by omega)
    by_cases hU : U m
    · have ho : ops[m]? = some ops[m] := Array.getElem?_eq_getElem (by omega)
      obtain ⟨d, hdst⟩ := (lag_at hB ho).some_ (hlag m _ (by omega) hU ho)
      have hq := opQ_congr (gl := c.gl) (σ := σ) (σ' := lagP ops (fun i => m ≤ i ∧ i < k ∧ U i) σ) rfl (lag_ev' (U := fun i => m ≤ i ∧ i < k ∧ U i) hB ho (fun j oj hj hoj => hlag j oj hj.2.1 hj.2.2 hoj) fun e he hb hU' => by have := (lag_at hB ho).low e he hb; have := hU'.1; omega) (hflt m _ d (by omega) hU ho hdst)
      obtain ⟨v, r, _, rfl, hrel⟩ := lag_eval hb (hlag m _ (by omega) hU ho) hq
      have hdN : ∀ d', (some d : Option Tmp) = some d' → d' < c.N := fun d' e => hd _ (by simp) d' (hdst.trans e)
      refine ⟨b.put (some d) v, (hb.put hdN hrel).part rfl rfl rfl fun t => ?_, by simp [Act.put, h1], by simp [Act.put, h2], fun t ht => ?_⟩
      · by_cases htd : t = d
        · subst htd
          right
          refine ⟨?_, rfl⟩
          rw [lagP_else]
          · simp [S.put, upd]
          · rintro ⟨i, o, ⟨hi, _, _⟩, hoi, hdi⟩
            exact (lag_at hB ho).dst i o t hoi hdi (by omega) hdst
        · by_cases hex : ∃ i o, (m + 1 ≤ i ∧ i < k ∧ U i) ∧ ops[i]? = some o ∧ o.dst = some t
          · exact .inl (lagP_any hex)
          · right
            refine ⟨?_, rfl⟩
            rw [lagP_else hex]
            simp only [S.put, upd, if_neg htd]
            rw [lagP_else]
            rintro ⟨i, o, ⟨hi, hi2, hi3⟩, hoi, hdi⟩
            by_cases him : i = m
            · subst him
              rw [ho] at hoi; cases hoi
              rw [hdst] at hdi; cases hdi
              exact htd rfl
            · exact hex ⟨i, o, ⟨by omega, hi2, hi3⟩, hoi, hdi⟩
      · have htd : d ≠ t := fun e => ht ⟨m, _, ⟨by omega, hU⟩, ho, e ▸ hdst⟩
        rw [← h3 t ht]
        simp [Act.put, Array.getD_eq_getD_getElem?, Array.getElem?_setIfInBounds, htd]
    · refine ⟨b, hb.part rfl rfl rfl fun t => ?_, h1, h2, h3⟩
      by_cases hex : ∃ i o, (m + 1 ≤ i ∧ i < k ∧ U i) ∧ ops[i]? = some o ∧ o.dst = some t
      · exact .inl (lagP_any hex)
      · right
        refine ⟨?_, rfl⟩
        rw [lagP_else hex, lagP_else]
        rintro ⟨i, o, ⟨hi, hi2, hi3⟩, hoi, hdi⟩
        have : i ≠ m := fun e => hU (e ▸ hi3)
        exact hex ⟨i, o, ⟨by omega, hi2, hi3⟩, hoi, hdi⟩
theorem lagU_put {ops : Array Oper} {U : Nat → Prop} {i d : Nat} {o : Oper} (hB : lagB ops = true) (ho : ops[i]? = some o) (hd : o.dst = some d) (t : Nat) :
    (lagP ops (fun j => j ≠ i ∧ U j) σ).regs t = .any ∨ (lagP ops (fun j => j ≠ i ∧ U j) σ).regs t = ((lagP ops U σ).put (some d) (σ.regs d)).regs t := by
  by_cases hex : ∃ j oj, (j ≠ i ∧ U j) ∧ ops[j]? = some oj ∧ oj.dst = some t
  · exact .inl (lagP_any hex)
  · right
    rw [lagP_else hex]
    by_cases htd : t = d
    · subst htd; simp [S.put, upd]
    · simp only [S.put, upd, if_neg htd]
      rw [lagP_else]
      rintro ⟨j, oj, hU, hoj, hdj⟩
      by_cases hji : j = i
      · subst hji
        rw [ho] at hoj; cases hoj
        rw [hd] at hdj; cases hdj
        exact htd rfl
      · exact hex ⟨j, oj, ⟨hji, hU⟩, hoj, hdj⟩
theorem lag_sound {ρ : Option Nat} {n : Nat} {ops : Array Oper} {Q : Exit → Act → World → Prop} {K : S → Prop} (hB : lagB ops = true) (hQ : ∀ σ β a w, Sim c σ β a w → K σ → Q .normal a w) (hd : ∀ o ∈ ops.toList, ∀ d, o.dst = some d → d < c.N) :
    ∀ (fuel : Nat) (l : List Oper) (k : Nat) (listed : Array Bool) {σ : S} {β : Nat → Value} {a : Act} {w : World}, (∀ j, l[j]? = ops[k + j]?) → k + l.length = ops.size → cnt listed.toList ≤ fuel → LagI c.P c.gl ops listed k σ → Sim c (lagP ops (lagU listed k) σ) β a w → opsL c.P c.gl ops l k σ K → wpAnyIn (WF ρ) n c.P .any ops Q fuel listed a w := by
  intro fuel
  induction fuel with
  | zero =>
    intro l k listed σ β a w hl hlen hc hI hs hk
    have none_ : ∀ j, listed.getD j true = false → False := fun j hj => by
      have hlt : j < listed.toList.length := by have := low_at hI.size hj; rw [Array.length_toList, hI.size]; exact this
      have : listed.toList[j]? = some false := by
        rw [List.getElem?_eq_getElem hlt]
        simp only [Array.length_toList] at hlt
        simp [hlt] at hj
        simpa using hj
      have := cnt_set _ _ this
      omega
    have hl0 : l = [] := by
      cases l with
      | nil => rfl
      | cons o l => exact (none_ k (hI.low k (Nat.le_refl _) (by simp at hlen; omega))).elim
    subst hl0
    refine ⟨?_, hQ σ β a w (hs.part rfl rfl rfl fun t => ?_) hk⟩
    · apply List.eq_nil_iff_forall_not_mem.2
      intro i hi
      exact none_ i (mem_ready.1 hi).1
    · rcases lagP_or (ops := ops) (U := lagU listed k) (σ := σ) t with h | ⟨h, _⟩
      · right
        refine ⟨?_, rfl⟩
        rw [lagP_else]
        rintro ⟨i, o, hU, _, _⟩
        exact none_ i hU.2
      · exact .inr ⟨h.symm, rfl⟩
  | succ fuel ihf =>
    intro l
    -- what is done where the head is no late one, or nothing is left
    have main : ∀ (l : List Oper) (k : Nat) (listed : Array Bool) {σ : S} {β : Nat → Value} {a : Act} {w : World}, (∀ o rest, l = o :: rest → lagO o = false) → (∀ j, l[j]? = ops[k + j]?) → k + l.length = ops.size → cnt listed.toList ≤ fuel + 1 → LagI c.P c.gl ops listed k σ → Sim c (lagP ops (lagU listed k) σ) β a w → opsL c.P c.gl ops l k σ K → wpAnyIn (WF ρ) n c.P .any ops Q (fuel + 1) listed a w := by
      intro l k listed σ β a w hno hl hlen hc hI hs hk
      have kle : k ≤ ops.size := by omega
      refine ⟨fun hr => ?_, fun i hi => ?_⟩
      · have none_ : ∀ j, listed.getD j true = false → False := fun j hj => by
          obtain ⟨i, hi⟩ := ready_ex hB hI.size j hj
          rw [hr] at hi; cases hi
        have hl0 : l = [] := by
          cases l with
          | nil => rfl
          | cons o l => exact (none_ k (hI.low k (Nat.le_refl _) (by simp at hlen; omega))).elim
        subst hl0
        refine hQ σ β a w (hs.part rfl rfl rfl fun t => ?_) hk
        rcases lagP_or (ops := ops) (U := lagU listed k) (σ := σ) t with h | ⟨h, _⟩
        · right
          refine ⟨?_, rfl⟩
          rw [lagP_else]
          rintro ⟨i, o, hU, _, _⟩
          exact none_ i hU.2
        · exact .inr ⟨h.symm, rfl⟩
      · obtain ⟨hun, o, ho, hall⟩ := mem_ready.1 hi
        have hat := lag_at hB ho
        have hlt := size_of_at ho
        have hdo := hd o (by rw [Array.mem_toList_iff]; exact Array.mem_of_getElem? ho)
        have hno' : ∀ e ∈ o.after, Region.binds .any e = true → ¬ lagU listed k e.on := fun e he hb hU => by
          have h1 := hall e he hb
          rw [getD_false hU.2] at h1; cases h1
        have hlt' : i < listed.toList.length := by rw [Array.length_toList, hI.size]; exact hlt
        have hcn : cnt (listed.setIfInBounds i true).toList ≤ fuel := by
          have h0 : listed.toList[i]? = some false := by
            rw [List.getElem?_eq_getElem hlt']
            simp only [Array.length_toList] at hlt'
            simp [hlt'] at hun
            simpa using hun
          have := cnt_set _ _ h0
          rw [Array.toList_setIfInBounds]
          omega
        have hset : ∀ j, (listed.setIfInBounds i true).getD j true = false ↔ j ≠ i ∧ listed.getD j true = false := fun j => by
          by_cases hji : j = i
          · subst hji
            have : j < listed.size := by rw [hI.size]; exact hlt
            simp [this]
          · rw [getD_set_ne true (Ne.symm hji)]; simp [hji]
        simp only [wpOpIn, ho]
        rw [show Region.wanted o (yielded ops a.tmps) = true by unfold Region.wanted; rw [hat.guard], if_pos rfl]
        rcases Nat.lt_trichotomy i k with hik | hik | hik
        · -- a late one
          have hlg := hI.lag i o hik hun ho
          obtain ⟨d, hdst⟩ := hat.some_ hlg
          have hq := opQ_congr (gl := c.gl) (σ := σ) (σ' := lagP ops (lagU listed k) σ) rfl (lag_ev' (U := lagU listed k) hB ho (fun j oj hj hoj => hI.lag j oj hj.1 hj.2 hoj) hno') (hI.flt i o d hik hun ho hdst)
          obtain ⟨v, r, hrun, rfl, hrel⟩ := lag_eval hs hlg hq
          refine Run.val (Z := fun v' w' => v' = v ∧ w' = w) hat.dfr hrun ⟨rfl, rfl⟩ ρ n _ Q ?_
          rintro v' w' ⟨rfl, rfl⟩
          refine ihf l k _ hl hlen hcn (hI.set hB hi hik) ((hs.put hdo hrel).part (by rw [mem_put]; rfl) rfl rfl fun t => ?_) hk
          rw [hdst]
          have hU : lagU (listed.setIfInBounds i true) k = fun j => j ≠ i ∧ lagU listed k j := by
            funext j; simp only [lagU, hset]; exact propext ⟨fun h => ⟨h.2.1, h.1, h.2.2⟩, fun h => ⟨h.2.1, h.1, h.2.2⟩⟩
          rw [hU]
          rcases lagU_put (σ := σ) (U := lagU listed k) hB ho hdst t with h | h
          · exact .inl h
          · exact .inr ⟨h, rfl⟩
        · -- the one at hand
          subst hik
          cases l with
          | nil => simp at hlen; omega
          | cons oh rest =>
          have h0 : ops[i]? = some oh := by simpa using (hl 0).symm
          rw [ho] at h0; cases h0
          have hnl := hno o rest rfl
          have hl' : ∀ j, rest[j]? = ops[i + 1 + j]? := fun j => by have := hl (j + 1); simpa [Nat.add_assoc, Nat.add_comm 1 j] using this
          simp only [opsL, hnl] at hk
          obtain ⟨b, hb, hb1, hb2, hb3⟩ := lag_virt (U := fun j => listed.getD j true = false) hB hd kle (fun j oj d h1 h2 => hI.flt j oj d h1 h2) (fun j oj h1 h2 => hI.lag j oj h1 h2) hs i (Nat.le_refl _)
          have hb' : Sim c σ β b w := hb.part rfl rfl rfl fun t => .inr ⟨by
            rw [lagP_else]
            rintro ⟨j, oj, ⟨h1, h2, _⟩, _, _⟩
            omega, rfl⟩
          have hrun := opA_sound hb' hdo hk
          have hev : ∀ x ∈ o.op.operands, a.eval x = b.eval x := fun x hx => by
            cases x with
            | tmp t => exact (hb3 t (lag_ev (U := lagU listed i) hB ho (fun j oj hj hoj => hI.lag j oj hj.1 hj.2 hoj) hno' hx)).symm
            | const v => rfl
            | global g => rfl
            | func f => rfl
          refine Run.congr hat.dfr hat.sel hev hb1.symm hrun ρ n _ Q ?_
          rintro v w' ⟨σ', β', ⟨hf, hk'⟩, hs'⟩
          have hun' : ∀ j, (listed.setIfInBounds i true).getD j true = false → j < i + 1 → j < i ∧ listed.getD j true = false := fun j h h' => by
            obtain ⟨h1, h2⟩ := (hset j).1 h
            exact ⟨by omega, h2⟩
          refine ihf (β := β') rest (i + 1) _ hl' (by simp at hlen; omega) hcn ⟨by simp [hI.size], fun j hj hjs => ?_, fun j oj d hj hu hoj hdj => ?_, fun j oj hj hu hoj => ?_, fun k' j hk' hdp => ?_⟩ ?_ hk'
          · exact (hset j).2 ⟨by omega, hI.low j (by omega) hjs⟩
          · obtain ⟨h1, h2⟩ := hun' j hu hj
            refine fltK_at hf j ?_ oj d hoj hdj
            simp only [fidx, List.mem_filter, List.mem_range, hoj, Bool.and_eq_true, Bool.not_eq_true']
            exact ⟨h1, hI.lag j oj h1 h2 hoj, not_ready hB hI hi h2⟩
          · obtain ⟨h1, h2⟩ := hun' j hu hj
            exact hI.lag j oj h1 h2 hoj
          · obtain ⟨h1, h2⟩ := (hset k').1 hk'
            refine (hset j).2 ⟨fun e => ?_, hI.up k' j h2 hdp⟩
            subst e
            have := not_ready hB hI hi h2
            rw [hdp] at this; cases this
          · refine hs'.part rfl (by cases hdd : o.dst <;> simp [Act.put, hb1]) (by cases hdd : o.dst <;> simp [Act.put, hb2]) fun t => ?_
            by_cases hex : ∃ j oj, lagU (listed.setIfInBounds i true) (i + 1) j ∧ ops[j]? = some oj ∧ oj.dst = some t
            · exact .inl (lagP_any hex)
            · right
              refine ⟨lagP_else hex, ?_⟩
              have hbt := hb3 t fun ⟨j, oj, ⟨h1, h2⟩, hoj, hdj⟩ => hex ⟨j, oj, ⟨by omega, (hset j).2 ⟨by omega, h2⟩⟩, hoj, hdj⟩
              cases hdd : o.dst with
              | none => exact hbt.symm
              | some d =>
                by_cases htd : d = t
                · subst htd
                  have : d < b.tmps.size := by rw [hb'.size]; exact hdo d hdd
                  simp [Act.put, Array.getD_eq_getD_getElem?, this, hb1.symm ▸ this, ← hb1]
                · simp [Act.put, Array.getD_eq_getD_getElem?, Array.getElem?_setIfInBounds, htd] at hbt ⊢
                  exact hbt.symm
        · -- what is behind waits
          exfalso
          have hkl : k < ops.size := by omega
          cases l with
          | nil => simp at hlen; omega
          | cons oh rest =>
          have h0 : ops[k]? = some oh := by simpa using (hl 0).symm
          have h1 := (lag_at hB h0).all_ (hno oh rest rfl) i hik hlt
          have h2 := not_ready hB hI hi (hI.low k (Nat.le_refl _) hkl)
          rw [h1] at h2; cases h2
    induction l with
    | nil =>
      intro k listed σ β a w hl hlen hc hI hs hk
      exact main [] k listed (fun o rest e => by cases e) hl hlen hc hI hs hk
    | cons o rest ihl =>
      intro k listed σ β a w hl hlen hc hI hs hk
      cases hlg : lagO o with
      | false => exact main (o :: rest) k listed (fun o' rest' e => by cases e; exact hlg) hl hlen hc hI hs hk
      | true =>
        have ho : ops[k]? = some o := by simpa using (hl 0).symm
        have hat := lag_at hB ho
        have hl' : ∀ j, rest[j]? = ops[k + 1 + j]? := fun j => by have := hl (j + 1); simpa [Nat.add_assoc, Nat.add_comm 1 j] using this
        have hlt := size_of_at ho
        obtain ⟨d, hdst⟩ := hat.some_ hlg
        simp only [opsL, hlg] at hk
        obtain ⟨r, hk', hq⟩ := opQ_split hk
        have hself : ∀ {j : Nat} {oj : Oper}, j ≤ k → ops[j]? = some oj → ∀ d', o.dst = some d' → d' ∉ oj.looksAt ops := fun {j oj} hj hoj d' hd' hin => by
          obtain ⟨e, he, hb, hon⟩ := (lag_at hB hoj).look k o d' ho hlg hd' hin
          have := (lag_at hB hoj).low e he hb
          omega
        refine ihl (k + 1) listed hl' (by simp at hlen; omega) hc ⟨hI.size, fun j hj => hI.low j (by omega), fun j oj dj hj hu hoj hdj => ?_, fun j oj hj hu hoj => ?_, hI.up⟩ (hs.part (by rw [show (lagP ops (lagU listed (k + 1)) (σ.put o.dst r)).mem = (σ.put o.dst r).mem from rfl, mem_put]; rfl) rfl rfl fun t => ?_) hk'
        · refine (opQ_put (hself (by omega) hoj)).2 ?_
          by_cases hjk : j = k
          · subst hjk
            rw [ho] at hoj; cases hoj
            rw [hdst] at hdj; cases hdj
            exact hq _ (by rw [hdst]; simp [S.put, upd])
          · have := hI.flt j oj dj (by omega) hu hoj hdj
            have hne : dj ≠ d := fun e => hat.dst j oj d hoj (e ▸ hdj) (Ne.symm hjk) hdst
            rw [hdst]
            simpa [S.put, upd, hne] using this
        · by_cases hjk : j = k
          · subst hjk
            rw [ho] at hoj; cases hoj; exact hlg
          · exact hI.lag j oj (by omega) hu hoj
        · by_cases hex : ∃ j oj, lagU listed (k + 1) j ∧ ops[j]? = some oj ∧ oj.dst = some t
          · exact .inl (lagP_any hex)
          · right
            refine ⟨?_, rfl⟩
            rw [lagP_else hex, lagP_else fun ⟨j, oj, hU, hoj, hdj⟩ => hex ⟨j, oj, ⟨by omega, hU.2⟩, hoj, hdj⟩]
            have : t ≠ d := fun e => hex ⟨k, o, ⟨by omega, hI.low k (Nat.le_refl _) hlt⟩, ho, e ▸ hdst⟩
            rw [hdst]
            simp [S.put, upd, this]
end
/-- A region that draws its order, of which quiet parts may come late. -/
theorem draw_lag {P : Program} {gl : Nat → Option (List D)} {id : Nat} {ops : Array Oper} {Q : Ex → S → Prop} {σ : S} (hB : lagB ops = true) (h : opsL P gl ops ops.toList 0 σ (Q .normal)) : SemCode P gl (.region id ops true) Q σ := by
  intro c β a w ρ n hP hgl hm hdN _ hs
  subst hP; subst hgl
  have hdst : ∀ o ∈ ops.toList, ∀ d, o.dst = some d → d < c.N := fun o ho d hod => by
    have := List.all_eq_true.1 hdN o ho
    rw [hod] at this
    simpa using this
  refine wpIn_region_any hm (lag_sound (K := Q .normal) hB (fun σ β a w hs hk => ⟨σ, β, hs, hk⟩) hdst ops.size ops.toList 0 _ (by simp) (by simp) ?_ ?_ ((hs.drawn _).part rfl rfl rfl fun t => .inr ⟨?_, rfl⟩) h)
  · have : ∀ m, cnt (List.replicate m false) = m := fun m => by simp [cnt]
    simp [this]
  · refine ⟨by simp, fun j _ hj => by simp [hj], fun i o d hi => absurd hi (Nat.not_lt_zero _), fun i o hi => absurd hi (Nat.not_lt_zero _), fun k' j hk' hd => ?_⟩
    have hk : k' < ops.size := by
      rcases Nat.lt_or_ge k' ops.size with h | h
      · exact h
      · simp [Array.getElem?_eq_none, h] at hk'
    obtain ⟨oj, hoj, _⟩ := (lag_at hB (Array.getElem?_eq_getElem hk)).dep j hd
    simp [size_of_at hoj]
  · rw [lagP_else]
    rintro ⟨i, o, hU, _, _⟩
    exact absurd hU.1 (Nat.not_lt_zero _)
/-! ### How it is run -/
def fltO (P : Program) (gl : Nat → Option (List D)) : Option Oper → S → Prop
  | some ⟨some d, op, ty, pos, after, g⟩, σ => opQ P gl ⟨some d, op, ty, pos, after, g⟩ σ fun r => r = σ.regs d
  | _, _ => True
def fltL (P : Program) (gl : Nat → Option (List D)) (l : List Oper) : List Nat → S → Prop
  | [], _ => True
  | i :: is, σ => fltO P gl l[i]? σ ∧ fltL P gl l is σ
def ftl (F : List (List Nat)) (K : List Nat → List (List Nat) → Prop) : Prop := match F with
  | f :: F => K f F
  | [] => False
def opsF (P : Program) (gl : Nat → Option (List D)) (l : List Oper) : List Oper → List (List Nat) → S → (S → Prop) → Prop
  | [], _, σ, K => K σ
  | o :: rest, F, σ, K => inG (lagO o) (opQ P gl o σ fun r => opsF P gl l rest F (σ.put o.dst r) K) (ftl F fun f F => opA P gl o σ fun σ' => fltL P gl l f σ' ∧ opsF P gl l rest F σ' K)
def lagFs (ops : Array Oper) : List Oper → List (List Nat) → Nat → Bool
  | [], _, _ => true
  | o :: rest, F, k => match lagO o, F with
    | true, F => lagFs ops rest F (k + 1)
    | false, f :: F => fidx ops k == f && lagFs ops rest F (k + 1)
    | false, [] => false
theorem fltL_K {P : Program} {gl : Nat → Option (List D)} {l : List Oper} {σ : S} : ∀ {is : List Nat}, fltL P gl l is σ → fltK P gl l.toArray is σ
  | [], _ => trivial
  | i :: is, h => by
    refine ⟨?_, fltL_K h.2⟩
    have h1 := h.1
    rw [List.getElem?_toArray]
    cases ho : l[i]? with
    | none => trivial
    | some o =>
      rw [ho] at h1
      obtain ⟨dst, op, ty, pos, after, g⟩ := o
      cases dst with
      | none => trivial
      | some d => exact h1
theorem opsF_L {P : Program} {gl : Nat → Option (List D)} {l : List Oper} {K : S → Prop} : ∀ (rest : List Oper) (F : List (List Nat)) (k : Nat) {σ : S}, lagFs l.toArray rest F k = true → opsF P gl l rest F σ K → opsL P gl l.toArray rest k σ K
  | [], F, k, σ, _, h => h
  | o :: rest, F, k, σ, hF, h => by
    simp only [opsF, opsL, lagFs] at h hF ⊢
    cases hl : lagO o with
    | true =>
      rw [hl] at h hF
      exact opQ_mono (fun r => opsF_L rest F (k + 1) hF) h
    | false =>
      rw [hl] at h hF
      cases F with
      | nil => cases hF
      | cons f F =>
        simp only [Bool.and_eq_true, beq_iff_eq] at hF
        refine opA_mono (fun σ' h' => ⟨?_, opsF_L rest F (k + 1) hF.2 h'.2⟩) (show opA P gl o σ _ from h)
        rw [hF.1]
        exact fltL_K h'.1
theorem draw_F {P : Program} {gl : Nat → Option (List D)} {id : Nat} {l : List Oper} {Q : Ex → S → Prop} {σ : S} {X : Prop} (F : List (List Nat)) (hB : (lagB l.toArray && lagFs l.toArray l F 0) = true) (h : opsF P gl l l F σ (Q .normal)) : drawK l.toArray X (SemCode P gl (.region id l.toArray true) Q σ) := by
  rw [Bool.and_eq_true] at hB
  exact draw_sem (draw_lag hB.1 (opsF_L l F 0 hB.2 h))
section
variable {P : Program} {gl : Nat → Option (List D)} {l rest : List Oper} {F : List (List Nat)} {σ : S} {K : S → Prop} {dst : Option Tmp} {op : Op} {ty : TypeId} {pos : String} {after : Array Edge} {g : Option (Nat × Bool)} {d t : Tmp}
theorem f_nil : opsF P gl l [] F σ K = K σ := rfl
theorem f_cons : opsF P gl l (⟨dst, op, ty, pos, after, g⟩ :: rest) F σ K = inG (lagO ⟨dst, op, ty, pos, after, g⟩) (opQ P gl ⟨dst, op, ty, pos, after, g⟩ σ fun r => opsF P gl l rest F (σ.put dst r) K) (ftl F fun f F => opA P gl ⟨dst, op, ty, pos, after, g⟩ σ fun σ' => fltL P gl l f σ' ∧ opsF P gl l rest F σ' K) := rfl
theorem ft_cons {f : List Nat} {F : List (List Nat)} {K : List Nat → List (List Nat) → Prop} : ftl (f :: F) K = K f F := rfl
theorem fl_nil' : fltL P gl l [] σ = True := rfl
theorem fl_cons' {i : Nat} {is : List Nat} : fltL P gl l (i :: is) σ = (fltO P gl l[i]? σ ∧ fltL P gl l is σ) := rfl
theorem fo_some : fltO P gl (some ⟨some d, op, ty, pos, after, g⟩) σ = opQ P gl ⟨some d, op, ty, pos, after, g⟩ σ fun r => r = σ.regs d := rfl
theorem lo_mv : lagO ⟨dst, .move (.tmp t), ty, pos, after, none⟩ = true := rfl
theorem lo_ld {u : TypeId} : lagO ⟨dst, .load u (.tmp t), ty, pos, after, none⟩ = true := rfl
theorem lo_fld {u : TypeId} {f : Nat} : lagO ⟨dst, .fieldAddr u (.tmp t) f, ty, pos, after, none⟩ = true := rfl
theorem lo_nil : lagO ⟨dst, .nilCheck (.tmp t), ty, pos, after, none⟩ = true := rfl
theorem lo_mc {v : Value} : lagO ⟨dst, .move (.const v), ty, pos, after, none⟩ = false := rfl
theorem lo_asg {x : Operand} : lagO ⟨dst, .assign x, ty, pos, after, none⟩ = false := rfl
theorem lo_bld {u : TypeId} {ps : Array (Nat × Operand)} : lagO ⟨dst, .build u ps, ty, pos, after, none⟩ = false := rfl
theorem lo_bsl {u : TypeId} {n : Nat} {ps : Array (Nat × Operand)} : lagO ⟨dst, .buildSlice u n ps, ty, pos, after, none⟩ = false := rfl
theorem lo_cal {k : Call} : lagO ⟨dst, .call k, ty, pos, after, none⟩ = false := rfl
theorem lo_sto {u : TypeId} {x y : Operand} : lagO ⟨dst, .store u x y, ty, pos, after, none⟩ = false := rfl
theorem lo_mku {u : TypeId} {x y z : Operand} : lagO ⟨dst, .mapUpdate u x y z, ty, pos, after, none⟩ = false := rfl
theorem lo_bin {b : BinOp} {u v : TypeId} {x y : Operand} : lagO ⟨dst, .binOp b u x y v, ty, pos, after, none⟩ = false := rfl
theorem lo_idx {u : TypeId} {t' : Tmp} : lagO ⟨dst, .indexAddr u (.tmp t) (.tmp t'), ty, pos, after, none⟩ = true := rfl
theorem lo_ext {x : Operand} {i : Nat} : lagO ⟨dst, .extract x i, ty, pos, after, none⟩ = false := rfl
theorem lo_box {u : TypeId} {x : Operand} : lagO ⟨dst, .box u x, ty, pos, after, none⟩ = false := rfl
theorem lo_alc {u : TypeId} : lagO ⟨dst, .alloc u, ty, pos, after, none⟩ = false := rfl
theorem lo_lk {u : TypeId} {x i : Operand} {ok : Bool} : lagO ⟨dst, .lookup u x i ok, ty, pos, after, none⟩ = false := rfl
theorem lo_cv {u v : TypeId} {x : Operand} : lagO ⟨dst, .convert u v x, ty, pos, after, none⟩ = false := rfl
end
def PG :=
  And.intro (@f_nil) <| And.intro (@f_cons) <| And.intro (@ft_cons) <| And.intro (@fl_nil') <| And.intro (@fl_cons') <| And.intro (@fo_some) <| And.intro (@lo_mv) <| And.intro (@lo_ld) <| And.intro (@lo_fld) <| And.intro (@lo_nil) <| And.intro (@lo_mc) <| And.intro (@lo_asg) <| And.intro (@lo_bld) <| And.intro (@lo_bsl) <| And.intro (@lo_cal) <| And.intro (@lo_sto) <| And.intro (@lo_mku) <| And.intro (@lo_bin) <| And.intro (@lo_idx) <| And.intro (@lo_ext) <| And.intro (@lo_box) <| And.intro (@lo_alc) <| And.intro (@lo_lk) <| @lo_cv
end Go.VC
