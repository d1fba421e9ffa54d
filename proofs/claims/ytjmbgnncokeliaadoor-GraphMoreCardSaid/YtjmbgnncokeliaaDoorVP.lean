/- The quiet operations: calls, and all of them together. -/
import Derived.Test.YtjmbgnncokeliaaDoorVO
set_option linter.unusedVariables false
set_option linter.unusedSimpArgs false
namespace Go.VC
open Go.RowKit

section
variable {c : Cx} {σ : S} {β : Nat → Value} {a : Act} {w : World} {o : Oper} {K : R → Prop}

theorem D.flat_rel {st st' : Nat → Prop} {w w' : World} {v : Value} {d : D} (hf : d.flat = true) (h : Rd st w v d) : Rd st' w' v d := by
  cases h with
  | v h => exact .v h
  | fn hl hd =>
    rename_i caps vs
    have : caps = [] := by simpa [D.flat] using hf
    subst this
    exact .fn hl fun j d v hj => by simp at hj
  | nil => cases hf
  | sl => cases hf
  | pt => cases hf
  | mpn => cases hf
  | mp => cases hf
theorem A.flat_rel {st st' : Nat → Prop} {w w' : World} {v : Value} {x : A} (hf : x.flat = true) (h : RelA st w v x) : RelA st' w' v x := by
  cases x with
  | d x => exact D.flat_rel hf h
  | ag xs =>
    obtain ⟨cs, e, k⟩ := h
    exact ⟨cs, e, k.1, fun i u d hu hd => D.flat_rel (List.all_eq_true.1 hf d (List.mem_of_getElem? hd)) (k.2 i u d hu hd)⟩

theorem row_rd {st : Nat → Prop} {e : TypeId} {sz : Nat} {v : Value} {xs : List (List D)} {cells : List Value} {st' : Nat → Prop} (hr : RowIs w e sz v xs.length cells) (hf : F2 (Rd st w) cells xs.flatten) (hl : ∀ x ∈ xs, x.length = sz)
    (h1 : ∀ b, st b → st' b) (h2 : ∀ b, ownB v = some b → st' b) : Rd st' w v (.sl xs) := by
  rcases hr.cells with ⟨rfl, h0, _, p, cp, rfl⟩ | ⟨g, cap, cur, rfl, hg, hn, hm, hc0, hcs, hcl, hk⟩
  · obtain rfl : xs = [] := List.eq_nil_of_length_eq_zero h0
    rcases hr with h | ⟨_, _, p', e'⟩
    · rcases h.2 with ⟨e', _⟩ | ⟨g, cap, cur, e', _, hg, hn, hm, _⟩
      · cases e'; exact .nil
      · cases e'
        cases cp with
        | zero => exact .nil
        | succ k => exact Rd.mk_sl (sz := 0) rfl (Nat.zero_le _) hm (h2 g rfl) hg (by simp) (by simp)
    · cases e'; exact .nil
  · cases cap with
    | zero => omega
    | succ k =>
      refine Rd.mk_sl rfl hn hm (h2 g rfl) hg hl fun i x j d hx hj => ?_
      obtain ⟨u, hu, hr'⟩ := hf.get (flat_get hl hx hj)
      exact ⟨u, by rw [Nat.zero_add]; exact hk _ u hu, hr'.mono fun b hb => ⟨h1 b hb, rfl⟩⟩

/-- What an object tells, whoever may look. -/
theorem argA_rel (h : Sim c σ β a w) {v : Value} {r : R} {x : A} (hv : RelR β (stF c σ β w) w v r) (ha : argA σ r = some x) : RelA (fun _ => True) w v x := by
  unfold argA at ha
  split at ha
  · cases ha; cases hv with | a h => exact h.mono fun _ _ => ⟨trivial, rfl⟩
  · cases ha; obtain ⟨p, n, rfl, hr⟩ := hv.inv_cs; exact hr.mono fun _ _ => ⟨trivial, rfl⟩
  · split at ha
    · rename_i ob e sz xs hm
      cases ha
      obtain ⟨cells, hr, hf, hl⟩ := h.obj _ _ hm
      rw [hv.inv_own]
      exact row_rd hr hf hl (fun _ _ => trivial) (fun _ _ => trivial)
    · cases ha
  · split at ha
    · rename_i o kv hm
      cases ha
      obtain ⟨r, clock, es, vs, hb, hh, hl, hs, hk, hd⟩ := h.obj _ _ hm
      cases hv with
      | omp e _ => rw [← e, hb]; exact .mp trivial hh hl hs hk fun i p h1 => (hd i p h1).mono fun _ _ => ⟨trivial, rfl⟩
    · cases ha
  · split at ha
    · rename_i ob off x cs hm
      obtain ⟨ds, h1, rfl⟩ := Option.map_eq_some_iff.1 ha
      obtain ⟨b, arr, e, hb, hh, hf⟩ := h.obj _ _ hm
      obtain ⟨b', hb', rfl⟩ := hv.inv_ref
      rw [hb] at hb'; cases hb'
      have hds := allD_inv h1
      refine Rd.mk_pt trivial hh fun j d hj => ?_
      rw [List.getElem?_drop] at hj
      obtain ⟨u, hu, _, hr⟩ := hf.get (show cs[off + j]? = some (.a (.d d)) by rw [hds]; simp [hj])
      exact ⟨u, by simpa using hu, hr.inv_d.mono fun _ _ => ⟨trivial, rfl⟩⟩
    · cases ha
  all_goals cases ha
theorem argsA_rel (h : Sim c σ β a w) {rs : List R} {as : List A} (ha : argsA σ rs = some as) {vs : List Value} (hv : F2 (RelR β (stF c σ β w) w) vs rs) : F2 (RelA (fun _ => True) w) vs as := by
  induction rs generalizing as vs with
  | nil => cases ha; rw [hv.of_nil]; exact F2.nil
  | cons r rs ih =>
    unfold argsA at ha
    split at ha
    · rename_i x xs h1 h2
      cases ha
      obtain ⟨v, vs', rfl, h3, h4⟩ := hv.of_cons
      exact F2.cons (argA_rel h h3 h1) (ih h2 h4)
    · cases ha

theorem funcs_run {P : Program} {w : World} {f : FuncId} {args : Array Value} (h : FnOk P f) : (callFunc f args).run P w = .ok (.enter f args) w := by
  obtain ⟨fn, h1, h2, h3⟩ := h
  have h2' : fn.body ≠ none := fun e => by simp [e] at h2
  have h3' : fn.name ≠ "runtime.NumGoroutine" := by simpa using h3
  simp [callFunc, h1, h2', h3']
theorem call_run {P : Program} {w : World} {k : Call} {f : Operand} {g : FuncId} {caps : List Value} (hc : k.callee = .value f) (ht : o.op = .call k) (hf : a.eval f = .func (.func g) #[] caps.toArray) (hok : FnOk P g) :
    (execOp a.eval o).run P w = .ok (.enter g ((k.args.toList.map a.eval ++ caps).toArray)) w := by
  simp only [execOp, ht, resolve, hc, Deferred.ofValue, hf, Sem.run_bind, Sem.run_pure, Result.andThen_ok, invoke, funcs_run hok]
  congr 2
  simp [← Array.toList_map]

theorem rets_rel {st : Nat → Prop} {w : World} {n : Nat} {us : List Value} {xs : List A} (h : F2 (RelV st w n) us (xs.map Rv.a)) : RelR β st w (retV us) (retR xs) := by
  have hl : us.length = xs.length := by simpa using h.1
  have hr : ∀ i u x, us[i]? = some u → xs[i]? = some x → RelA st w u x := fun i u x hu hx => h.2 i u (.a x) hu (by simp [hx])
  match xs, us, hl with
  | [x], [u], _ => exact .a (hr 0 u x rfl rfl)
  | [], [], _ => exact .tp rfl fun j v r hj => by simp at hj
  | x :: y :: xs, u :: v :: us, hl =>
    refine .tp (vs := u :: v :: us) (by simpa using hl) fun j v r hv hr' => ?_
    simp only [List.getElem?_map, Option.map_eq_some_iff] at hr'
    obtain ⟨x', hx', rfl⟩ := hr'
    exact .a (hr j v x' hv hx')

theorem st_call {us : List Value} {res : List Rv} {w' : World} (h : Sim c σ β a w) (k : Keep (fun _ => False) w w') {b : Nat} (hb : newSt (stF c σ β w) w w' us res b) : stF c σ β w' b := by
  rcases hb with ⟨hb, _⟩ | ⟨h1, h2, _, h4⟩
  · exact ⟨Nat.lt_of_lt_of_le hb.1 k.size, hb.2.1, hb.2.2.1, hb.2.2.2.same (k.block b hb.1 id)⟩
  · exact ⟨h2, fun h3 => absurd (Nat.lt_of_lt_of_le h3 h.keep.size) (Nat.not_lt.2 h1), fun o x ho e => Nat.lt_irrefl _ (Nat.lt_of_lt_of_le ((h.obj o x ho).lt e) h1), h4⟩

theorem callQ_sound (h : Sim c σ β a w) {k : Call} {f : Operand} {g : FuncId} {caps : List D} (hc : k.callee = .value f) (ht : o.op = .call k) (hf : σ.eval c.gl f = .a (.d (.fn g caps)))
    (hq : callQ c.P c.gl g (k.args.toList.map (σ.eval c.gl) ++ caps.map fun d => .a (.d d)) σ K) : Run c.P o a w (QOut c σ β w K) := by
  obtain ⟨as, res, hargs, ⟨hok, hh⟩, hcase, hk⟩ := hq
  have hfv := h.eval f
  rw [hf] at hfv
  obtain ⟨cvs, hcv, hcl, hcd⟩ : ∃ cvs : List Value, a.eval f = .func (.func g) #[] cvs.toArray ∧ cvs.length = caps.length ∧ ∀ (j : Nat) (d : D) (v : Value), caps[j]? = some d → cvs[j]? = some v → Rd (stF c σ β w) w v d := by
    have := hfv.inv_d
    generalize a.eval f = v at this
    cases this with
    | fn hl hd => exact ⟨_, rfl, hl, hd⟩
  have hvs : F2 (RelR β (stF c σ β w) w) (k.args.toList.map a.eval ++ cvs) (k.args.toList.map (σ.eval c.gl) ++ caps.map fun d => .a (.d d)) := by
    refine F2.append ⟨by simp, fun i u r hu hr => ?_⟩ ⟨by simp [hcl], fun i u r hu hr => ?_⟩
    · simp only [List.getElem?_map, Option.map_eq_some_iff] at hu hr
      obtain ⟨x, hx, rfl⟩ := hu
      obtain ⟨y, hy, rfl⟩ := hr
      rw [hx] at hy; cases hy
      exact h.eval x
    · simp only [List.getElem?_map, Option.map_eq_some_iff] at hr
      obtain ⟨d, hd, rfl⟩ := hr
      exact .a (hcd i d u hd hu)
  refine Run.call (fun c' e => by rw [ht] at e; cases e) (call_run hc ht hcv hok) ?_
  rcases hcase with hflat | hrs
  · refine (hh (fun _ => True) w _ (h.env.mono fun _ _ => ⟨trivial, rfl⟩) (argsA_rel h hargs hvs)).mono ?_
    rintro e w' ⟨us, rfl, hkeep, hres, _⟩
    refine ⟨_, rfl, _, hk, hkeep, rets_rel (n := w.heap.size) ⟨hres.1, fun i u r hu hr => ?_⟩⟩
    have h1 := hres.2 i u r hu hr
    simp only [List.getElem?_map, Option.map_eq_some_iff] at hr
    obtain ⟨x, hx, rfl⟩ := hr
    exact A.flat_rel (List.all_eq_true.1 hflat x (List.mem_of_getElem? hx)) h1
  · rw [hrs] at hvs
    have hva : F2 (RelA (stF c σ β w) w) (k.args.toList.map a.eval ++ cvs) as :=
      ⟨by simpa using hvs.1, fun i u x hu hx => by
        have := hvs.2 i u (.a x) hu (by simp [hx])
        cases this with | a h => exact h⟩
    refine (hh (stF c σ β w) w _ h.env hva).mono ?_
    rintro e w' ⟨us, rfl, hkeep, hres, _⟩
    refine ⟨_, rfl, _, hk, hkeep, rets_rel (n := w.heap.size) ⟨hres.1, fun i u r hu hr => ?_⟩⟩
    have h1 := hres.2 i u r hu hr
    simp only [List.getElem?_map, Option.map_eq_some_iff] at hr
    obtain ⟨x, hx, rfl⟩ := hr
    exact RelA.mono (fun b hb => ⟨st_call h hkeep hb, rfl⟩) h1

theorem part_off {P : Program} {t : TypeId} {f fo fs : Nat} {b : Bool} {offs : List (Nat × Nat × Bool)} {bl off : Nat} (ht : tk P t = .struct offs) (hf : offs[f]? = some (fo, fs, b)) (hz : fs ≠ 0) :
    (Instr.fieldAt t (.pointer (some ⟨bl, off, none⟩)) f).run P w = .ok (.pointer (some ⟨bl, off + fo, none⟩)) w := by
  obtain ⟨fds, hu, rfl⟩ := tk_struct ht
  simp only [List.getElem?_map, Option.map_eq_some_iff] at hf
  obtain ⟨fd, hfd, he⟩ := hf
  simp only [Prod.mk.injEq] at he
  obtain ⟨rfl, rfl, _⟩ := he
  have hfd' : fds[f]? = some fd := by simpa using hfd
  cases hi : P.info? fd.type with
  | none => rw [hi] at hz; exact absurd rfl hz
  | some i =>
    rw [hi] at hz
    simp only [Option.map_some, Option.getD_some] at hz
    simp only [Instr.fieldAt, Sem.run_bind, run_under hu, Result.andThen_ok, hfd', Instr.sureAddr, Sem.run_pure, fieldPlace, sizeOf, run_info hi]
    rw [if_neg hz]
    simp [add_at]
theorem idx_slice {P : Program} {t e : TypeId} {ti : TI} {k : IntKind} {n : Int} {b off len cap : Nat} (ht : tk P t = .slice e) (hti : tinf P e = some ti) (h0 : 0 ≤ n) (h1 : n < len) :
    (Instr.indexAt t (.slice (some ⟨b, off, none⟩) len cap) (.int k n)).run P w = .ok (.pointer (some ⟨b, off + n.toNat * ti.sz, none⟩)) w := by
  simp only [Instr.indexAt, asIntOf, Sem.run_bind, Sem.run_pure, Result.andThen_ok, run_under (tk_slice ht)]
  rw [if_pos ⟨h0, h1⟩]
  simp [run_size hti, add_at]
theorem idx_arr {P : Program} {t e : TypeId} {ti : TI} {k : IntKind} {n : Int} {b off len : Nat} (ht : tk P t = .arr len e) (hti : tinf P e = some ti) (h0 : 0 ≤ n) (h1 : n < len) :
    (Instr.indexAt t (.pointer (some ⟨b, off, none⟩)) (.int k n)).run P w = .ok (.pointer (some ⟨b, off + n.toNat * ti.sz, none⟩)) w := by
  simp only [Instr.indexAt, asIntOf, Sem.run_bind, Sem.run_pure, Result.andThen_ok, run_under (tk_arr ht), Instr.sureAddr]
  rw [if_pos ⟨h0, h1⟩]
  simp [run_size hti, add_at]

theorem run_equalIn_bool {P : Program} {w : World} (d : Nat) {t : TypeId} (ht : P.underlying t = some .bool) (p q : Bool) : (Op.equalIn (d + 1) t (.bool p) (.bool q)).run P w = .ok (p == q) w := by
  simp only [Op.equalIn, Sem.run_bind, run_under ht, Result.andThen_ok]; rfl
theorem run_equal_bool {P : Program} {w : World} {t : TypeId} (ht : P.underlying t = some .bool) (p q : Bool) : (Op.equal t (.bool p) (.bool q)).run P w = .ok (p == q) w := run_equalIn_bool 9999 ht p q
theorem q_bin {op : BinOp} {t ty : TypeId} {x y : Operand} (h : Sim c σ β a w) (ho : o.op = .binOp op t x y ty) (hq : opQ c.P c.gl o σ K) : Run c.P o a w (QOut c σ β w K) := by
  have hd : ∀ c : Call, o.op ≠ .defer c := fun _ e => by rw [ho] at e; cases e
  have hx := h.eval x
  have hy := h.eval y
  simp only [opQ, ho] at hq
  split at hq
  · rename_i p q hp hq'
    rw [hp] at hx; rw [hq'] at hy
    split at hq
    · rename_i ht
      exact q_same (v := .bool (p == q)) hd (by simp only [execOp, ho, hx.inv_v, hy.inv_v, Sem.run_bind, eqGuard, binOp, run_equal_bool (tk_bool ht), Result.andThen_ok, Sem.run_pure]; rfl) hq (.a (.v rfl))
    · rename_i ht
      exact q_same (v := .bool (p != q)) hd (by simp only [execOp, ho, hx.inv_v, hy.inv_v, Sem.run_bind, eqGuard, binOp, run_equal_bool (tk_bool ht), Result.andThen_ok, Sem.run_pure]; rfl) hq (.a (.v rfl))
    · exact hq.elim
  · rename_i u v hu hv
    rw [hu] at hx; rw [hv] at hy
    split at hq
    · rename_i p r hb
      obtain ⟨hp, hq⟩ := hq
      have := run_binOp (P := c.P) (w := w) (t := t) (x := x) (y := y) hb hp
      have h1 : r.oneCell' = true := by
        unfold binR at hb
        split at hb
        · cases op <;> cases hb <;> rfl
        · cases op <;> first | (cases hb; done) | (cases hb; rfl)
        · cases hb
      exact q_same hd (by simp only [execOp, ho, hx.inv_v, hy.inv_v, Sem.run_bind] at this ⊢; rw [this]; rfl) hq (.a (.v h1))
    · exact hq.elim
  · exact hq.elim

theorem len_run (h : Sim c σ β a w) {t ty : TypeId} {x : Operand} {b : Bool} {n : Int} (hn : lenR σ (σ.eval c.gl x) = some (b, n)) (ht : (b = false ∧ ∃ e, tk c.P t = .slice e) ∨ (b = true ∧ tk c.P t = .str)) :
    (Builtin.len_ #[t] ty #[a.eval x]).run c.P w = .ok (.int .i64 n) w := by
  have hx := h.eval x
  have sl : ∀ p m cp, b = false → a.eval x = .slice p m cp → (m : Int) = n → (Builtin.len_ #[t] ty #[a.eval x]).run c.P w = .ok (.int .i64 n) w := by
    intro p m cp hb hv hm
    subst hm
    rcases ht with ⟨_, e, ht⟩ | ⟨hb', _⟩
    · simp [Builtin.len_, run_under (tk_slice ht), hv, goInt]
    · rw [hb] at hb'; cases hb'
  unfold lenR at hn
  split at hn
  · rename_i xs he
    cases hn
    rw [he] at hx
    rcases hx.inv_d.inv_sl with ⟨⟨p, hv⟩, rfl⟩ | ⟨b, off, m, cap, sz, arr, e', fr, hv, hl, _⟩
    · exact sl _ _ _ rfl hv rfl
    · exact sl _ _ _ rfl hv (by rw [hl])
  · rename_i xs he
    cases hn
    rw [he] at hx
    obtain ⟨p, m, hv, hr⟩ := hx.inv_cs
    exact sl _ _ _ rfl hv (by rw [hr.sl_len])
  · rename_i ob he
    rw [he] at hx
    split at hn
    · rename_i e0 sz xs hm
      cases hn
      obtain ⟨cells, hr, hf, hl⟩ := h.obj ob _ hm
      rcases hr.cells with ⟨_, h0, _, p, cp, hv⟩ | ⟨g, cap, cur, hv, _⟩
      · exact sl _ _ _ rfl (hx.inv_own.trans hv) (by simp [h0])
      · exact sl _ _ _ rfl (hx.inv_own.trans hv) rfl
    · cases hn
  · rename_i s he
    cases hn
    rw [he] at hx
    rcases ht with ⟨hb', _⟩ | ⟨_, ht⟩
    · cases hb'
    · simp [Builtin.len_, run_under (tk_str ht), hx.inv_v, goInt]
  · cases hn

theorem q_call {k : Call} (h : Sim c σ β a w) (ho : o.op = .call k) (hq : opQ c.P c.gl o σ K) : Run c.P o a w (QOut c σ β w K) := by
  have hd : ∀ c : Call, o.op ≠ .defer c := fun _ e => by rw [ho] at e; cases e
  simp only [opQ, ho] at hq
  split at hq
  · rename_i b hb
    split at hq
    · rename_i x t hargs htys
      have ha : k.args = #[x] := by rw [← Array.toArray_toList (xs := k.args), hargs]
      have hty : k.argTypes = #[t] := by rw [← Array.toArray_toList (xs := k.argTypes), htys]
      split at hq
      · rename_i b' n hn
        have hrun : ((b' = false ∧ ∃ e, tk c.P t = .slice e) ∨ (b' = true ∧ tk c.P t = .str)) → (execOp a.eval o).run c.P w = .ok (.value (.int .i64 n)) w := by
          intro ht
          have := len_run h (ty := o.type) hn ht
          simp [execOp, ho, resolve, hb, ha, hty, invoke, builtin, this]
        split at hq
        · rename_i e ht
          exact q_same hd (hrun (.inl ⟨rfl, e, ht⟩)) hq (.a (.v rfl))
        · rename_i ht
          exact q_same hd (hrun (.inr ⟨rfl, ht⟩)) hq (.a (.v rfl))
        · exact hq.elim
      · exact hq.elim
    · rename_i x y hargs
      have ha : k.args = #[x, y] := by rw [← Array.toArray_toList (xs := k.args), hargs]
      have hx := h.eval x
      have hy := h.eval y
      split at hq
      · rename_i kk m kk' m' hp hq'
        rw [hp] at hx; rw [hq'] at hy
        refine q_same (v := .int kk (if m' < m then m' else m)) hd ?_ hq (.a (.v rfl))
        simp [execOp, ho, resolve, hb, ha, invoke, builtin, Builtin.min_, hx.inv_v, hy.inv_v, Builtin.min2]
      · exact hq.elim
    · rename_i x y hargs
      have ha : k.args = #[x, y] := by rw [← Array.toArray_toList (xs := k.args), hargs]
      have hx := h.eval x
      have hy := h.eval y
      split at hq
      · rename_i kk m kk' m' hp hq'
        rw [hp] at hx; rw [hq'] at hy
        refine q_same (v := .int kk (if m' > m then m' else m)) hd ?_ hq (.a (.v rfl))
        simp [execOp, ho, resolve, hb, ha, invoke, builtin, Builtin.max_, hx.inv_v, hy.inv_v, Builtin.max2]
      · exact hq.elim
    · exact hq.elim
  · rename_i f hf
    split at hq
    · rename_i g caps he
      exact callQ_sound h hf ho he hq
    · exact hq.elim
  · exact hq.elim

theorem cellD_rd {st : Nat → Prop} {w : World} {v : Value} (hv : v.oneCell' = true) : Rd st w v (cellD v) := by
  unfold cellD
  split
  · exact .nil
  · exact .mpn
  · exact .v hv
theorem mapOf_rel {r : R} {v : Value} {kv : List (Int × D)} (h : Sim c σ β a w) (hv : RelR β (stF c σ β w) w v r) (hm : mapOf σ r = some kv) :
    (v = .map none ∧ kv = []) ∨ ∃ (r clock : Nat) (es : Array MapEntry) (vs : Nat → Value), v = .map (some r) ∧ w.heap[r]? = some (.map es clock) ∧ es.size = kv.length ∧ MapKept.Stamped es clock ∧
      (∀ (i : Nat) (e : MapEntry) (p : Int × D), es[i]? = some e → kv[i]? = some p → e.key = .int .i64 p.1 ∧ e.val = vs i) ∧
      (∀ (i : Nat) (p : Int × D), kv[i]? = some p → Rd (stF c σ β w) w (vs i) p.2) := by
  rcases r with _ | ((_ | _ | _ | _ | kv') | _) | _ | _ | _ | _ | o | _ | _ <;> simp only [mapOf] at hm <;> try cases hm
  · have := hv.inv_d
    cases this with
    | mpn => exact .inl ⟨rfl, rfl⟩
    | mp hst hb hl hs hk hd => exact .inr ⟨_, _, _, _, rfl, hb, hl, hs, hk, hd⟩
  · split at hm
    · rename_i kv' ho
      cases hm
      obtain ⟨r, clock, es, vs, hb, hh, hl, hs, hk, hd⟩ := h.obj _ _ ho
      cases hv with
      | omp e _ => exact .inr ⟨r, clock, es, vs, e ▸ hb, hh, hl, hs, hk, hd⟩
    · cases hm
/-- Entries and what is told of them: the search. -/
theorem find_kv {n : Int} : ∀ (es : List MapEntry) (kv : List (Int × D)) (i : Nat), es.length = kv.length → (∀ (j : Nat) (e : MapEntry) (p : Int × D), es[j]? = some e → kv[j]? = some p → e.key = .int .i64 p.1) →
    (Instr.findNow (.int .i64) (.int .i64 n) es i = some none ∧ kvGet kv n = none ∧ (∀ y, kvSet kv n y = kv ++ [(n, y)]) ∧ ∀ e ∈ es, e.key ≠ .int .i64 n) ∨
    ∃ (j : Nat) (e : MapEntry) (p : Int × D), Instr.findNow (.int .i64) (.int .i64 n) es i = some (some (i + j, e.val)) ∧ es[j]? = some e ∧ kv[j]? = some p ∧ p.1 = n ∧ kvGet kv n = some p.2 ∧ ∀ y, kvSet kv n y = kv.set j (n, y)
  | [], [], i, _, _ => .inl ⟨rfl, rfl, fun _ => rfl, fun e he => by simp at he⟩
  | e :: es, (k, x) :: kv, i, hl, hk => by
    have h0 := hk 0 e (k, x) rfl rfl
    dsimp only at h0
    by_cases e0 : k = n
    · subst e0
      exact .inr ⟨0, e, (k, x), by simp [Instr.findNow, Instr.sameNow, h0], rfl, rfl, rfl, by simp [kvGet], fun y => by simp [kvSet]⟩
    · rcases find_kv (n := n) es kv (i + 1) (by simpa using hl) (fun j e p h1 h2 => hk (j + 1) e p (by simpa using h1) (by simpa using h2)) with ⟨h1, h2, h3, h4⟩ | ⟨j, e', p, h1, h2, h3, h4, h5, h6⟩
      · have hb : (n == k) = false := by simpa using Ne.symm e0
        refine .inl ⟨?_, by simp [kvGet, e0, h2], fun y => by simp [kvSet, e0, h3 y], fun e' he' => ?_⟩
        · simp [Instr.findNow, Instr.sameNow, h0, hb, h1]
        · rcases List.mem_cons.1 he' with rfl | he'
          · rw [h0]; intro h; cases h; exact e0 rfl
          · exact h4 e' he'
      · have hb : (n == k) = false := by simpa using Ne.symm e0
        refine .inr ⟨j + 1, e', p, ?_, by simpa using h2, by simpa using h3, h4, by simp [kvGet, e0, h5], fun y => by simp [kvSet, e0, h6 y]⟩
        simp [Instr.findNow, Instr.sameNow, h0, hb, h1, Nat.add_assoc, Nat.add_comm 1 j]
  | [], _ :: _, i, hl, _ => by simp at hl
  | _ :: _, [], i, hl, _ => by simp at hl
theorem look_run {t : TypeId} {x i : Operand} {ok : Bool} {r : R} (h : Sim c σ β a w) (hr : lookR c.P σ t (σ.eval c.gl x) (σ.eval c.gl i) ok = some r) :
    ∃ v, (Instr.lookup t (a.eval x) (a.eval i) ok).run c.P w = .ok v w ∧ RelR β (stF c σ β w) w v r := by
  unfold lookR at hr
  split at hr
  · rename_i z kv n hz hm hi
    obtain ⟨kt, e, inf, u, ht, hkt, hinf, hzu, hu1, rfl⟩ := mapT_inv hz
    have hv := h.eval i
    rw [hi] at hv
    have hv := hv.inv_v
    have hzero : (zeroValue e).run c.P w = .ok u w := by simp [zeroValue, run_info hinf, hzu]
    have hkey : MapKept.IsKey (.int .i64) (.int .i64 n) := rfl
    have fin : ∀ (d : D) (v : Value) (b : Bool), Rd (stF c σ β w) w v d → (if ok then some (R.tp [.a (.d d), .a (.d (.v (.bool b)))]) else some (.a (.d d))) = some r →
        RelR β (stF c σ β w) w (if ok then .tuple #[v, .bool b] else v) r := fun d v b hd hr => by
      cases ok with
      | false => cases hr; exact .a hd
      | true =>
        cases hr
        refine .tp (by rfl) fun j v' r' hv' hr' => ?_
        match j with
        | 0 => simp at hv' hr'; subst hv'; subst hr'; exact .a hd
        | 1 => simp at hv' hr'; subst hv'; subst hr'; exact .a (.v rfl)
        | j + 2 => simp at hv'
    rcases mapOf_rel h (h.eval x) hm with ⟨hx, rfl⟩ | ⟨b, clock, es, vs, hx, hb, hl, hs, hk, hd⟩
    · refine ⟨if ok then .tuple #[u, .bool false] else u, ?_, fin _ u false (cellD_rd hu1) (by cases ok <;> simpa [kvGet] using hr)⟩
      rw [hx, hv]
      simp only [Instr.lookup, Sem.run_bind, run_underlying ht, Result.andThen_ok, Sem.run_pure, MapKept.run_checkKey hkt hkey]
      rw [MapKept.run_findKey hkt (a := none) (by rfl)]
      simp only [Result.andThen_ok, Sem.run_bind, hzero, Sem.run_pure]
    · rcases find_kv (n := n) es.toList kv 0 (by simpa using hl) (fun j e p h1 h2 => (hk j e p (by simpa using h1) h2).1) with ⟨h1, h2, _, _⟩ | ⟨j, e', p, h1, h2, h3, h4, h5, _⟩
      · refine ⟨if ok then .tuple #[u, .bool false] else u, ?_, fin _ u false (cellD_rd hu1) (by cases ok <;> simpa [h2] using hr)⟩
        rw [hx, hv]
        simp only [Instr.lookup, Sem.run_bind, run_underlying ht, Result.andThen_ok, Sem.run_pure, MapKept.run_getObj_map hb, MapKept.run_checkKey hkt hkey, MapKept.run_findKey hkt h1, hzero]
      · refine ⟨if ok then .tuple #[e'.val, .bool true] else e'.val, ?_, fin p.2 e'.val true (by rw [(hk j e' p (by simpa using h2) h3).2]; exact hd j p h3) (by cases ok <;> simpa [h5] using hr)⟩
        rw [hx, hv]
        simp only [Instr.lookup, Sem.run_bind, run_underlying ht, Result.andThen_ok, Sem.run_pure, MapKept.run_getObj_map hb, MapKept.run_checkKey hkt hkey, MapKept.run_findKey hkt h1]
  · cases hr
theorem opQ_sound (h : Sim c σ β a w) (hq : opQ c.P c.gl o σ K) : Run c.P o a w (QOut c σ β w K) := by
  unfold opQ at hq
  split at hq
  case h_1 x ho => exact q_same (fun _ e => by rw [ho] at e; cases e) (by simp [execOp, ho]) hq (h.eval x)
  case h_2 x ho => exact q_same (fun _ e => by rw [ho] at e; cases e) (by simp [execOp, ho]) hq (h.eval x)
  case h_3 cc x y ho =>
    split at hq
    · rename_i t ht
      have hc := h.eval cc
      rw [ht] at hc
      have hv := hc.inv_v
      split at hq
      · exact q_same (fun _ e => by rw [ho] at e; cases e) (by simp [execOp, ho, hv, asBool]) hq (h.eval x)
      · exact q_same (fun _ e => by rw [ho] at e; cases e) (by simp [execOp, ho, hv, asBool]) hq (h.eval y)
    · exact hq.elim
  case h_4 t p ho =>
    split at hq
    · rename_i r hr
      obtain ⟨v, hv, hrel⟩ := load_run h hr
      exact q_same (fun _ e => by rw [ho] at e; cases e) (by simp [execOp, ho, hv]) hq hrel
    · exact hq.elim
  case h_5 t p f ho =>
    split at hq
    · rename_i offs ht
      split at hq
      · rename_i fo fs b hf
        obtain ⟨hz, hq⟩ := hq
        have hp := h.eval p
        have hd : ∀ c : Call, o.op ≠ .defer c := fun _ e => by rw [ho] at e; cases e
        split at hq
        · rename_i ob off he
          rw [he] at hp
          obtain ⟨bl, hb, hv⟩ := hp.inv_ref
          exact q_same hd (by simp [execOp, ho, hv, part_off ht hf hz]) hq (.ref hb)
        · rename_i cs he
          rw [he] at hp
          obtain ⟨bl, off, arr, e, fr, hv, _⟩ := hp.inv_d.inv_pt
          have := hp.inv_d
          rw [hv] at this
          exact q_same hd (by simp [execOp, ho, hv, part_off ht hf hz]) hq (.a (this.pt_drop fo))
        · rename_i ob i sz j he
          rw [he] at hp
          obtain ⟨bl, n, cp, hb, hv⟩ := hp.inv_eref
          exact q_same (v := .pointer (some ⟨bl, i * sz + j + fo, none⟩)) hd (by simp [execOp, ho, hv, part_off ht hf hz]) hq (by rw [Nat.add_assoc]; exact .eref hb)
        · exact hq.elim
      · exact hq.elim
    · exact hq.elim
  case h_6 t x i ho =>
    have hd : ∀ c : Call, o.op ≠ .defer c := fun _ e => by rw [ho] at e; cases e
    split at hq
    · rename_i k n hi
      have hiv := h.eval i
      rw [hi] at hiv
      have hn := hiv.inv_v
      split at hq
      · rename_i e ht
        split at hq
        · rename_i ti hti
          have hx := h.eval x
          have row : ∀ xs, Rd (stF c σ β w) w (a.eval x) (.sl xs) → idxK n xs ti.sz (fun c => K (.a (.d (.pt c)))) → Run c.P o a w (QOut c σ β w K) := by
            intro xs hr hk
            obtain ⟨h0, hk⟩ := hk
            split at hk
            · rename_i cc hcc
              obtain ⟨hsz, hk⟩ := hk
              have hlt := (List.getElem?_eq_some_iff.1 hcc).1
              rcases hr.inv_sl with ⟨_, rfl⟩ | ⟨b, off, len, cap, sz, arr, e', fr, hv, hlen, hc1, hc2, hst, hb, hall, hcell⟩
              · simp at hcc
              · have hs : sz = ti.sz := (hall cc (List.mem_of_getElem? hcc)).symm.trans hsz
                subst hs
                refine q_same (v := .pointer (some ⟨b, off + n.toNat * ti.sz, none⟩)) hd (by simp [execOp, ho, hv, hn, idx_slice ht hti h0 (show n < (len : Int) by omega)]) hk (.a (Rd.mk_pt hst hb fun j d hj => ?_))
                exact hcell _ cc j d hcc hj
            · exact hk.elim
          split at hq
          · rename_i xs he
            rw [he] at hx
            exact row xs hx.inv_d hq
          · rename_i xs he
            rw [he] at hx
            obtain ⟨p, m, hv, hr⟩ := hx.inv_cs
            exact row xs (hv ▸ hr) hq
          · rename_i ob he
            rw [he] at hx
            split at hq
            · rename_i e' sz xs hm
              obtain ⟨h0, hk⟩ := hq
              split at hk
              · rename_i cc hcc
                obtain ⟨hsz, hk⟩ := hk
                have hlt := (List.getElem?_eq_some_iff.1 hcc).1
                obtain ⟨cells, hrow, hf, hall⟩ := h.obj ob _ hm
                rcases hrow.cells with ⟨_, hz, _⟩ | ⟨g, cap, cur, hv, _⟩
                · omega
                · have hv' : a.eval x = .slice (some ⟨g, 0, none⟩) xs.length cap := hx.inv_own.trans hv
                  refine q_same (v := .pointer (some ⟨g, 0 + n.toNat * ti.sz, none⟩)) hd (by simp [execOp, ho, hv', hn, idx_slice ht hti h0 (show n < (xs.length : Int) by omega)]) hk ?_
                  have := RelR.eref (β := β) (st := stF c σ β w) (w := w) (o := ob) (i := n.toNat) (sz := ti.sz) (j := 0) hv
                  simpa using this
              · exact hk.elim
            · exact hq.elim
          · exact hq.elim
        · exact hq.elim
      · rename_i len e ht
        split at hq
        · rename_i ti hti
          obtain ⟨h0, h1, hq⟩ := hq
          have hx := h.eval x
          split at hq
          · rename_i ob off he
            rw [he] at hx
            obtain ⟨bl, hb, hv⟩ := hx.inv_ref
            exact q_same hd (by simp [execOp, ho, hv, hn, idx_arr ht hti h0 h1]) hq (.ref hb)
          · rename_i cs he
            rw [he] at hx
            obtain ⟨bl, off, arr, e, fr, hv, _⟩ := hx.inv_d.inv_pt
            have := hx.inv_d
            rw [hv] at this
            exact q_same hd (by simp [execOp, ho, hv, hn, idx_arr ht hti h0 h1]) hq (.a (this.pt_drop _))
          · exact hq.elim
        · exact hq.elim
      · exact hq.elim
    · exact hq.elim
  case h_7 x ho =>
    have hd : ∀ c : Call, o.op ≠ .defer c := fun _ e => by rw [ho] at e; cases e
    have hx := h.eval x
    split at hq
    · rename_i ob off he
      rw [he] at hx
      obtain ⟨bl, hb, hv⟩ := hx.inv_ref
      exact q_same hd (by simp [execOp, ho, hv]) hq (.ref hb)
    · rename_i cs he
      rw [he] at hx
      obtain ⟨bl, off, arr, e, fr, hv, _⟩ := hx.inv_d.inv_pt
      have := hx.inv_d
      rw [hv] at this
      exact q_same hd (by simp [execOp, ho, hv]) hq (.a this)
    · rename_i ob i sz j he
      rw [he] at hx
      obtain ⟨bl, n, cp, hb, hv⟩ := hx.inv_eref
      exact q_same hd (by simp [execOp, ho, hv]) hq (.eref hb)
    · exact hq.elim
  case h_8 op t x y ty ho => exact q_bin h ho (by unfold opQ; rw [ho]; exact hq)
  case h_9 op t x ho =>
    have hd : ∀ c : Call, o.op ≠ .defer c := fun _ e => by rw [ho] at e; cases e
    have hx := h.eval x
    split at hq
    · rename_i u hu
      rw [hu] at hx
      split at hq
      · rename_i v hv
        unfold unR at hv
        split at hv
        · cases hv; exact q_same hd (by simp [execOp, ho, hx.inv_v, Op.unary, Op.intArith]) hq (.a (.v rfl))
        · cases hv; exact q_same hd (by simp [execOp, ho, hx.inv_v, Op.unary]) hq (.a (.v rfl))
        · cases hv
      · exact hq.elim
    · exact hq.elim
  case h_10 s t x ho =>
    have hd : ∀ c : Call, o.op ≠ .defer c := fun _ e => by rw [ho] at e; cases e
    have hx := h.eval x
    split at hq
    · rename_i k0 k k' n hs ht he
      rw [he] at hx
      exact q_same (v := .int k (k.wrap n)) hd (by simp [execOp, ho, hx.inv_v, convert, run_under (tk_int hs), run_under (tk_int ht), Conv.intToInt]) hq (.a (.v rfl))
    · exact hq.elim
  case h_11 t x i ok ho =>
    split at hq
    · rename_i r hr
      obtain ⟨v, hv, hrel⟩ := look_run h hr
      exact q_same (fun _ e => by rw [ho] at e; cases e) (by simp [execOp, ho, hv]) hq hrel
    · exact hq.elim
  case h_12 x i ho =>
    have hd : ∀ c : Call, o.op ≠ .defer c := fun _ e => by rw [ho] at e; cases e
    have hx := h.eval x
    split at hq
    · rename_i rs he
      rw [he] at hx
      obtain ⟨vs, hv, hf⟩ := hx.inv_tp
      split at hq
      · rename_i r hr
        obtain ⟨u, hu, hrel⟩ := hf.get hr
        exact q_same hd (by simp [execOp, ho, hv, Instr.extract, hu]) hq hrel
      · exact hq.elim
    · exact hq.elim
  case h_13 t x l hi m ho =>
    have hd : ∀ c : Call, o.op ≠ .defer c := fun _ e => by rw [ho] at e; cases e
    have hx := h.eval x
    split at hq
    · rename_i e ht
      split at hq
      · rename_i ti hti
        split at hq
        · rename_i xs he
          rw [he] at hx
          obtain ⟨u, r, hk, hrun, hrel⟩ := slice_run h ht hti hx.inv_d hq.2 hq.1
          exact q_same hd (by simp [execOp, ho, hrun]) hk (hrel β)
        · rename_i xs he
          rw [he] at hx
          obtain ⟨p, n, hv, hr⟩ := hx.inv_cs
          obtain ⟨u, r, hk, hrun, hrel⟩ := slice_run h ht hti (hv ▸ hr) hq.2 hq.1
          exact q_same hd (by simp [execOp, ho, hrun]) hk (hrel β)
        · exact hq.elim
      · exact hq.elim
    · exact hq.elim
  case h_14 k ho => exact q_call h ho (by unfold opQ; rw [ho]; exact hq)
  case h_15 => exact hq.elim
end
end Go.VC
