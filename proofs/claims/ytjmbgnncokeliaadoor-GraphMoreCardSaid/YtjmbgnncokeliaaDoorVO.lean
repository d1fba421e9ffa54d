/- What each quiet operation of the abstract machine tells is what the machine's own operation does. -/
import Derived.Test.YtjmbgnncokeliaaDoorVS
set_option linter.unusedVariables false
set_option linter.unusedSimpArgs false
namespace Go.VC
open Go.RowKit

theorem callsW {ρ : Option Nat} {n : Nat} {P : Program} {f : FuncId} {args : Array Value} {w : World} {R : Ending → World → Prop} (h : Calls P f args w R) : CallsIn (WF ρ) n P f args w R := by
  cases ρ with
  | none => exact callsIn_wide.2 h
  | some l => exact (show CallsIn Fence.wide n P f args w R from callsIn_wide.2 h)
theorem Run.of_wp {P : Program} {o : Oper} {a : Act} {w : World} {Z : Value → World → Prop} (hd : ∀ c, o.op ≠ .defer c)
    (h : ∀ (ρ : Option Nat) (n : Nat) (next : Act → World → Prop) (Q : Exit → Act → World → Prop), (∀ v w', Z v w' → next (a.put o.dst v) w') → o.uponIn (WF ρ) n P a next Q ((execOp a.eval o).run P w)) : Run P o a w Z := by
  intro ρ n next Q hn
  refine ⟨fun _ _ => trivial, ?_⟩
  rw [Oper.semAt_eq _ _ _ hd]
  exact h ρ n next Q hn
theorem Run.val {P : Program} {o : Oper} {a : Act} {w w' : World} {Z : Value → World → Prop} {v : Value} (hd : ∀ c, o.op ≠ .defer c)
    (hr : (execOp a.eval o).run P w = .ok (.value v) w') (hz : Z v w') : Run P o a w Z :=
  .of_wp hd fun ρ n next Q hn => by rw [hr]; exact hn v w' hz
theorem Run.skip {P : Program} {o : Oper} {a : Act} {w w' : World} {Z : Value → World → Prop} (hd : ∀ c, o.op ≠ .defer c)
    (hr : (execOp a.eval o).run P w = .ok .skip w') (hz : Z undef w') : Run P o a w Z :=
  .of_wp hd fun ρ n next Q hn => by rw [hr]; exact hn undef w' hz
theorem Run.call {P : Program} {o : Oper} {a : Act} {w w' : World} {Z : Value → World → Prop} {f : FuncId} {args : Array Value} (hd : ∀ c, o.op ≠ .defer c)
    (hr : (execOp a.eval o).run P w = .ok (.enter f args) w') (hc : Calls P f args w' fun e w'' => ∃ v, e = .returned v ∧ Z v w'') : Run P o a w Z :=
  .of_wp hd fun ρ n next Q hn => by
    rw [hr]
    refine ⟨fun hs => by simp [WF, Fence.wide] at hs, callsW (hc.mono ?_)⟩
    rintro e w'' ⟨v, rfl, hz⟩
    exact hn v w'' hz
theorem Run.mono {P : Program} {o : Oper} {a : Act} {w : World} {Z Z' : Value → World → Prop} (h : Run P o a w Z) (k : ∀ v w', Z v w' → Z' v w') : Run P o a w Z' :=
  fun ρ n next Q hn => h ρ n next Q fun v w' hz => hn v w' (k v w' hz)

/-! ### Types -/
theorem tinf_info {P : Program} {t : TypeId} {ti : TI} (h : tinf P t = some ti) : ∃ i u z, P.info? t = some i ∧ P.underlying t = some u ∧ i.zero = some z ∧ ti = ⟨i.size, i.bytes, isAggD u, z.cells.toList⟩ := by
  unfold tinf at h
  split at h
  · rename_i i u hi hu
    split at h
    · rename_i z hz
      exact ⟨i, u, z, hi, hu, hz, (Option.some.inj h).symm⟩
    · cases h
  · cases h
theorem run_under {P : Program} {w : World} {t : TypeId} {u : TypeDesc} (h : P.underlying t = some u) : (underlying t).run P w = .ok u w := by simp [underlying, h]
theorem run_info {P : Program} {w : World} {t : TypeId} {i : TypeInfo} (h : P.info? t = some i) : (typeInfo t).run P w = .ok i w := by simp [typeInfo, h]
theorem run_size {P : Program} {w : World} {t : TypeId} {ti : TI} (h : tinf P t = some ti) : (sizeOf t).run P w = .ok ti.sz w := by
  obtain ⟨i, u, z, hi, hu, hz, rfl⟩ := tinf_info h
  simp [sizeOf, run_info hi]
theorem run_isAgg {P : Program} {w : World} {t : TypeId} {ti : TI} (h : tinf P t = some ti) : (isAgg t).run P w = .ok ti.ag w := by
  obtain ⟨i, u, z, hi, hu, hz, rfl⟩ := tinf_info h
  simp only [isAgg, Sem.run_bind, run_under hu, Result.andThen_ok]
  cases u <;> rfl
theorem run_zero {P : Program} {w : World} {t : TypeId} {ti : TI} (h : tinf P t = some ti) : ∃ z, (zeroValue t).run P w = .ok z w ∧ ti.z = z.cells.toList := by
  obtain ⟨i, u, z, hi, hu, hz, rfl⟩ := tinf_info h
  exact ⟨z, by simp [zeroValue, run_info hi, hz], rfl⟩
theorem tk_slice {P : Program} {t e : TypeId} (h : tk P t = .slice e) : P.underlying t = some (.slice e) := by
  unfold tk at h
  split at h <;> first | (cases h; assumption) | cases h
theorem tk_arr {P : Program} {t e : TypeId} {n : Nat} (h : tk P t = .arr n e) : P.underlying t = some (.array n e) := by
  unfold tk at h
  split at h <;> first | (cases h; assumption) | cases h
theorem tk_int {P : Program} {t : TypeId} {k : IntKind} (h : tk P t = .int k) : P.underlying t = some (.int k) := by
  unfold tk at h
  split at h <;> first | (cases h; assumption) | cases h
theorem tk_bool {P : Program} {t : TypeId} (h : tk P t = .bool) : P.underlying t = some .bool := by
  unfold tk at h
  split at h <;> first | assumption | cases h
theorem tk_str {P : Program} {t : TypeId} (h : tk P t = .str) : P.underlying t = some .string := by
  unfold tk at h
  split at h <;> first | assumption | cases h
theorem tk_struct {P : Program} {t : TypeId} {offs : List (Nat × Nat × Bool)} (h : tk P t = .struct offs) :
    ∃ fs, P.underlying t = some (.struct fs) ∧ offs = fs.toList.map fun f => (f.offset, ((P.info? f.type).map (·.size)).getD 0, ((P.underlying f.type).map isAggD).getD true) := by
  unfold tk at h
  split at h <;> first | (cases h; exact ⟨_, by assumption, rfl⟩) | cases h

theorem tk_map {P : Program} {t k e : TypeId} (h : tk P t = .map k e) : P.underlying t = some (.map k e) := by
  unfold tk at h
  split at h <;> first | (cases h; assumption) | cases h
theorem mapT_inv {P : Program} {t : TypeId} {z : D} (h : mapT P t = some z) : ∃ k e i u, P.underlying t = some (.map k e) ∧ P.underlying k = some (.int .i64) ∧ P.info? e = some i ∧ i.zero = some u ∧ u.oneCell' = true ∧ z = cellD u := by
  unfold mapT at h
  split at h
  · rename_i k e ht
    split at h
    · rename_i i hk hi
      split at h
      · rename_i u hu
        split at h
        · rename_i h1; cases h; exact ⟨k, e, i, u, tk_map ht, tk_int hk, hi, hu, h1, rfl⟩
        · cases h
      · cases h
    · cases h
  · cases h

/-! ### Cells -/
theorem add_at (b o j : Nat) : (⟨b, o, none⟩ : Addr).add j = ⟨b, o + j, none⟩ := by unfold Addr.add; split <;> simp_all
theorem cell_at {w : World} {b o : Nat} {arr : Array Value} {e : TypeId} {fr : Nat × Nat} (h : w.heap[b]? = some (.cells arr e fr)) : w.cell? ⟨b, o, none⟩ = arr[o]? := by simp [World.cell?, h]
theorem run_loadVar_one {P : Program} {w : World} {t : TypeId} {ti : TI} {b o : Nat} {arr : Array Value} {e : TypeId} {fr : Nat × Nat} {v : Value} (ht : tinf P t = some ti) (hag : ti.ag = false)
    (hb : w.heap[b]? = some (.cells arr e fr)) (hv : arr[o]? = some v) : (loadVar t ⟨b, o, none⟩).run P w = .ok v w := by
  simp [loadVar, run_isAgg ht, hag, cell_at hb, hv]
theorem run_loadVar_agg {P : Program} {w : World} {t : TypeId} {ti : TI} {b o : Nat} {arr : Array Value} {e : TypeId} {fr : Nat × Nat} {cs : List Value} (ht : tinf P t = some ti) (hag : ti.ag = true)
    (hb : w.heap[b]? = some (.cells arr e fr)) (hl : cs.length = ti.sz) (hv : ∀ j v, cs[j]? = some v → arr[o + j]? = some v) : (loadVar t ⟨b, o, none⟩).run P w = .ok (.agg cs.toArray) w := by
  have := run_loadCells_list (P := P) w ⟨b, o, none⟩ cs (fun j v hj => by rw [add_at, cell_at hb]; exact hv j v hj)
  rw [hl] at this
  simp [loadVar, run_isAgg ht, hag, run_size ht, this]

/-! ### What a register's form tells of its value -/
section
variable {β : Nat → Value} {st : Nat → Prop} {w : World} {v : Value}
theorem RelR.inv_v {x : Value} (h : RelR β st w v (.a (.d (.v x)))) : v = x := by cases h with | a h => cases h; rfl
theorem RelR.inv_d {x : D} (h : RelR β st w v (.a (.d x))) : Rd st w v x := by cases h with | a h => exact h
theorem RelR.inv_own {o : Nat} (h : RelR β st w v (.own o)) : v = β o := by cases h with | own h _ => exact h.symm
theorem RelR.inv_ref {o off : Nat} (h : RelR β st w v (.ref o off)) : ∃ b, β o = .pointer (some ⟨b, 0, none⟩) ∧ v = .pointer (some ⟨b, off, none⟩) := by cases h with | ref h => exact ⟨_, h, rfl⟩
theorem RelR.inv_eref {o i sz j : Nat} (h : RelR β st w v (.eref o i sz j)) : ∃ b n c, β o = .slice (some ⟨b, 0, none⟩) n c ∧ v = .pointer (some ⟨b, i * sz + j, none⟩) := by cases h with | eref h => exact ⟨_, _, _, h, rfl⟩
theorem RelR.inv_cs {xs : List (List D)} (h : RelR β st w v (.cs xs)) : ∃ p n, v = .slice p n n ∧ Rd st w (.slice p n n) (.sl xs) := by cases h with | cs h => exact ⟨_, _, rfl, h⟩
theorem RelR.inv_tp {xs : List R} (h : RelR β st w v (.tp xs)) : ∃ vs : List Value, v = .tuple vs.toArray ∧ F2 (RelR β st w) vs xs := by
  cases h with | tp hl hd => exact ⟨_, rfl, hl, fun i a b x y => hd i a b x y⟩
theorem Rd.inv_pt {cs : List D} (h : Rd st w v (.pt cs)) : ∃ b off arr e fr, v = .pointer (some ⟨b, off, none⟩) ∧ st b ∧ w.heap[b]? = some (.cells arr e fr) ∧ ∀ j d, cs[j]? = some d → ∃ u, arr[off + j]? = some u ∧ Rd st w u d := by
  cases h with
  | pt hst hb hc hd => exact ⟨_, _, _, _, _, rfl, hst, hb, fun j d hj => ⟨_, hc j (List.getElem?_eq_some_iff.1 hj).1, hd j d hj⟩⟩
theorem Rd.mk_pt {b off : Nat} {arr : Array Value} {e : TypeId} {fr : Nat × Nat} {cs : List D} (hst : st b) (hb : w.heap[b]? = some (.cells arr e fr)) (h : ∀ j d, cs[j]? = some d → ∃ u, arr[off + j]? = some u ∧ Rd st w u d) :
    Rd st w (.pointer (some ⟨b, off, none⟩)) (.pt cs) :=
  .pt (vs := fun j => arr.getD (off + j) undef) hst hb
    (fun j hj => by
      obtain ⟨u, hu, _⟩ := h j _ (List.getElem?_eq_getElem hj)
      rw [Array.getD_eq_getD_getElem?, hu]; rfl)
    (fun j d hj => by
      obtain ⟨u, hu, hr⟩ := h j d hj
      rw [Array.getD_eq_getD_getElem?, hu]; exact hr)
theorem Rd.pt_drop {cs : List D} {b off : Nat} (h : Rd st w (.pointer (some ⟨b, off, none⟩)) (.pt cs)) (k : Nat) : Rd st w (.pointer (some ⟨b, off + k, none⟩)) (.pt (cs.drop k)) := by
  obtain ⟨b', off', arr, e, fr, he, hst, hb, hc⟩ := h.inv_pt
  cases he
  refine Rd.mk_pt hst hb fun j d hj => ?_
  rw [List.getElem?_drop] at hj
  rw [Nat.add_assoc]
  exact hc _ d hj
theorem Rd.inv_sl {xs : List (List D)} (h : Rd st w v (.sl xs)) : ((∃ p, v = .slice p 0 0) ∧ xs = []) ∨ ∃ b off n cap sz arr e fr, v = .slice (some ⟨b, off, none⟩) n cap ∧ n = xs.length ∧ n ≤ cap ∧ cap ≤ maxLen ∧ st b ∧ w.heap[b]? = some (.cells arr e fr) ∧ (∀ x ∈ xs, x.length = sz) ∧
    ∀ i x j d, xs[i]? = some x → x[j]? = some d → ∃ u, arr[off + i * sz + j]? = some u ∧ Rd st w u d := by
  cases h with
  | nil => exact .inl ⟨⟨_, rfl⟩, rfl⟩
  | sl hst hb hn hcap hm hlen hc hd =>
    refine .inr ⟨_, _, _, _, _, _, _, _, rfl, hn, hcap, hm, hst, hb, hlen, fun i x j d hx hj => ⟨_, hc i (List.getElem?_eq_some_iff.1 hx).1 j ?_, hd i x j d hx hj⟩⟩
    rw [← hlen x (List.mem_of_getElem? hx)]
    exact (List.getElem?_eq_some_iff.1 hj).1
theorem Rd.mk_sl {xs : List (List D)} {b off n cap sz : Nat} {arr : Array Value} {e : TypeId} {fr : Nat × Nat} (hn : n = xs.length) (hcap : n ≤ cap) (hm : cap ≤ maxLen) (hst : st b) (hb : w.heap[b]? = some (.cells arr e fr)) (hlen : ∀ x ∈ xs, x.length = sz)
    (h : ∀ i x j d, xs[i]? = some x → x[j]? = some d → ∃ u, arr[off + i * sz + j]? = some u ∧ Rd st w u d) : Rd st w (.slice (some ⟨b, off, none⟩) n cap) (.sl xs) :=
  .sl (vs := fun i j => arr.getD (off + i * sz + j) undef) hst hb hn hcap hm hlen
    (fun i hi j hj => by
      obtain ⟨u, hu, _⟩ := h i _ j _ (List.getElem?_eq_getElem hi) (List.getElem?_eq_getElem (by rw [hlen _ (List.getElem_mem hi)]; exact hj))
      rw [Array.getD_eq_getD_getElem?, hu]; rfl)
    (fun i x j d hx hj => by
      obtain ⟨u, hu, hr⟩ := h i x j d hx hj
      rw [Array.getD_eq_getD_getElem?, hu]; exact hr)
theorem Rd.sl_len {p : Option Addr} {n c : Nat} {xs : List (List D)} (h : Rd st w (.slice p n c) (.sl xs)) : n = xs.length := by
  rcases h.inv_sl with ⟨⟨_, e⟩, rfl⟩ | ⟨b, off, n', cap, sz, arr, e, fr, he, hn, _⟩
  · cases e; rfl
  · cases he; exact hn
/-- The cells of a row of one's own. -/
theorem RowIs.cells {e : TypeId} {sz n : Nat} {cells : List Value} (h : RowIs w e sz v n cells) : (cells = [] ∧ n = 0 ∧ ownB v = none ∧ ∃ p c, v = .slice p 0 c) ∨
    ∃ (g cap : Nat) (cur : Array Value), v = .slice (some ⟨g, 0, none⟩) n cap ∧ w.heap[g]? = some (.cells cur e (0, 0)) ∧ n ≤ cap ∧ cap ≤ maxLen ∧ 0 < cap ∧ cur.size = cap * sz ∧ cells.length = n * sz ∧ ∀ (k : Nat) (u : Value), cells[k]? = some u → cur[k]? = some u := by
  rcases h with h | ⟨rfl, rfl, p, rfl⟩
  · rcases h.2 with ⟨rfl, rfl⟩ | ⟨g, cap, cur, rfl, _, hg, hn, hm, hs, ht⟩
    · exact .inl ⟨List.eq_nil_of_length_eq_zero (by simpa using h.1), rfl, rfl, _, _, rfl⟩
    · cases cap with
      | zero =>
        obtain rfl : n = 0 := by omega
        exact .inl ⟨List.eq_nil_of_length_eq_zero (by simpa using h.1), rfl, rfl, _, _, rfl⟩
      | succ k =>
        refine .inr ⟨g, k + 1, cur, rfl, hg, hn, hm, by omega, hs, h.1, fun j u hj => ?_⟩
        rw [← ht, List.getElem?_take] at hj
        split at hj
        · simpa using hj
        · cases hj
  · exact .inl ⟨rfl, rfl, by cases p <;> rfl, _, _, rfl⟩
end

theorem flat_get {sz : Nat} : ∀ {xs : List (List D)} (h : ∀ x ∈ xs, x.length = sz) {i j : Nat} {x : List D} {d : D}, xs[i]? = some x → x[j]? = some d → xs.flatten[i * sz + j]? = some d
  | [], _, i, j, x, d, hx, _ => by simp at hx
  | y :: ys, h, 0, j, x, d, hx, hd => by
    simp at hx; subst hx
    have hj := (List.getElem?_eq_some_iff.1 hd).1
    simp only [List.flatten_cons, Nat.zero_mul, Nat.zero_add]
    rw [List.getElem?_append_left hj]; exact hd
  | y :: ys, h, i + 1, j, x, d, hx, hd => by
    have hy := h y (by simp)
    have e : (i + 1) * sz + j = y.length + (i * sz + j) := by rw [hy, Nat.add_mul]; omega
    simp only [List.flatten_cons]
    rw [e, List.getElem?_append_right (by omega), Nat.add_sub_cancel_left]
    exact flat_get (fun x hx => h x (by simp [hx])) (by simpa using hx) hd

/-! ### Quiet operations -/
section
variable {c : Cx} {σ : S} {β : Nat → Value} {a : Act} {w : World} {o : Oper} {K : R → Prop}

/-- What a quiet operation comes to. -/
abbrev QOut (c : Cx) (σ : S) (β : Nat → Value) (w : World) (K : R → Prop) : Value → World → Prop :=
  fun v w' => ∃ r, K r ∧ Keep (fun _ => False) w w' ∧ RelR β (stF c σ β w') w' v r
theorem q_same {v : Value} {r : R} (hd : ∀ c, o.op ≠ .defer c) (hr : (execOp a.eval o).run c.P w = .ok (.value v) w) (hk : K r) (hv : RelR β (stF c σ β w) w v r) : Run c.P o a w (QOut c σ β w K) :=
  Run.val hd hr ⟨r, hk, Keep.refl _ _, hv⟩

theorem allD_inv {rs : List R} {ds : List D} (h : allD rs = some ds) : rs = ds.map fun d => .a (.d d) := by
  induction rs generalizing ds with
  | nil => cases h; rfl
  | cons r rs ih =>
    unfold allD at h
    split at h
    · rename_i e; cases e
    · rename_i x rs' e
      cases e
      obtain ⟨ds', h1, rfl⟩ := Option.map_eq_some_iff.1 h
      rw [ih h1]; rfl
    · cases h

theorem load_run (h : Sim c σ β a w) {t : TypeId} {p : Operand} {r : R} (hl : loadR c.P σ t (σ.eval c.gl p) = some r) :
    ∃ v, (Instr.loadAt t (a.eval p)).run c.P w = .ok v w ∧ RelR β (stF c σ β w) w v r := by
  have hp := h.eval p
  unfold loadR at hl
  split at hl
  · cases hl
  · rename_i ti hti
    split at hl
    · rename_i o off hpe
      rw [hpe] at hp
      obtain ⟨b, hb, hv⟩ := hp.inv_ref
      split at hl
      · rename_i cs hm
        obtain ⟨b', arr, e, hb', hh, hf⟩ := h.obj o _ hm
        rw [hb] at hb'
        cases hb'
        split at hl
        · rename_i hag
          split at hl
          · rename_i hle
            obtain ⟨ds, h1, rfl⟩ := Option.map_eq_some_iff.1 hl
            have hds := allD_inv h1
            have hlen : ds.length = ti.sz := by
              have := congrArg List.length hds
              simp at this
              omega
            have hcell : ∀ j d, ds[j]? = some d → ∃ u, arr.toList[off + j]? = some u ∧ Rd (stF c σ β w) w u d := by
              intro j d hj
              have h2 : ((cs.drop off).take ti.sz)[j]? = some (.a (.d d)) := by rw [hds]; simp [hj]
              rw [List.getElem?_take, List.getElem?_drop] at h2
              split at h2
              · obtain ⟨u, hu, _, hr⟩ := hf.get h2
                exact ⟨u, hu, hr.inv_d⟩
              · cases h2
            refine ⟨.agg ((List.range ds.length).map fun j => arr.toList.getD (off + j) undef).toArray, ?_, .a ⟨_, rfl, by simp, fun i u d hu hd => ?_⟩⟩
            · rw [hv]
              simp only [Instr.loadAt, Instr.sureAddr, Sem.run_bind, Sem.run_pure, Result.andThen_ok]
              refine run_loadVar_agg hti hag hh (by simp [hlen]) fun j u hj => ?_
              simp only [List.getElem?_map, Option.map_eq_some_iff] at hj
              obtain ⟨j', hj', rfl⟩ := hj
              obtain ⟨hlt, rfl⟩ := List.getElem?_eq_some_iff.1 hj'
              simp only [List.length_range] at hlt
              obtain ⟨u, hu, _⟩ := hcell j _ (List.getElem?_eq_getElem hlt)
              simp only [List.getElem_range]
              rw [← Array.getElem?_toList, hu, List.getD_eq_getElem?_getD, hu]; rfl
            · simp only [List.getElem?_map, Option.map_eq_some_iff] at hu
              obtain ⟨j', hj', rfl⟩ := hu
              obtain ⟨hlt, rfl⟩ := List.getElem?_eq_some_iff.1 hj'
              simp only [List.getElem_range]
              obtain ⟨u, hu, hr⟩ := hcell i d hd
              rw [List.getD_eq_getElem?_getD, hu]
              exact hr
          · cases hl
        · rename_i hag
          obtain ⟨u, hu, _, hr⟩ := hf.get hl
          refine ⟨u, ?_, hr⟩
          rw [hv]
          simp only [Instr.loadAt, Instr.sureAddr, Sem.run_bind, Sem.run_pure, Result.andThen_ok]
          exact run_loadVar_one hti hag hh (by simpa using hu)
      · cases hl
    · rename_i cs hpe
      rw [hpe] at hp
      obtain ⟨b, off, arr, e, fr, hv, hst, hh, hc⟩ := hp.inv_d.inv_pt
      split at hl
      · rename_i hag
        split at hl
        · rename_i hle
          cases hl
          have hcell : ∀ j d, (cs.take ti.sz)[j]? = some d → ∃ u, arr.toList[off + j]? = some u ∧ Rd (stF c σ β w) w u d := by
            intro j d hj
            rw [List.getElem?_take] at hj
            split at hj
            · obtain ⟨u, hu, hr⟩ := hc j d hj
              exact ⟨u, by simpa using hu, hr⟩
            · cases hj
          refine ⟨.agg ((List.range ti.sz).map fun j => arr.toList.getD (off + j) undef).toArray, ?_, .a ⟨_, rfl, by simp; omega, fun i u d hu hd => ?_⟩⟩
          · rw [hv]
            simp only [Instr.loadAt, Instr.sureAddr, Sem.run_bind, Sem.run_pure, Result.andThen_ok]
            refine run_loadVar_agg hti hag hh (by simp) fun j u hj => ?_
            simp only [List.getElem?_map, Option.map_eq_some_iff] at hj
            obtain ⟨j', hj', rfl⟩ := hj
            obtain ⟨hlt, rfl⟩ := List.getElem?_eq_some_iff.1 hj'
            simp only [List.length_range] at hlt
            obtain ⟨u, hu, _⟩ := hcell j _ (List.getElem?_eq_getElem (by simp; omega))
            simp only [List.getElem_range]
            rw [← Array.getElem?_toList, hu, List.getD_eq_getElem?_getD, hu]; rfl
          · simp only [List.getElem?_map, Option.map_eq_some_iff] at hu
            obtain ⟨j', hj', rfl⟩ := hu
            obtain ⟨hlt, rfl⟩ := List.getElem?_eq_some_iff.1 hj'
            simp only [List.getElem_range]
            obtain ⟨u, hu, hr⟩ := hcell i d hd
            rw [List.getD_eq_getElem?_getD, hu]
            exact hr
        · cases hl
      · rename_i hag
        obtain ⟨d, hd, rfl⟩ := Option.map_eq_some_iff.1 hl
        obtain ⟨u, hu, hr⟩ := hc 0 d hd
        refine ⟨u, ?_, .a hr⟩
        rw [hv]
        simp only [Instr.loadAt, Instr.sureAddr, Sem.run_bind, Sem.run_pure, Result.andThen_ok]
        exact run_loadVar_one hti hag hh (by simpa using hu)
    · rename_i o i sz j hpe
      rw [hpe] at hp
      obtain ⟨b, n, cp, hb, hv⟩ := hp.inv_eref
      split at hl
      · rename_i e sz' xs hm
        split at hl
        · rename_i x hx
          split at hl
          · rename_i hxl
            obtain ⟨cells, hrow, hf, hlen⟩ := h.obj o _ hm
            obtain rfl : sz' = sz := by rw [← hlen x (List.mem_of_getElem? hx)]; exact hxl
            have hcell : ∀ j d, x[j]? = some d → ∃ u, cells[i * sz' + j]? = some u ∧ Rd (stF c σ β w) w u d := by
              intro j d hj
              refine hf.get ?_
              exact flat_get hlen hx hj
            have harr : ∃ arr, w.heap[b]? = some (.cells arr e (0, 0)) ∧ ∀ (k : Nat) (u : Value), cells[k]? = some u → arr[k]? = some u := by
              rcases hrow.cells with ⟨hce, hz, _, p, cp', he⟩ | ⟨g, cap, cur, he, hg, _, _, _, _, _, hk⟩
              · have := (List.getElem?_eq_some_iff.1 hx).1
                omega
              · rw [hb] at he
                cases he
                exact ⟨cur, hg, hk⟩
            obtain ⟨arr, hg, hk⟩ := harr
            split at hl
            · rename_i hag
              split at hl
              · rename_i hle
                cases hl
                have hcell' : ∀ k d, ((x.drop j).take ti.sz)[k]? = some d → ∃ u, arr.toList[i * sz' + j + k]? = some u ∧ Rd (stF c σ β w) w u d := by
                  intro k d hkd
                  rw [List.getElem?_take] at hkd
                  split at hkd
                  · rw [List.getElem?_drop] at hkd
                    obtain ⟨u, hu, hr⟩ := hcell _ d hkd
                    exact ⟨u, by rw [Nat.add_assoc]; simpa using hk _ u hu, hr⟩
                  · cases hkd
                refine ⟨.agg ((List.range ti.sz).map fun k => arr.toList.getD (i * sz' + j + k) undef).toArray, ?_, .a ⟨_, rfl, by simp; omega, fun k u d hu hd => ?_⟩⟩
                · rw [hv]
                  simp only [Instr.loadAt, Instr.sureAddr, Sem.run_bind, Sem.run_pure, Result.andThen_ok]
                  refine run_loadVar_agg hti hag hg (by simp) fun k u hj => ?_
                  simp only [List.getElem?_map, Option.map_eq_some_iff] at hj
                  obtain ⟨j', hj', rfl⟩ := hj
                  obtain ⟨hlt, rfl⟩ := List.getElem?_eq_some_iff.1 hj'
                  simp only [List.length_range] at hlt
                  obtain ⟨u, hu, _⟩ := hcell' k _ (List.getElem?_eq_getElem (by simp; omega))
                  simp only [List.getElem_range]
                  rw [← Array.getElem?_toList, hu, List.getD_eq_getElem?_getD, hu]; rfl
                · simp only [List.getElem?_map, Option.map_eq_some_iff] at hu
                  obtain ⟨j', hj', rfl⟩ := hu
                  obtain ⟨hlt, rfl⟩ := List.getElem?_eq_some_iff.1 hj'
                  simp only [List.getElem_range]
                  obtain ⟨u, hu, hr⟩ := hcell' k d hd
                  rw [List.getD_eq_getElem?_getD, hu]
                  exact hr
              · cases hl
            · rename_i hag
              obtain ⟨d, hd, rfl⟩ := Option.map_eq_some_iff.1 hl
              obtain ⟨u, hu, hr⟩ := hcell j d hd
              refine ⟨u, ?_, .a hr⟩
              rw [hv]
              simp only [Instr.loadAt, Instr.sureAddr, Sem.run_bind, Sem.run_pure, Result.andThen_ok]
              exact run_loadVar_one hti hag hg (hk _ u hu)
          · cases hl
        · cases hl
      · cases hl
    · cases hl

theorem run_binOp {P : Program} {w : World} {op : BinOp} {t : TypeId} {x y : Operand} {u v : Value} {p : Prop} {r : Value} (h : binR op u v = some (p, r)) (hp : p) :
    (do eqGuard op t x y u v; binOp op t u v : Sem Value).run P w = .ok r w := by
  unfold binR at h
  split at h
  · rename_i k a k' b
    have hg : ∀ op, (eqGuard op t x y (.int k a) (.int k' b)).run P w = .ok () w := by intro op; cases op <;> rfl
    simp only [Sem.run_bind, hg, Result.andThen_ok]
    cases op <;> simp only [Option.some.injEq, Prod.mk.injEq] at h <;> obtain ⟨rfl, rfl⟩ := h <;>
      first
        | (subst hp; simp [binOp, Op.intArith, Op.intCmp, Op.intBits])
        | (obtain ⟨rfl, hb⟩ := hp; simp [binOp, Op.intDiv, hb])
        | (have hn : ¬ b < 0 := by omega
           simp [binOp, Op.shift, hn])
  · rename_i a b
    have hg : ∀ op, (eqGuard op t x y (.string a) (.string b)).run P w = .ok () w := by intro op; cases op <;> rfl
    simp only [Sem.run_bind, hg, Result.andThen_ok]
    cases op <;> simp only [Option.some.injEq, Prod.mk.injEq, reduceCtorEq] at h <;> obtain ⟨rfl, rfl⟩ := h <;> simp [binOp, Op.stringOp]
  · cases h

theorem bnd_run (h : Sim c σ β a w) {d : Nat} {x : Option Operand} {n : Int} (hb : bnd σ c.gl d x = some n) :
    (x = none ∧ n = d) ∨ ∃ y k, x = some y ∧ a.eval y = .int k n := by
  cases x with
  | none => exact .inl ⟨rfl, by cases hb; rfl⟩
  | some y =>
    right
    simp only [bnd] at hb
    split at hb
    · rename_i k m he
      cases hb
      have := h.eval y
      rw [he] at this
      exact ⟨y, k, rfl, this.inv_v⟩
    · cases hb

theorem sliceBound_run {P : Program} {w : World} {k : IntKind} {n : Int} {y : Nat} {cd : BoundsCode} (h0 : 0 ≤ n) (h1 : n ≤ y) : (Instr.sliceBound (.int k n) y cd).run P w = .ok n.toNat w := by
  simp only [Instr.sliceBound, asIntOf, Sem.run_bind, Sem.run_pure, Result.andThen_ok]
  rw [if_pos ⟨h0, h1⟩]; rfl
theorem sliceBounds_run {P : Program} {w : World} {len cap m : Nat} {lo hi : Int} {vl vh vm : Option Value} (h0 : 0 ≤ lo) (h1 : lo ≤ hi) (h2 : hi ≤ len) (hc : len ≤ cap)
    (hl : (vl = none ∧ lo = 0) ∨ ∃ k, vl = some (.int k lo)) (hh : (vh = none ∧ hi = len) ∨ ∃ k, vh = some (.int k hi))
    (hm : (vm = none ∧ m = cap) ∨ ∃ k, vm = some (.int k hi) ∧ m = hi.toNat ∧ vh ≠ none) :
    (Instr.sliceBounds true len cap vl vh vm).run P w = .ok (lo.toNat, hi.toNat, m) w := by
  have b1 : ∀ (k : IntKind) (cd : BoundsCode) (y : Nat), hi ≤ y → (Instr.sliceBound (.int k hi) y cd).run P w = .ok hi.toNat w := fun k cd y hy => sliceBound_run (by omega) hy
  have b2 : ∀ (k : IntKind) (cd : BoundsCode), (Instr.sliceBound (.int k lo) hi.toNat cd).run P w = .ok lo.toNat w := fun k cd => sliceBound_run h0 (by omega)
  have e1 : hi ≤ (cap : Int) := by omega
  have e2 : hi ≤ ((hi.toNat : Nat) : Int) := by omega
  rcases hm with ⟨rfl, rfl⟩ | ⟨k2, rfl, rfl, hne⟩
  · rcases hh with ⟨rfl, rfl⟩ | ⟨k1, rfl⟩
    · rcases hl with ⟨rfl, rfl⟩ | ⟨k, rfl⟩
      · simp [Instr.sliceBounds]
      · have b3 := b2 k .sliceB
        simp only [Int.toNat_natCast] at b3
        simp [Instr.sliceBounds, b3]
    · rcases hl with ⟨rfl, rfl⟩ | ⟨k, rfl⟩
      · simp [Instr.sliceBounds, b1 _ _ _ e1]
      · simp [Instr.sliceBounds, b1 _ _ _ e1, b2]
  · rcases hh with ⟨rfl, rfl⟩ | ⟨k1, rfl⟩
    · exact absurd rfl hne
    · rcases hl with ⟨rfl, rfl⟩ | ⟨k, rfl⟩
      · simp [Instr.sliceBounds, b1 _ _ _ e1, b1 _ _ _ e2]
      · simp [Instr.sliceBounds, b1 _ _ _ e1, b1 _ _ _ e2, b2]

theorem slice_run (h : Sim c σ β a w) {st : Nat → Prop} {t e : TypeId} {ti : TI} {v : Value} {xs : List (List D)} {l hi mx : Option Operand} {K : R → Prop} (ht : tk c.P t = .slice e) (hti : tinf c.P e = some ti)
    (hv : Rd st w v (.sl xs)) (hk : sliceK xs ti.sz (bnd σ c.gl 0 l) (bnd σ c.gl xs.length hi) (mx.map fun y => bnd σ c.gl 0 (some y)) K) (hne : mx.isSome = true → hi.isSome = true) :
    ∃ u r, K r ∧ (Instr.sliceAt t v (l.map a.eval) (hi.map a.eval) (mx.map a.eval)).run c.P w = .ok u w ∧ (∀ β, RelR β st w u r) := by
  unfold sliceK at hk
  split at hk
  · rename_i lo h' hl hh
    obtain ⟨h0, h1, h2, hsz, hk⟩ := hk
    have hshape : ∃ (p : Option Addr) (cap : Nat), v = .slice p xs.length cap ∧ xs.length ≤ cap ∧ cap ≤ maxLen := by
      rcases hv.inv_sl with ⟨⟨p, rfl⟩, rfl⟩ | ⟨b, off, n, cap, sz, arr, e', fr, rfl, rfl, hc, hm, _⟩
      · exact ⟨p, 0, rfl, Nat.le_refl _, Nat.zero_le _⟩
      · exact ⟨_, cap, rfl, hc, hm⟩
    obtain ⟨p, cap, rfl, hcap, hmax⟩ := hshape
    have hlen : h'.toNat ≤ xs.length := by omega
    have res : ∀ (m : Nat), (m = cap ∨ m = h'.toNat) → Rd st w (.slice (if m = lo.toNat then p else p.map (·.add (lo.toNat * ti.sz))) (h'.toNat - lo.toNat) (m - lo.toNat)) (.sl ((xs.take h'.toNat).drop lo.toNat)) := by
      intro m hm
      have hml : ((xs.take h'.toNat).drop lo.toNat).length = h'.toNat - lo.toNat := by simp; omega
      rcases hv.inv_sl with ⟨⟨p', e1⟩, rfl⟩ | ⟨b, off, n, cap', sz, arr, e', fr, e1, hn, hc, _, hst, hb, hlen', hcell⟩
      · cases e1
        have e3 : h'.toNat = 0 := by simpa using hlen
        have e4 : lo.toNat = 0 := by omega
        have e5 : m = 0 := by omega
        rw [e3, e4, e5]
        exact .nil
      · cases e1
        have key : ∀ (o' : Nat), (h'.toNat ≤ lo.toNat ∨ o' = off + lo.toNat * sz) → Rd st w (.slice (some ⟨b, o', none⟩) (h'.toNat - lo.toNat) (m - lo.toNat)) (.sl ((xs.take h'.toNat).drop lo.toNat)) := by
          intro o' ho'
          refine Rd.mk_sl (by rw [hml]) (by omega) (by omega) hst hb (sz := sz) (fun x hx => hlen' x (List.mem_of_mem_take (List.mem_of_mem_drop hx))) fun i x j d hx hj => ?_
          rw [List.getElem?_drop, List.getElem?_take] at hx
          split at hx
          · rename_i hlt
            rcases ho' with ho' | rfl
            · omega
            · obtain ⟨u, hu, hr⟩ := hcell _ x j d hx hj
              refine ⟨u, ?_, hr⟩
              rw [Nat.add_mul] at hu
              rw [← hu]; congr 1; omega
          · cases hx
        have hszs : xs = [] ∨ sz = ti.sz := by
          cases xs with
          | nil => exact .inl rfl
          | cons x _ => exact .inr ((hlen' x (by simp)).symm.trans (hsz x (by simp)))
        split
        · exact key off (by omega)
        · simp only [Option.map_some, add_at]
          refine key _ ?_
          rcases hszs with rfl | rfl
          · left; simp at hlen; omega
          · right; rfl
    have fin : ∀ (m : Nat), (Instr.sliceBounds true xs.length cap (l.map a.eval) (hi.map a.eval) (mx.map a.eval)).run c.P w = .ok (lo.toNat, h'.toNat, m) w →
        (Instr.sliceAt t (.slice p xs.length cap) (l.map a.eval) (hi.map a.eval) (mx.map a.eval)).run c.P w = .ok (.slice (if m = lo.toNat then p else p.map (·.add (lo.toNat * ti.sz))) (h'.toNat - lo.toNat) (m - lo.toNat)) w := by
      intro m hb
      simp only [Instr.sliceAt, Sem.run_bind, run_under (tk_slice ht), Result.andThen_ok, Instr.slice, hb, run_size hti, Sem.run_pure]
    have hl' : (l.map a.eval = none ∧ lo = 0) ∨ ∃ k, l.map a.eval = some (.int k lo) := by
      rcases bnd_run h (d := 0) hl with ⟨rfl, rfl⟩ | ⟨y, k, rfl, hy⟩
      · exact .inl ⟨rfl, rfl⟩
      · exact .inr ⟨k, by simp [hy]⟩
    have hh' : (hi.map a.eval = none ∧ h' = xs.length) ∨ ∃ k, hi.map a.eval = some (.int k h') := by
      rcases bnd_run h (d := xs.length) hh with ⟨rfl, rfl⟩ | ⟨y, k, rfl, hy⟩
      · exact .inl ⟨rfl, rfl⟩
      · exact .inr ⟨k, by simp [hy]⟩
    split at hk
    · rename_i hm
      have hmx : mx = none := by cases mx <;> simp at hm ⊢
      subst hmx
      exact ⟨_, _, hk, fin cap (sliceBounds_run h0 h1 h2 hcap hl' hh' (.inl ⟨rfl, rfl⟩)), fun β => .a (res cap (.inl rfl))⟩
    · rename_i m hm
      obtain ⟨rfl, hk⟩ := hk
      obtain ⟨y, rfl, hy⟩ : ∃ y, mx = some y ∧ bnd σ c.gl 0 (some y) = some m := by
        cases mx with
        | none => cases hm
        | some y => exact ⟨y, rfl, by simpa using hm⟩
      obtain ⟨y', k, e1, hyv⟩ := (bnd_run h (d := 0) hy).resolve_left (fun hc => by cases hc.1)
      cases e1
      refine ⟨_, _, hk, fin m.toNat (sliceBounds_run h0 h1 h2 hcap hl' hh' (.inr ⟨k, by simp [hyv], rfl, ?_⟩)), fun β => .cs (res m.toNat (.inr rfl))⟩
      have := hne rfl
      cases hi <;> simp at this ⊢
    · exact hk.elim
  · exact hk.elim
end
end Go.VC
