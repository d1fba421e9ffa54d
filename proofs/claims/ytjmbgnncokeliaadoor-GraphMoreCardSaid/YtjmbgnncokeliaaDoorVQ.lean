/- Operations that make or turn objects: variables, stores, rows that are appended to. -/
import Derived.Test.YtjmbgnncokeliaaDoorVP
set_option linter.unusedVariables false
set_option linter.unusedSimpArgs false
namespace Go.VC
open Go.RowKit

theorem cells_one {v : Value} (h : v.oneCell' = true) : v.cells = #[v] := by cases v <;> first | rfl | cases h
theorem set_splice {α : Type} : ∀ (l : List α) (n : Nat) (a : α), n < l.length → l.set n a = l.take n ++ [a] ++ l.drop (n + 1)
  | [], _, _, h => by simp at h
  | x :: l, 0, a, _ => by simp
  | x :: l, n + 1, a, h => by simp [set_splice l n a (by simpa using h)]

section
variable {c : Cx} {σ : S} {β : Nat → Value} {a : Act} {w : World} {o : Oper} {K : S → Prop}

theorem a_quiet (h : Sim c σ β a w) (hd : ∀ d, o.dst = some d → d < c.N) (hr : Run c.P o a w (QOut c σ β w fun r => K (σ.put o.dst r))) : Run c.P o a w (AOut c a o K) :=
  hr.mono fun v w' ⟨r, hk, hkeep, hrel⟩ => ⟨_, _, hk, (h.grow hkeep).1.put hd hrel⟩

theorem cellsR_rel {st : Nat → Prop} {v : Value} {r : R} {cs : List R} (hv : RelR β st w v r) (hc : cellsR r = some cs) : F2 (fun u x => u.oneCell' = true ∧ RelR β st w u x) v.cells.toList cs := by
  have single : ∀ {r : R}, RelR β st w v r → v.oneCell' = true → F2 (fun u x => u.oneCell' = true ∧ RelR β st w u x) v.cells.toList [r] := by
    intro r hv h1
    rw [cells_one h1]
    exact F2.cons ⟨h1, hv⟩ F2.nil
  unfold cellsR at hc
  split at hc
  · cases hc
    cases hv with | a h =>
      obtain ⟨l, rfl, hf⟩ := h
      exact ⟨by simp [Value.cells, hf.1], fun i u x hu hx => by
        simp only [List.getElem?_map, Option.map_eq_some_iff] at hx
        obtain ⟨d, hd, rfl⟩ := hx
        have := hf.2 i u d (by simpa [Value.cells] using hu) hd
        exact ⟨this.one, .a this⟩⟩
  · cases hc; exact single hv hv.inv_d.one
  · cases hc
    obtain ⟨p, n, rfl, hr⟩ := hv.inv_cs
    exact single (.a hr) rfl
  · cases hc; obtain ⟨b, _, rfl⟩ := hv.inv_ref; exact single hv rfl
  · cases hc; obtain ⟨b, n, cp, _, rfl⟩ := hv.inv_eref; exact single hv rfl
  · cases hc; cases hv with | own h h1 => exact single (.own h h1) h1
  · cases hc; cases hv with | omp h h1 => exact single (.omp h h1) h1
  · cases hc; cases hv with | clo h => exact single (.clo h) rfl
  · cases hc
    cases hv with
    | agr hl h1 hd => exact ⟨by simpa [Value.cells] using hl, fun i u x hu hx => ⟨h1 u (List.mem_of_getElem? (by simpa [Value.cells] using hu)), hd i u x (by simpa [Value.cells] using hu) hx⟩⟩
  all_goals cases hc

/-- A new block of cells. -/
theorem Sim.newBox (h : Sim c σ β a w) {d : Nat} {e : TypeId} {vals : Array Value} {cs : List R} (hf : F2 (fun u x => u.oneCell' = true ∧ RelR β (stF c σ β w) w u x) vals.toList cs) :
    Sim c (σ.newOb d (.box (cs.map (R.kill d)))) (upd β d (.pointer (some ⟨w.heap.size, 0, none⟩))) a (w.alloc (.cells vals e)) := by
  have hn : ∀ b, ownB (.pointer (some ⟨w.heap.size, 0, none⟩)) = some b → w.heap.size ≤ b ∨ ∃ y, σ.mem d = some y ∧ ownB (β d) = some b := fun b hb => by cases hb; exact .inl (Nat.le_refl _)
  refine h.new (Keep.alloc _ _ _) hn ⟨_, vals, e, rfl, heap_alloc_new _ _, by simp [hf.1], fun i u x hu hx => ?_⟩
  simp only [List.getElem?_map, Option.map_eq_some_iff] at hx
  obtain ⟨r, hr, rfl⟩ := hx
  obtain ⟨h1, h2⟩ := hf.2 i u r hu hr
  refine ⟨h1, (h2.mono fun b hb => ⟨st_new (by simp) (fun b hb => heap_alloc_old _ _ _ hb.1) hn hb, heap_alloc_old _ _ _ hb.1⟩).turn fun o' e => by simp [upd, e]⟩

theorem a_alloc {t : TypeId} (h : Sim c σ β a w) (ho : o.op = .alloc t) (hd : ∀ d, o.dst = some d → d < c.N) (hq : opA0 c.P c.gl o σ K) : Run c.P o a w (AOut c a o K) := by
  have hdf : ∀ c : Call, o.op ≠ .defer c := fun _ e => by rw [ho] at e; cases e
  simp only [opA0, ho] at hq
  split at hq
  · rename_i ti d hti hdst
    obtain ⟨hz, hk⟩ := hq
    obtain ⟨z, hz1, hz2⟩ := run_zero (w := w) hti
    have hs := h.newBox (d := d) (e := t) (vals := z.cells) (cs := ti.z.map fun v => .a (.d (cellD v))) ⟨by simp [hz2], fun i u x hu hx => by
      simp only [List.getElem?_map, Option.map_eq_some_iff] at hx
      obtain ⟨u', hu', rfl⟩ := hx
      rw [hz2, hu] at hu'; cases hu'
      have h1 := List.all_eq_true.1 hz u (by rw [hz2]; exact List.mem_of_getElem? hu)
      exact ⟨h1, .a (cellD_rd h1)⟩⟩
    have e1 : (ti.z.map fun v => R.a (.d (cellD v))).map (R.kill d) = ti.z.map fun v => .a (.d (cellD v)) := by
      rw [List.map_map]; exact List.map_congr_left fun v _ => by simp [R.kill, R.says, R.says0]
    rw [e1] at hs
    refine Run.val (v := .pointer (some ⟨w.heap.size, 0, none⟩)) (w' := w.alloc (.cells z.cells t)) hdf ?_ ⟨_, upd β d (.pointer (some ⟨w.heap.size, 0, none⟩)), hk, ?_⟩
    · simp [execOp, ho, Instr.alloc, hz1, newVar, newRow]
    · rw [hdst]
      exact hs.put (fun d' e => hd d' (hdst.trans e)) (.ref (by simp [upd]))
  · exact hq.elim

theorem a_box {t : TypeId} {x : Operand} (h : Sim c σ β a w) (ho : o.op = .box t x) (hd : ∀ d, o.dst = some d → d < c.N) (hq : opA0 c.P c.gl o σ K) : Run c.P o a w (AOut c a o K) := by
  have hdf : ∀ c : Call, o.op ≠ .defer c := fun _ e => by rw [ho] at e; cases e
  simp only [opA0, ho] at hq
  split at hq
  · rename_i cs d hcs hdst
    have hs := h.newBox (d := d) (e := t) (cellsR_rel (h.eval x) hcs)
    refine Run.val (v := .pointer (some ⟨w.heap.size, 0, none⟩)) (w' := w.alloc (.cells (a.eval x).cells t)) hdf ?_ ⟨_, upd β d (.pointer (some ⟨w.heap.size, 0, none⟩)), hq, ?_⟩
    · simp [execOp, ho, Instr.box, newVar, newRow]
    · rw [hdst]
      exact hs.put (fun d' e => hd d' (hdst.trans e)) (.ref (by simp [upd]))
  · exact hq.elim

theorem run_storeVar {P : Program} {t : TypeId} {ti : TI} {b off : Nat} {arr : Array Value} {e : TypeId} {v : Value} (hti : tinf P t = some ti) (hl : v.cells.toList.length = ti.sz) (hb : w.heap[b]? = some (.cells arr e (0, 0)))
    (hle : off + v.cells.toList.length ≤ arr.size) (h1 : ∀ u ∈ v.cells.toList, u.oneCell' = true) :
    (Instr.storeAt t (.pointer (some ⟨b, off, none⟩)) v).run P w = .ok () (w.setRow b (arr.toList.take off ++ v.cells.toList ++ arr.toList.drop (off + v.cells.toList.length)).toArray) := by
  have := run_storeCells_at P b off e v.cells.toList 0 arr w hb (by simpa using hle) h1
  simp only [Nat.add_zero] at this
  have e1 : ¬ (v.cells.size ≠ ti.sz) := by simpa using hl
  simp only [Instr.storeAt, Instr.sureAddr, Sem.run_bind, Sem.run_pure, Result.andThen_ok, storeVar, run_size hti]
  rw [if_neg e1]
  exact this
theorem setRow_keep {b : Nat} {arr : Array Value} {X : Nat → Prop} (hX : X b) : Keep X w (w.setRow b arr) :=
  ⟨rfl, rfl, rfl, by simp [World.setRow], fun k hk hx => setRow_other w b k arr fun e => hx (e ▸ hX)⟩

theorem flat_splice {sz : Nat} : ∀ (xs : List (List D)) (i j : Nat) (x ds : List D), (∀ x ∈ xs, x.length = sz) → xs[i]? = some x → j + ds.length ≤ sz →
    (xs.set i (x.take j ++ ds ++ x.drop (j + ds.length))).flatten = xs.flatten.take (i * sz + j) ++ ds ++ xs.flatten.drop (i * sz + j + ds.length)
  | [], i, j, x, ds, _, hx, _ => by simp at hx
  | y :: ys, 0, j, x, ds, h, hx, hj => by
    simp at hx; subst hx
    have hy := h y (by simp)
    simp only [List.set_cons_zero, List.flatten_cons, Nat.zero_mul, Nat.zero_add]
    rw [List.take_append_of_le_length (by omega), List.drop_append_of_le_length (by omega)]
    simp
  | y :: ys, i + 1, j, x, ds, h, hx, hj => by
    have hy := h y (by simp)
    have ih := flat_splice ys i j x ds (fun x hx => h x (by simp [hx])) (by simpa using hx) hj
    have e1 : (i + 1) * sz + j = y.length + (i * sz + j) := by rw [hy, Nat.add_mul]; omega
    simp only [List.set_cons_succ, List.flatten_cons, ih, e1]
    rw [List.take_length_add_append, Nat.add_assoc, Nat.add_assoc, List.drop_length_add_append]
    simp [Nat.add_assoc]

theorem st_setOb {ob b : Nat} {x0 x : Ob} {arr : Array Value} (hm : σ.mem ob = some x0) (hb : ownB (β ob) = some b) (k : Nat) (hk : stF c σ β w k) :
    stF c (σ.setOb ob x) β (w.setRow b arr) k ∧ (w.setRow b arr).heap[k]? = w.heap[k]? := by
  have hs : (w.setRow b arr).heap[k]? = w.heap[k]? := setRow_other _ _ _ _ fun e => hk.2.2.1 ob _ hm (by rw [hb, e])
  refine ⟨⟨by simpa [World.setRow] using hk.1, hk.2.1, fun o' z hz => ?_, hk.2.2.2.same hs⟩, hs⟩
  by_cases eo : o' = ob
  · subst eo; exact hk.2.2.1 o' _ hm
  · simp only [S.setOb, upd, if_neg eo] at hz; exact hk.2.2.1 o' z hz
theorem take_splice {α : Type} (cur vs : List α) (p n : Nat) (hp : p + vs.length ≤ n) (hn : n ≤ cur.length) :
    (cur.take p ++ vs ++ cur.drop (p + vs.length)).take n = (cur.take n).take p ++ vs ++ (cur.take n).drop (p + vs.length) := by
  have h1 : (cur.take n).take p = cur.take p := by rw [List.take_take]; congr 1; omega
  have hl : (cur.take p ++ vs).length = p + vs.length := by simp; omega
  rw [h1, List.take_append, hl, List.take_of_length_le (by rw [hl]; exact hp), List.drop_take]
theorem a_store {t : TypeId} {p x : Operand} (h : Sim c σ β a w) (ho : o.op = .store t p x) (hd : ∀ d, o.dst = some d → d < c.N) (hq : opA0 c.P c.gl o σ K) : Run c.P o a w (AOut c a o K) := by
  have hdf : ∀ c : Call, o.op ≠ .defer c := fun _ e => by rw [ho] at e; cases e
  simp only [opA0, ho] at hq
  split at hq
  · rename_i σ' hst
    have hp := h.eval p
    have hx := h.eval x
    unfold storeR at hst
    split at hst
    · rename_i ti new hti hnew
      have hcells := cellsR_rel hx hnew
      split at hst
      · rename_i hsz
        have hvl : (a.eval x).cells.toList.length = ti.sz := by rw [hcells.1]; exact hsz
        have hv1 : ∀ u ∈ (a.eval x).cells.toList, u.oneCell' = true := fun u hu => by
          obtain ⟨i, hi⟩ := List.mem_iff_getElem?.1 hu
          have hi' := (List.getElem?_eq_some_iff.1 hi).1
          exact (hcells.2 i u _ hi (List.getElem?_eq_getElem (by rw [← hcells.1]; exact hi'))).1
        split at hst
        · rename_i ob off hpe
          rw [hpe] at hp
          obtain ⟨b, hb, hpv⟩ := hp.inv_ref
          split at hst
          · rename_i cs hm
            obtain ⟨b', arr, e, hb', hh, hf⟩ := h.obj ob _ hm
            rw [hb] at hb'; cases hb'
            split at hst
            · rename_i hle
              have hlarr : arr.size = cs.length := by simpa using hf.1
              have key : ∀ cs', cs' = cs.take off ++ new ++ cs.drop (off + new.length) → K ((σ.setOb ob (.box cs')).put o.dst .any) → Run c.P o a w (AOut c a o K) := by
                intro cs' hcs' hk
                refine Run.skip (w' := w.setRow b (arr.toList.take off ++ (a.eval x).cells.toList ++ arr.toList.drop (off + (a.eval x).cells.toList.length)).toArray) hdf ?_ ⟨_, β, hk, ?_⟩
                · simp only [execOp, ho, hpv, Sem.run_bind, run_storeVar hti hvl hh (by rw [hcells.1, hlarr]; exact hle) hv1, Result.andThen_ok, Sem.run_pure]
                · refine (h.setOb hm (setRow_keep (by rw [hb]; rfl)) ?_).put hd .any
                  rw [hb]
                  refine ⟨b, _, e, rfl, setRow_heap _ _ _ _ _ _ hh, ?_⟩
                  subst hcs'
                  have hcl := hcells.1
                  have ff := ((hf.take off).append hcells).append (hf.drop (off + new.length))
                  simp only [hcl] at *
                  exact F2.mono ff fun u r hr => ⟨hr.1, hr.2.mono (st_setOb hm (by rw [hb]; rfl))⟩
              cases hst
              refine key _ ?_ hq
              split
              · rename_i r; exact set_splice cs off r (by simp at hle; omega)
              · rfl
            · cases hst
          · cases hst
        · rename_i ob i sz j hpe
          rw [hpe] at hp
          obtain ⟨b, n, cp, hb, hpv⟩ := hp.inv_eref
          split at hst
          · rename_i e z xs hm
            split at hst
            · rename_i y ds hy hds
              split at hst
              · rename_i hle
                obtain ⟨cells, hrow, hf, hall⟩ := h.obj ob _ hm
                obtain rfl : z = sz := by rw [← hall y (List.mem_of_getElem? hy)]; exact hle.1
                have hnew' := allD_inv hds
                have hdl : ds.length = new.length := by rw [hnew']; simp
                have hcD : F2 (Rd (stF c σ β w) w) (a.eval x).cells.toList ds := ⟨by rw [hcells.1, hdl], fun k u d hu hd' => (hcells.2 k u (.a (.d d)) hu (by rw [hnew']; simp [hd'])).2.inv_d⟩
                have key : ∀ y', y' = y.take j ++ ds ++ y.drop (j + ds.length) → K ((σ.setOb ob (.log e z (xs.set i y'))).put o.dst .any) → Run c.P o a w (AOut c a o K) := by
                  intro y' hy' hk
                  rcases hrow with hrow | ⟨h0, _⟩
                  · rcases hrow.2 with ⟨_, h0⟩ | ⟨g, cap, cur, hv, _, hg, hn, hm', hs, ht⟩
                    · have := (List.getElem?_eq_some_iff.1 hy).1; omega
                    · have hil := (List.getElem?_eq_some_iff.1 hy).1
                      rw [hb] at hv
                      have hvi := hv
                      simp only [Value.slice.injEq, Option.some.injEq, Addr.mk.injEq] at hvi
                      obtain ⟨⟨rfl, _, _⟩, rfl, rfl⟩ := hvi
                      have hxl : (xs.length) * z ≤ cp * z := Nat.mul_le_mul_right _ hn
                      have hix : (i + 1) * z ≤ xs.length * z := Nat.mul_le_mul_right _ hil
                      rw [Nat.add_mul, Nat.one_mul] at hix
                      have hpos : i * z + j + (a.eval x).cells.toList.length ≤ xs.length * z := by rw [hcD.1]; omega
                      obtain ⟨vs, hvs⟩ : ∃ vs, vs = (a.eval x).cells.toList := ⟨_, rfl⟩
                      have hrun := run_storeVar (w := w) (off := i * z + j) hti hvl hg (by rw [hs]; omega) hv1
                      rw [← hvs] at hrun hpos hcD
                      have hown : ownB (β ob) = some b := by rw [hb]; cases cp with | zero => omega | succ k => rfl
                      have hcl := hrow.1
                      refine Run.skip (w' := w.setRow b (cur.toList.take (i * z + j) ++ vs ++ cur.toList.drop (i * z + j + vs.length)).toArray) hdf ?_ ⟨_, β, hk, ?_⟩
                      · simp only [execOp, ho, hpv, Sem.run_bind, hrun, Result.andThen_ok, Sem.run_pure]
                      · refine (h.setOb hm (setRow_keep hown) ?_).put hd .any
                        have hclen : cur.toList.length = cp * z := by simpa using hs
                        refine ⟨cells.take (i * z + j) ++ vs ++ cells.drop (i * z + j + vs.length), .inl ⟨?_, .inr ⟨b, cp, _, by rw [hb]; simp, Nat.zero_le _, setRow_heap _ _ _ _ _ _ hg, by simpa using hn, hm', ?_, ?_⟩⟩, ?_, ?_⟩
                        · simp only [List.length_append, List.length_take, List.length_drop, List.length_set, hcl]; omega
                        · simp only [List.size_toArray, List.length_append, List.length_take, List.length_drop, hclen]; omega
                        · simp only [List.length_set]
                          rw [take_splice cur.toList vs _ _ hpos (by rw [hclen]; exact hxl), ht]
                        · subst hy'
                          rw [flat_splice xs i j y ds hall hy (by rw [← hle.1]; exact hle.2)]
                          have ff := ((hf.take (i * z + j)).append hcD).append (hf.drop (i * z + j + ds.length))
                          rw [hcD.1]
                          exact F2.mono ff fun u r hr => hr.mono (st_setOb hm hown)
                        · intro x' hx'
                          subst hy'
                          rcases List.mem_or_eq_of_mem_set hx' with h1 | rfl
                          · exact hall x' h1
                          · have h1 := hle.1
                            have h2 := hle.2
                            simp only [List.length_append, List.length_take, List.length_drop]; omega
                  · have := (List.getElem?_eq_some_iff.1 hy).1; omega
                cases hst
                refine key _ ?_ hq
                split
                · rename_i d
                  refine set_splice y j d ?_
                  have := hle.2
                  simp at this; omega
                · rfl
              · cases hst
            · cases hst
          · cases hst
        · cases hst
      · cases hst
    · cases hst
  · exact hq.elim
end
end Go.VC
