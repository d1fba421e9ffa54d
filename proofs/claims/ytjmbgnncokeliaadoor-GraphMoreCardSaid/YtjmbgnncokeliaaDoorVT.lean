/- Values that are built, functions that capture, calls; then every operation. -/
import Derived.Test.YtjmbgnncokeliaaDoorVR
import Derived.Maps.RangeRun
set_option linter.unusedVariables false
set_option linter.unusedSimpArgs false
namespace Go.VC
open Go.RowKit

section
variable {c : Cx} {σ : S} {β : Nat → Value} {a : Act} {w : World} {o : Oper} {K : S → Prop}

theorem fold_splice (off : Nat) : ∀ (l : List Value) (k : Nat) (cells : Array Value), off + k + l.length ≤ cells.size →
    ((l.zipIdx k).foldl (fun (cs : Array Value) (x : Value × Nat) => cs.setIfInBounds (off + x.2) x.1) cells).toList = cells.toList.take (off + k) ++ l ++ cells.toList.drop (off + k + l.length)
  | [], k, cells, _ => by simp
  | v :: l, k, cells, h => by
    simp only [List.zipIdx_cons, List.foldl_cons]
    have ih := fold_splice off l (k + 1) (cells.setIfInBounds (off + k) v) (by simp at h ⊢; omega)
    rw [ih, Array.toList_setIfInBounds, ← Nat.add_assoc, list_seg_step cells.toList (off + k) v l (by simp at h ⊢; omega)]
    simp [Nat.add_assoc, Nat.add_comm 1]
theorem A.cells_rel {st : Nat → Prop} {v : Value} {y : A} (h : RelA st w v y) : F2 (Rd st w) v.cells.toList y.cells := by
  cases y with
  | d x => rw [cells_one (Rd.one h)]; exact F2.cons h F2.nil
  | ag xs => obtain ⟨l, rfl, hf⟩ := h; simpa [Value.cells, A.cells] using hf
theorem fill_rel {st : Nat → Prop} {place : Nat → Option (Nat × Nat)} : ∀ (ps : List (Nat × A)) {parts : List (Nat × Value)} {cells : Array Value} {ds ds' : List D},
    F2 (fun p q => p.1 = q.1 ∧ RelA st w p.2 q.2) parts ps → F2 (Rd st w) cells.toList ds → fillD place ds ps = some ds' → ∃ cells', Instr.fill place cells parts = some cells' ∧ F2 (Rd st w) cells'.toList ds'
  | [], parts, cells, ds, ds', hp, hf, h => by
    cases h
    rw [hp.of_nil]
    exact ⟨cells, rfl, hf⟩
  | (i, y) :: ps, parts, cells, ds, ds', hp, hf, h => by
    obtain ⟨⟨i', v⟩, parts', rfl, ⟨e1, hv⟩, hps⟩ := hp.of_cons
    simp only at e1 hv
    subst e1
    simp only [fillD] at h
    split at h
    · rename_i off sz hpl
      split at h
      · rename_i hc
        have hcell := A.cells_rel hv
        have hvl : v.cells.size = y.cells.length := by simpa using hcell.1
        have hcl : cells.size = ds.length := by simpa using hf.1
        have hsp := fold_splice off v.cells.toList 0 cells (by simp; omega)
        have ff := ((hf.take off).append hcell).append (hf.drop (off + y.cells.length))
        have key : ∀ ds2, ds2 = ds.take off ++ y.cells ++ ds.drop (off + sz) → fillD place ds2 ps = some ds' → ∃ cells', Instr.fill place cells ((i', v) :: parts') = some cells' ∧ F2 (Rd st w) cells'.toList ds' := by
          intro ds2 hds2 h2
          subst hds2
          rw [← hc.1] at h2
          obtain ⟨cells', h3, h4⟩ := fill_rel ps hps (cells := v.cells.zipIdx.foldl (fun cs (x : Value × Nat) => cs.setIfInBounds (off + x.2) x.1) cells) (ds := ds.take off ++ y.cells ++ ds.drop (off + y.cells.length)) (by
            rw [← Array.foldl_toList, Array.toList_zipIdx, hsp]
            simp only [Nat.add_zero, Array.length_toList, hvl]
            exact ff) h2
          refine ⟨cells', ?_, h4⟩
          simp only [Instr.fill, hpl]
          rw [if_neg (by simp [hvl, hc.1]; omega)]
          exact h3
        refine key _ ?_ h
        split
        · rename_i d hd
          have : y.cells.length = 1 := by rw [hd]; rfl
          rw [set_splice ds off d (by omega), ← hc.1, hd]
          rfl
        · rfl
      · cases h
    · cases h

theorem rowK_sound : ∀ (parts : List (Nat × Operand)) {σ : S} (h : Sim c σ β a w) {K : S → List (Nat × A) → Prop} {pre : List (Nat × Value)} {acc : List (Nat × A)}, F2 (fun p q => p.1 = q.1 ∧ RelA (stF c σ β w) w p.2 q.2) pre acc → rowK σ c.gl parts acc K →
    ∃ σ' ps, Sim c σ' β a w ∧ F2 (fun p q => p.1 = q.1 ∧ RelA (stF c σ' β w) w p.2 q.2) (pre.reverse ++ parts.map fun x => (x.1, a.eval x.2)) ps ∧ K σ' ps
  | [], σ, h, K, pre, acc, hp, hk => by
    refine ⟨σ, acc.reverse, h, ?_, hk⟩
    rw [List.map_nil, List.append_nil]
    refine ⟨by simp [hp.1], fun i u x hu hx => ?_⟩
    have hl := hp.1
    have hi := (List.getElem?_eq_some_iff.1 hu).1
    rw [List.length_reverse] at hi
    rw [List.getElem?_reverse hi] at hu
    rw [List.getElem?_reverse (by rw [← hl]; exact hi), ← hl] at hx
    exact hp.2 _ u x hu hx
  | (i, x) :: parts, σ, h, K, pre, acc, hp, hk => by
    simp only [rowK] at hk
    split at hk
    · rename_i y hy
      obtain ⟨hlow, hk⟩ := hk
      obtain ⟨hs, hst, hrel⟩ := rest1_sound h (h.eval x) hy hlow
      have H : ∀ b, stF c σ β w b → stF c (σ.rest1 (σ.eval c.gl x)) β w b ∧ w.heap[b]? = w.heap[b]? := fun b hb => ⟨hst b hb, rfl⟩
      obtain ⟨σ', ps, h1, h2, h3⟩ := rowK_sound parts hs (pre := (i, a.eval x) :: pre) (acc := (i, y) :: acc) (F2.cons ⟨rfl, hrel⟩ (hp.mono fun _ _ hr => ⟨hr.1, hr.2.mono H⟩)) hk
      exact ⟨σ', ps, h1, by simpa using h2, h3⟩
    · exact hk.elim

theorem zero_rel {st : Nat → Prop} {t : TypeId} {ti : TI} {z : Value} (hz : ti.z = z.cells.toList) (h1 : ti.z.all Value.oneCell' = true) : F2 (Rd st w) z.cells.toList (ti.z.map cellD) :=
  ⟨by simp [hz], fun i u d hu hd => by
    simp only [List.getElem?_map, Option.map_eq_some_iff] at hd
    obtain ⟨v, hv, rfl⟩ := hd
    rw [hz, hu] at hv; cases hv
    exact cellD_rd (List.all_eq_true.1 h1 u (by rw [hz]; exact List.mem_of_getElem? hu))⟩

theorem run_mapM_list {α γ : Type} {P : Program} (g : α → Sem γ) (f : α → γ) : ∀ (l : List α), (∀ x ∈ l, (g x).run P w = .ok (f x) w) → (l.mapM g).run P w = .ok (l.map f) w
  | [], _ => rfl
  | x :: l, h => by
    rw [List.mapM_cons, Sem.run_bind, h x (by simp), Result.andThen_ok, Sem.run_bind, run_mapM_list g f l (fun y hy => h y (List.mem_cons_of_mem _ hy)), Result.andThen_ok]
    rfl
theorem run_mapM_arr {α γ : Type} {P : Program} (g : α → Sem γ) (f : α → γ) {l : Array α} (h : ∀ x ∈ l.toList, (g x).run P w = .ok (f x) w) : (l.mapM g).run P w = .ok (l.toList.map f).toArray w := by
  rw [Array.mapM_eq_mapM_toList, Sem.run_map, run_mapM_list g f l.toList h]
  rfl
theorem a_build {t : TypeId} {parts : Array (Nat × Operand)} (h : Sim c σ β a w) (ho : o.op = .build t parts) (hd : ∀ d, o.dst = some d → d < c.N) (hq : opA0 c.P c.gl o σ K) : Run c.P o a w (AOut c a o K) := by
  have hdf : ∀ c : Call, o.op ≠ .defer c := fun _ e => by rw [ho] at e; cases e
  simp only [opA0, ho] at hq
  obtain ⟨σ', ps, hs, hps, hk⟩ := rowK_sound parts.toList h (pre := []) (acc := []) F2.nil hq
  split at hk
  · rename_i ti offs hti ht
    obtain ⟨hz1, hoffs, hk⟩ := hk
    split at hk
    · rename_i ds hfill
      obtain ⟨z, hz, hzz⟩ := run_zero (w := w) hti
      obtain ⟨fds, hu, rfl⟩ := tk_struct ht
      have hplaces : (fds.mapM fun f => do pure (f.offset, ← sizeOf f.type) : Sem (Array (Nat × Nat))).run c.P w = .ok (fds.toList.map fun f => (f.offset, ((c.P.info? f.type).map (·.size)).getD 0)).toArray w := by
        have hall : ∀ f ∈ fds.toList, (c.P.info? f.type).isSome = true := fun f hf => by
          have := List.all_eq_true.1 hoffs _ (List.mem_map.2 ⟨f, hf, rfl⟩)
          cases hi : c.P.info? f.type with
          | none => rw [hi] at this; simp at this
          | some i => rfl
        refine run_mapM_arr _ _ fun f hf => ?_
        obtain ⟨i, hi⟩ := Option.isSome_iff_exists.1 (hall f hf)
        simp [sizeOf, run_info hi, hi]
      obtain ⟨cells', hfl, hrel⟩ := fill_rel (place := fun i => ((fds.toList.map fun f => (f.offset, ((c.P.info? f.type).map (·.size)).getD 0)).toArray)[i]?) ps (parts := parts.toList.map fun x => (x.1, a.eval x.2)) (cells := z.cells) (ds := ti.z.map cellD) (ds' := ds) (st := stF c σ' β w) (by simpa using hps) (zero_rel (t := t) hzz hz1) (by
        rw [← hfill]
        congr 1
        funext i
        simp only [List.getElem?_toArray, List.getElem?_map, Option.map_map]
        congr 1)
      refine Run.val (v := .agg cells') (w' := w) hdf ?_ ⟨_, β, hk, hs.put hd (.a ⟨cells'.toList, rfl, hrel⟩)⟩
      simp only [execOp, ho, Instr.build, Sem.run_bind, hz, Result.andThen_ok, run_under hu, hplaces]
      have e1 : (parts.map fun (x : Nat × Operand) => (x.1, a.eval x.2)).toList = parts.toList.map fun x => (x.1, a.eval x.2) := by simp
      rw [e1, hfl]
      rfl
    · exact hk.elim
  · exact hk.elim

theorem flat_rows {α : Type} (n sz : Nat) (l : List α) (h : l.length = n * sz) : ((List.range n).map fun i => (l.drop (i * sz)).take sz).flatten = l := by
  induction n generalizing l with
  | zero => simp at h; subst h; rfl
  | succ n ih =>
    rw [List.range_succ_eq_map, List.map_cons, List.flatten_cons, List.map_map]
    have := ih (l.drop sz) (by simp [h, Nat.add_mul])
    simp only [Nat.zero_mul, List.drop_zero]
    have e : (List.range n).map ((fun i => (l.drop (i * sz)).take sz) ∘ Nat.succ) = (List.range n).map fun i => ((l.drop sz).drop (i * sz)).take sz := List.map_congr_left fun i _ => by
      simp [Function.comp, List.drop_drop, Nat.succ_mul, Nat.add_comm]
    rw [e, this, List.take_append_drop]

theorem a_build0 {t : TypeId} {parts : Array (Nat × Operand)} (h : Sim c σ β a w) (ho : o.op = .buildSlice t 0 parts) (hd : ∀ d, o.dst = some d → d < c.N) (hq : opA0 c.P c.gl o σ K) : Run c.P o a w (AOut c a o K) := by
  have hdf : ∀ c : Call, o.op ≠ .defer c := fun _ e => by rw [ho] at e; cases e
  simp only [opA0, ho, if_true] at hq
  obtain ⟨hp, hq⟩ := hq
  have hp : parts = #[] := by rw [← Array.toArray_toList (xs := parts), hp]
  subst hp
  split at hq
  · rename_i e d ht hdst
    split at hq
    · rename_i ti hti
      obtain ⟨i, u, z, hi, hu, hz, rfl⟩ := tinf_info hti
      have hs := h.new (o := d) (x := .log e i.size []) (bv := .slice (some ⟨w.heap.size, 0, none⟩) 0 0) (w' := w.alloc (.cells #[] e)) (Keep.alloc _ _ _) (fun b hb => by cases hb)
        ⟨[], .inr ⟨rfl, rfl, _, rfl⟩, F2.nil, fun x hx => by simp at hx⟩
      refine Run.val (v := .slice (some ⟨w.heap.size, 0, none⟩) 0 0) (w' := w.alloc (.cells #[] e)) hdf ?_ ⟨_, upd β d (.slice (some ⟨w.heap.size, 0, none⟩) 0 0), hq, ?_⟩
      · have h0 : Array.map (fun _ : Nat => (default : Value)) (Array.range 0) = #[] := Array.eq_empty_of_size_eq_zero (by simp)
        simp [execOp, ho, Instr.buildSlice, run_underlying (tk_slice ht), sizeOf, run_info hi, Instr.fill, newRow, h0]
      · rw [hdst]
        exact hs.put (fun d' e => hd d' (hdst.trans e)) (.own (by simp [upd]) rfl)
    · exact hq.elim
  · exact hq.elim
theorem a_buildSlice {t : TypeId} {len : Nat} {parts : Array (Nat × Operand)} (h : Sim c σ β a w) (ho : o.op = .buildSlice t len parts) (hd : ∀ d, o.dst = some d → d < c.N) (hq : opA0 c.P c.gl o σ K) : Run c.P o a w (AOut c a o K) := by
  have hdf : ∀ c : Call, o.op ≠ .defer c := fun _ e => by rw [ho] at e; cases e
  by_cases hl0 : len = 0
  · subst hl0; exact a_build0 h ho hd hq
  simp only [opA0, ho, if_neg hl0] at hq
  obtain ⟨σ', ps, hs, hps, hk⟩ := rowK_sound parts.toList h (pre := []) (acc := []) F2.nil hq
  split at hk
  · rename_i e d ht hdst
    split at hk
    · rename_i ti hti
      obtain ⟨hz1, hsz, hzl, hlim, hne, hk⟩ := hk
      split at hk
      · rename_i ds hfill
        obtain ⟨z, hz, hzz⟩ := run_zero (w := w) hti
        have hzs : z.cells.size = ti.sz := by rw [← hzl, hzz]; simp
        have hrep : ((Array.range (len * ti.sz)).map (z.cells[· % z.cells.size]!)).toList = (List.replicate len z.cells.toList).flatten := by
          rw [hzs]
          apply List.ext_getElem?
          intro k
          have hfl : (List.replicate len z.cells.toList).flatten.length = len * ti.sz := by simp [hzs]
          by_cases hk : k < len * ti.sz
          · have hmod : k % ti.sz < ti.sz := Nat.mod_lt _ hsz
            have hdiv : k / ti.sz < len := by rw [Nat.div_lt_iff_lt_mul hsz]; exact hk
            have h1 : ∀ (n k : Nat), k < n * ti.sz → (List.replicate n z.cells.toList).flatten[k]? = z.cells.toList[k % ti.sz]? := by
              intro n
              induction n with
              | zero => intro k hk; omega
              | succ n ih =>
                intro k hk
                rw [List.replicate_succ, List.flatten_cons, List.getElem?_append]
                have hl : z.cells.toList.length = ti.sz := by simpa using hzs
                rw [hl]
                split
                · rename_i hlt; rw [Nat.mod_eq_of_lt hlt]
                · rename_i hge
                  rw [ih (k - ti.sz) (by rw [Nat.add_mul] at hk; omega), ← Nat.mod_eq_sub_mod (by omega)]
            rw [h1 len k hk]
            simp only [Array.toList_map, List.getElem?_map, Array.toList_range, List.getElem?_range hk, Option.map_some]
            rw [getElem!_pos z.cells (k % ti.sz) (by omega)]
            simp [hzs, hmod]
          · rw [List.getElem?_eq_none (by simp; omega), List.getElem?_eq_none (by rw [hfl]; omega)]
        have hzrel : F2 (Rd (stF c σ' β w) w) ((Array.range (len * ti.sz)).map (z.cells[· % z.cells.size]!)).toList (List.replicate len (ti.z.map cellD)).flatten := by
          rw [hrep]
          have h0 := zero_rel (st := stF c σ' β w) (w := w) (t := e) hzz hz1
          generalize len = n
          induction n with
          | zero => exact F2.nil
          | succ n ih => rw [List.replicate_succ, List.replicate_succ, List.flatten_cons, List.flatten_cons]; exact h0.append ih
        obtain ⟨cells', hfl, hrel⟩ := fill_rel (place := fun i => some (i * ti.sz, ti.sz)) ps (parts := parts.toList.map fun x => (x.1, a.eval x.2)) (by simpa using hps) hzrel hfill
        have hfsz : ∀ (ps : List (Nat × A)) (ds ds' : List D), fillD (fun i => some (i * ti.sz, ti.sz)) ds ps = some ds' → ds'.length = ds.length := by
          intro ps
          induction ps with
          | nil => intro ds ds' h; cases h; rfl
          | cons p ps ih =>
            intro ds ds' h
            simp only [fillD] at h
            split at h
            · rename_i hc
              rw [ih _ _ h]
              split
              · simp
              · simp only [List.length_append, List.length_take, List.length_drop]; omega
            · cases h
        have hdl : ds.length = len * ti.sz := by rw [hfsz _ _ _ hfill]; simp [hzl]
        have hcl : cells'.size = len * ti.sz := by rw [← hdl]; simpa using hrel.1
        have hrows : ∀ x ∈ (List.range len).map fun i => (ds.drop (i * ti.sz)).take ti.sz, x.length = ti.sz := by
          intro x hx
          obtain ⟨i, hi, rfl⟩ := List.mem_map.1 hx
          have hi' : i + 1 ≤ len := List.mem_range.1 hi
          have := Nat.mul_le_mul_right ti.sz hi'
          rw [Nat.add_mul] at this
          simp [hdl]; omega
        have hn : ∀ b, ownB (.slice (some ⟨w.heap.size, 0, none⟩) len len) = some b → w.heap.size ≤ b ∨ ∃ y, σ'.mem d = some y ∧ ownB (β d) = some b := fun b hb => by
          cases len with
          | zero => cases hb
          | succ k => cases hb; exact .inl (Nat.le_refl _)
        have hs2 := hs.new (o := d) (x := .log e ti.sz ((List.range len).map fun i => (ds.drop (i * ti.sz)).take ti.sz)) (bv := .slice (some ⟨w.heap.size, 0, none⟩) len len) (w' := w.alloc (.cells cells' e)) (Keep.alloc _ _ _) hn
          ⟨cells'.toList, .inl ⟨by simp [hcl], .inr ⟨w.heap.size, len, cells', by simp, Nat.zero_le _, heap_alloc_new _ _, by simp, by
            have : len ≤ len * ti.sz := Nat.le_mul_of_pos_right _ hsz
            simp only [maxLen]; omega, hcl, by rw [List.take_of_length_le (by simp [hcl])]⟩⟩, by
            rw [flat_rows len ti.sz ds hdl]
            exact hrel.mono fun _ _ => Rd.mono fun b hb => ⟨st_new (by simp) (fun b hb => _root_.Go.heap_alloc_old _ _ b hb.1) hn hb, _root_.Go.heap_alloc_old _ _ b hb.1⟩, hrows⟩
        refine Run.val (v := .slice (some ⟨w.heap.size, 0, none⟩) len len) (w' := w.alloc (.cells cells' e)) hdf ?_ ⟨_, upd β d (.slice (some ⟨w.heap.size, 0, none⟩) len len), hk, ?_⟩
        · have hlim' : ¬ (len * ti.sz > 2 ^ 24) := by omega
          have hnz : ¬ (len * ti.sz = 0) := by
            have := Nat.mul_pos (Nat.pos_of_ne_zero hne) hsz; omega
          simp only [execOp, ho, Instr.buildSlice, Sem.run_bind, run_under (tk_slice ht), Result.andThen_ok, run_size hti]
          rw [if_neg hlim', if_neg hnz]
          simp only [Sem.run_bind, hz, Result.andThen_ok, Sem.run_pure]
          have e1 : (parts.map fun (x : Nat × Operand) => (x.1, a.eval x.2)).toList = parts.toList.map fun x => (x.1, a.eval x.2) := by simp
          rw [e1, hfl]
          simp [newRow]
        · rw [hdst]
          exact hs2.put (fun d' e => hd d' (hdst.trans e)) (.own (by simp [upd]) rfl)
      · exact hk.elim
    · exact hk.elim
  · exact hk.elim

theorem allDA_inv {as : List A} {ds : List D} (h : allDA as = some ds) : as = ds.map A.d := by
  induction as generalizing ds with
  | nil => cases h; rfl
  | cons x xs ih =>
    cases x with
    | d x =>
      obtain ⟨ds', h1, rfl⟩ := Option.map_eq_some_iff.1 h
      rw [ih h1]; rfl
    | ag _ => cases h

theorem a_makeFunc {fn : Fn} {first caps : Array Operand} (h : Sim c σ β a w) (ho : o.op = .makeFunc fn first caps) (hd : ∀ d, o.dst = some d → d < c.N) (hq : opA0 c.P c.gl o σ K) : Run c.P o a w (AOut c a o K) := by
  have hdf : ∀ c : Call, o.op ≠ .defer c := fun _ e => by rw [ho] at e; cases e
  simp only [opA0, ho] at hq
  split at hq
  · rename_i f hf
    obtain ⟨cs, hcs⟩ : ∃ cs, caps.toList = cs := ⟨_, rfl⟩
    rw [hcs] at hq
    have hfirst : first = #[] := by rw [← Array.toArray_toList (xs := first), hf]
    have hv : F2 (RelR β (stF c σ β w) w) (cs.map a.eval) (cs.map (σ.eval c.gl)) := ⟨by simp, fun i u r hu hr => by
      simp only [List.getElem?_map, Option.map_eq_some_iff] at hu hr
      obtain ⟨x, hx, rfl⟩ := hu
      obtain ⟨y, hy, rfl⟩ := hr
      rw [hx] at hy; cases hy
      exact h.eval x⟩
    obtain ⟨σ', as, hs, hst, hrel, hk⟩ := rest_sound (cs.map (σ.eval c.gl)) h (vs := cs.map a.eval) (avs := []) (acc := []) hv F2.nil hq
    split at hk
    · rename_i ds hds
      have has := allDA_inv hds
      refine Run.val (v := .func (.func f) #[] (cs.map a.eval).toArray) (w' := w) hdf ?_ ⟨_, β, hk, hs.put hd (.a (Rd.fn (by simpa [has] using hrel.1) fun j d v hj hv' => ?_))⟩
      · have hcap : caps.map a.eval = (cs.map a.eval).toArray := by rw [← hcs]; simp [← Array.toList_map]
        simp [execOp, ho, hfirst, Instr.makeFunc, hcap]
      · exact hrel.2 j v (.d d) (by simpa using hv') (by rw [has]; simp [hj])
    · exact hk.elim
  · exact hq.elim

theorem a_assign {x : Operand} (h : Sim c σ β a w) (ho : o.op = .assign x) (hd : ∀ d, o.dst = some d → d < c.N) (hq : opA0 c.P c.gl o σ K) : Run c.P o a w (AOut c a o K) := by
  have hdf : ∀ c : Call, o.op ≠ .defer c := fun _ e => by rw [ho] at e; cases e
  simp only [opA0, ho] at hq
  split at hq
  · rename_i d hdst
    split at hq
    · rename_i e ht
      split at hq
      · rename_i ti hti
        have hs := h.new (o := d) (x := .log e ti.sz []) (bv := .slice none 0 0) (w' := w) ((Keep.refl _ _)) (fun b hb => by cases hb) ⟨[], .inl (World.ownsRow_nil _ _ _ _), F2.nil, by simp⟩
        refine Run.val (v := .slice none 0 0) (w' := w) hdf (by simp [execOp, ho, Act.eval]) ⟨_, upd β d (.slice none 0 0), hq, ?_⟩
        rw [hdst]
        exact hs.put (fun d' e => hd d' (hdst.trans e)) (.own (by simp [upd]) rfl)
      · exact hq.elim
    · exact hq.elim
  · exact a_quiet h hd (opQ_sound h hq)

theorem fresh_count {n : Nat} : ∀ {res : List Rv} {id : Nat}, freshOf id res = none → ∀ r ∈ res, r.isFresh = false
  | [], _, _ => by simp
  | .a x :: rs, id, h => by simpa [Rv.isFresh] using fresh_count (n := n) (res := rs) (id := id + 1) h
  | .clip xs :: rs, id, h => by simpa [Rv.isFresh] using fresh_count (n := n) (res := rs) (id := id + 1) h
  | .fresh _ _ _ :: rs, id, h => by cases h
theorem fresh_at : ∀ {res : List Rv} {id k : Nat} {e : TypeId} {z : Nat} {xs : List (List D)}, freshOf id res = some (k, e, z, xs) → ∃ i, k = id + i ∧ res[i]? = some (.fresh e z xs) ∧ i < res.length
  | [], _, _, _, _, _, h => by cases h
  | .a x :: rs, id, k, e, z, xs, h => by
    obtain ⟨i, h1, h2, h3⟩ := fresh_at (res := rs) (id := id + 1) h
    exact ⟨i + 1, by omega, by simpa using h2, by simpa using h3⟩
  | .clip _ :: rs, id, k, e, z, xs, h => by
    obtain ⟨i, h1, h2, h3⟩ := fresh_at (res := rs) (id := id + 1) h
    exact ⟨i + 1, by omega, by simpa using h2, by simpa using h3⟩
  | .fresh e' z' xs' :: rs, id, k, e, z, xs, h => by
    cases h
    exact ⟨0, rfl, rfl, by simp⟩
theorem fresh_one {res : List Rv} (h : (res.filter Rv.isFresh).length ≤ 1) {i j : Nat} {r r' : Rv} (hi : res[i]? = some r) (hj : res[j]? = some r') (h1 : r.isFresh = true) (h2 : r'.isFresh = true) : i = j := by
  induction res generalizing i j with
  | nil => simp at hi
  | cons x xs ih =>
    have nof : x.isFresh = true → ∀ (k : Nat) (y : Rv), xs[k]? = some y → y.isFresh = true → False := fun hx k y hk hy => by
      rw [List.filter_cons_of_pos hx, List.length_cons] at h
      have h0 : xs.filter Rv.isFresh = [] := List.eq_nil_of_length_eq_zero (by omega)
      have hm : y ∈ xs.filter Rv.isFresh := List.mem_filter.2 ⟨List.mem_of_getElem? hk, hy⟩
      rw [h0] at hm; cases hm
    have h' : (xs.filter Rv.isFresh).length ≤ 1 := Nat.le_trans ((List.sublist_cons_self x xs).filter _).length_le h
    cases i with
    | zero =>
      simp at hi; subst hi
      cases j with
      | zero => rfl
      | succ j => exact (nof h1 j r' (by simpa using hj) h2).elim
    | succ i =>
      cases j with
      | zero =>
        simp at hj; subst hj
        exact (nof h2 i r (by simpa using hi) h1).elim
      | succ j => exact congrArg (· + 1) (ih h' (i := i) (j := j) (by simpa using hi) (by simpa using hj))
theorem regs_at : ∀ {res : List Rv} {id i : Nat} {r : R}, (regsOf id res)[i]? = some r → ∃ rv, res[i]? = some rv ∧ r = (match rv with | .a x => .a x | .clip xs => .cs xs | .fresh _ _ _ => .own (id + i))
  | [], _, i, r, h => by simp [regsOf] at h
  | rv :: rs, id, 0, r, h => by cases rv <;> (simp [regsOf] at h; subst h; exact ⟨_, rfl, rfl⟩)
  | rv :: rs, id, i + 1, r, h => by
    have h' : (regsOf (id + 1) rs)[i]? = some r := by cases rv <;> simpa [regsOf] using h
    obtain ⟨rv', h1, h2⟩ := regs_at h'
    refine ⟨rv', by simpa using h1, ?_⟩
    rw [h2]
    cases rv' <;> simp [Nat.add_assoc, Nat.add_comm 1]
theorem regs_len : ∀ {res : List Rv} {id : Nat}, (regsOf id res).length = res.length
  | [], _ => rfl
  | rv :: rs, id => by cases rv <;> simp [regsOf, regs_len]
theorem one_rel {β : Nat → Value} {st : Nat → Prop} {w : World} {us : List Value} {rs : List R} (h : F2 (RelR β st w) us rs) : RelR β st w (retV us) (one rs) := by
  match us, rs, h.1 with
  | [u], [r], _ => exact h.2 0 u r rfl rfl
  | [], [], _ => exact .tp rfl fun j v r hj => by simp at hj
  | u :: v :: us, r :: s :: rs, hl => exact .tp (vs := u :: v :: us) hl fun j v r hv hr => h.2 j v r hv hr

theorem ret_sound (h : Sim c σ β a w) (hd : ∀ d, o.dst = some d → d < c.N) {st : Nat → Prop} {w' : World} {us : List Value} {res : List Rv} (hkeep : Keep (fun _ => False) w w')
    (hst : ∀ b, st b ∧ b < w.heap.size → stF c σ β w b) (hres : F2 (RelV (newSt st w w' us res) w' w.heap.size) us res)
    (hdis : ∀ (i j : Nat) (u u' : Value) (r r' : Rv) (b : Nat), us[i]? = some u → us[j]? = some u' → res[i]? = some r → res[j]? = some r' → r.isFresh = true → r'.isFresh = true → ownB u = some b → ownB u' = some b → i = j)
    (hk : σ.ret o.dst res K) : ∃ σ' β', K σ' ∧ Sim c σ' β' (a.put o.dst (retV us)) w' := by
  unfold S.ret at hk
  split at hk
  · rename_i hdst
    exact ⟨σ, β, hk, by rw [hdst]; exact (h.grow hkeep).1⟩
  · rename_i d hdst
    obtain ⟨hone, hid, hk⟩ := hk
    have hdN : ∀ d', some d = some d' → d' < c.N := fun d' e => hd d' (hdst.trans e)
    split at hk
    · rename_i hfr
      refine ⟨_, β, hk, ?_⟩
      rw [hdst]
      have H : ∀ b, newSt st w w' us res b → stF c σ β w' b ∧ w'.heap[b]? = w'.heap[b]? := fun b hb => ⟨by
        rcases hb with hb | ⟨h1, h2, h3, h5⟩
        · exact ⟨Nat.lt_of_lt_of_le hb.2 hkeep.size, (hst b hb).2.1, (hst b hb).2.2.1, (hst b hb).2.2.2.same (hkeep.block b hb.2 id)⟩
        · exact ⟨h2, fun h4 => absurd (Nat.lt_of_lt_of_le h4 h.keep.size) (Nat.not_lt.2 h1), fun o x ho e => Nat.lt_irrefl _ (Nat.lt_of_lt_of_le ((h.obj o x ho).lt e) h1), h5⟩, rfl⟩
      refine (h.grow hkeep).1.put hdN (one_rel ⟨by rw [regs_len]; exact hres.1, fun i u r hu hr => ?_⟩)
      obtain ⟨rv, hrv, rfl⟩ := regs_at hr
      have hv := hres.2 i u rv hu hrv
      cases rv with
      | a x => exact .a (RelA.mono H hv)
      | clip xs => obtain ⟨p, k, rfl, hr⟩ := hv; exact .cs (hr.mono H)
      | fresh e z xs => exact absurd (fresh_count (n := 0) hfr _ (List.mem_of_getElem? hrv)) (by simp [Rv.isFresh])
    · rename_i id e z xs hfr
      obtain ⟨i0, hid0, hi0, hlt0⟩ := fresh_at hfr
      obtain ⟨u0, hu0, ⟨⟨cells, hrow, hf, hall⟩, hnew⟩⟩ : ∃ u0, us[i0]? = some u0 ∧ RelV (newSt st w w' us res) w' w.heap.size u0 (.fresh e z xs) := by
        obtain ⟨u0, h1, h2⟩ := hres.get hi0
        exact ⟨u0, h1, h2⟩
      have hn : ∀ b, ownB u0 = some b → w.heap.size ≤ b ∨ ∃ y, σ.mem id = some y ∧ ownB (β id) = some b := fun b hb => .inl (hnew b hb)
      have H : ∀ b, newSt st w w' us res b → stF c (σ.newOb id (.log e z xs)) (upd β id u0) w' b ∧ w'.heap[b]? = w'.heap[b]? := fun b hb => ⟨by
        rcases hb with hb | ⟨h1, h2, h3, h5⟩
        · exact st_new hkeep.size (fun b hb => hkeep.block b hb.1 fun h => h) hn (hst b hb)
        · refine ⟨h2, fun h4 => absurd (Nat.lt_of_lt_of_le h4 h.keep.size) (Nat.not_lt.2 h1), fun o x ho e' => ?_, h5⟩
          by_cases eo : o = id
          · subst eo
            simp only [upd, if_true] at e'
            exact h3 ⟨i0, u0, _, hu0, hi0, rfl, e'⟩
          · simp only [S.newOb, upd, if_neg eo] at ho e'
            obtain ⟨y, hy, _⟩ := Option.map_eq_some_iff.1 ho
            exact Nat.lt_irrefl _ (Nat.lt_of_lt_of_le ((h.obj o y hy).lt e') h1), rfl⟩
      have hs := h.new (o := id) (x := .log e z xs) (bv := u0) (w' := w') (hkeep.mono fun _ hf => hf.elim) hn ⟨cells, hrow, hf.mono fun _ _ => Rd.mono H, hall⟩
      refine ⟨_, upd β id u0, hk, ?_⟩
      rw [hdst]
      refine hs.put hdN (one_rel ⟨by rw [regs_len]; exact hres.1, fun i u r hu hr => ?_⟩)
      obtain ⟨rv, hrv, rfl⟩ := regs_at hr
      have hv := hres.2 i u rv hu hrv
      cases rv with
      | a x => exact .a (RelA.mono H hv)
      | clip xs => obtain ⟨p, k, rfl, hr⟩ := hv; exact .cs (hr.mono H)
      | fresh e' z' xs' =>
        have hii := fresh_one hone hrv hi0 rfl rfl
        subst hii
        rw [hu0] at hu; cases hu
        have h1 : u0.oneCell' = true := by
          rcases hrow with hr | ⟨_, _, p, rfl⟩
          · rcases hr.2 with ⟨rfl, _⟩ | ⟨g, cap, cur, rfl, _⟩ <;> rfl
          · rfl
        refine .own ?_ h1
        rw [hid0]; simp [upd]

theorem callK_sound {k : Call} {f : Operand} {g : FuncId} {caps : List D} (h : Sim c σ β a w) (ho : o.op = .call k) (hc : k.callee = .value f) (hf : σ.eval c.gl f = .a (.d (.fn g caps))) (hd : ∀ d, o.dst = some d → d < c.N)
    (hq : callK c.P c.gl g (k.args.toList.map (σ.eval c.gl) ++ caps.map fun d => .a (.d d)) o.dst σ K) : Run c.P o a w (AOut c a o K) := by
  have hdf : ∀ c : Call, o.op ≠ .defer c := fun _ e => by rw [ho] at e; cases e
  have hfv := h.eval f
  rw [hf] at hfv
  obtain ⟨cvs, hcv, hcl, hcd⟩ : ∃ cvs : List Value, a.eval f = .func (.func g) #[] cvs.toArray ∧ cvs.length = caps.length ∧ ∀ (j : Nat) (d : D) (v : Value), caps[j]? = some d → cvs[j]? = some v → Rd (stF c σ β w) w v d := by
    have := hfv.inv_d
    generalize a.eval f = v at this
    cases this with
    | fn hl hd => exact ⟨_, rfl, hl, hd⟩
  have hvs : F2 (RelR β (stF c σ β w) w) (k.args.toList.map a.eval ++ cvs) (k.args.toList.map (σ.eval c.gl) ++ caps.map fun d => .a (.d d)) := by
    refine F2.append ⟨by simp, fun i u r hu hr => ?_⟩ ⟨by simp [hcl], fun i u r hu hr => ?_⟩
    · simp only [List.getElem?_map, Option.map_eq_some_iff] at hu hr
      obtain ⟨x, hx, rfl⟩ := hu
      obtain ⟨y, hy, rfl⟩ := hr
      rw [hx] at hy; cases hy
      exact h.eval x
    · simp only [List.getElem?_map, Option.map_eq_some_iff] at hr
      obtain ⟨d, hd, rfl⟩ := hr
      exact .a (hcd i d u hd hu)
  rcases hq with ⟨as, res, hargs, ⟨hok, hh⟩, hflat, hk⟩ | ⟨res, hk⟩ | ⟨hok, hh⟩
  · refine Run.call hdf (call_run hc ho hcv hok) ((hh (fun _ => True) w _ (h.env.mono fun _ _ => ⟨trivial, rfl⟩) (argsA_rel h hargs hvs)).mono ?_)
    rintro e w' ⟨us, rfl, hkeep, hres, hdis⟩
    have hres' : F2 (RelV (newSt (fun _ => False) w w' us res) w' w.heap.size) us res := ⟨hres.1, fun i u r hu hr => by
      have h1 := hres.2 i u r hu hr
      have h2 := List.all_eq_true.1 hflat r (List.mem_of_getElem? hr)
      cases r with
      | a x => exact A.flat_rel h2 h1
      | clip _ => cases h2
      | fresh _ _ _ => cases h2⟩
    obtain ⟨σ', β', h1, h2⟩ := ret_sound (o := o) h hd hkeep (fun b hb => hb.1.elim) hres' hdis hk
    exact ⟨_, rfl, σ', β', h1, h2⟩
  · obtain ⟨σ', as, hs, hst, hrel, ⟨hok, hh⟩, hk⟩ := rest_sound _ h (avs := []) (acc := []) hvs F2.nil hk
    refine Run.call hdf (call_run hc ho hcv hok) ((hh (stF c σ' β w) w _ hs.env (by simpa using hrel)).mono ?_)
    rintro e w' ⟨us, rfl, hkeep, hres, hdis⟩
    obtain ⟨σ'', β', h1, h2⟩ := ret_sound (o := o) hs hd hkeep (fun b hb => hb.1) hres hdis hk
    exact ⟨_, rfl, σ'', β', h1, h2⟩
  · refine Run.call hdf (call_run hc ho hcv hok) ((hh c β a w _ rfl rfl h hvs).mono ?_)
    rintro e w' ⟨us, rs', σ', β', rfl, hs, hres, hk⟩
    refine ⟨_, rfl, σ'.put o.dst (one rs'), β', hk, hs.put hd ?_⟩
    rcases rs' with _ | ⟨r, _ | ⟨r2, rs⟩⟩
    · obtain rfl := hres.of_nil
      exact .tp (vs := []) rfl fun j v r hv => by simp at hv
    · obtain ⟨u, s, rfl, hr, hs'⟩ := hres.of_cons
      obtain rfl := hs'.of_nil
      exact hr
    · obtain ⟨u, s, rfl, hr, hs'⟩ := hres.of_cons
      obtain ⟨u2, s2, rfl, hr2, hs2⟩ := hs'.of_cons
      exact .tp hres.1 fun j v r hv hr => hres.2 j v r hv hr

theorem a_makeMap {t : TypeId} (h : Sim c σ β a w) (ho : o.op = .makeMap t none) (hd : ∀ d, o.dst = some d → d < c.N) (hq : opA0 c.P c.gl o σ K) : Run c.P o a w (AOut c a o K) := by
  have hdf : ∀ c : Call, o.op ≠ .defer c := fun _ e => by rw [ho] at e; cases e
  simp only [opA0, ho] at hq
  split at hq
  · rename_i d z hdst hz
    have hs := h.new (o := d) (x := .mpo []) (bv := .map (some w.heap.size)) (w' := w.alloc (.map #[] 0)) (Keep.alloc _ _ _) (fun b hb => by cases hb; exact .inl (Nat.le_refl _))
      ⟨w.heap.size, 0, #[], fun _ => undef, rfl, heap_alloc_new w _, rfl, MapKept.stamped_empty 0, fun i e p he => by simp at he, fun i p hp => by simp at hp⟩
    refine Run.val (v := .map (some w.heap.size)) (w' := w.alloc (.map #[] 0)) hdf ?_ ⟨_, upd β d (.map (some w.heap.size)), hq, ?_⟩
    · have hr : (Instr.makeMap t none).run c.P w = .ok (.map (some w.heap.size)) (w.alloc (.map #[] 0)) := rfl
      simp [execOp, ho, hr]
    · rw [hdst]
      exact hs.put (fun d' e => hd d' (hdst.trans e)) (.omp (by simp [upd]) rfl)
  · exact hq.elim

theorem upd_run {t m : TypeId} {r clock : Nat} {es : Array MapEntry} {kv : List (Int × D)} {vs : Nat → Value} {st : Nat → Prop} {n : Int} {x : D} {v : Value} {kt e : TypeId} {P : Program}
    (ht : P.underlying t = some (.map kt e)) (hkt : P.underlying kt = some (.int .i64)) (hb : w.heap[r]? = some (.map es clock)) (hl : es.size = kv.length) (hs : MapKept.Stamped es clock)
    (hk : ∀ (i : Nat) (e : MapEntry) (p : Int × D), es[i]? = some e → kv[i]? = some p → e.key = .int .i64 p.1 ∧ e.val = vs i)
    (hd : ∀ (i : Nat) (p : Int × D), kv[i]? = some p → Rd st w (vs i) p.2) (hv : Rd st w v x) :
    ∃ (es' : Array MapEntry) (clock' : Nat) (vs' : Nat → Value), (Instr.mapUpdate t (.map (some r)) (.int .i64 n) v).run P w = .ok () { w with heap := w.heap.setIfInBounds r (.map es' clock') } ∧ es'.size = (kvSet kv n x).length ∧ MapKept.Stamped es' clock' ∧
      (∀ (i : Nat) (e : MapEntry) (p : Int × D), es'[i]? = some e → (kvSet kv n x)[i]? = some p → e.key = .int .i64 p.1 ∧ e.val = vs' i) ∧
      (∀ (i : Nat) (p : Int × D), (kvSet kv n x)[i]? = some p → Rd st w (vs' i) p.2) := by
  have hkey : MapKept.IsKey (.int .i64) (.int .i64 n) := rfl
  rcases find_kv (n := n) es.toList kv 0 (by simpa using hl) (fun j e p h1 h2 => (hk j e p (by simpa using h1) h2).1) with ⟨h1, h2, h3, h4⟩ | ⟨j, e', p, h1, h2, h3, h4, h5, h6⟩
  · refine ⟨es.push { key := .int .i64 n, val := v, born := clock }, clock + 1, fun i => if i < es.size then vs i else v, ?_, by simp [h3, hl], MapKept.stamped_push hs h4, fun i e p he hp => ?_, fun i p hp => ?_⟩
    · simp only [Instr.mapUpdate, Sem.run_bind, run_underlying ht, MapKept.run_getObj_map hb, MapKept.run_checkKey hkt hkey, MapKept.run_findKey hkt h1, MapKept.run_setObj_map _ hb, Result.andThen_ok]
    · rw [h3] at hp
      rw [Array.getElem?_push] at he
      split at he
      · rename_i hi
        cases he
        rw [hi, hl, List.getElem?_append_right (Nat.le_refl _)] at hp
        simp at hp
        subst hp
        simp [hi]
      · rename_i hi
        have hlt := (Array.getElem?_eq_some_iff.1 he).1
        rw [List.getElem?_append_left (by omega)] at hp
        simp only [hlt, if_true]
        exact hk i e p he hp
    · rw [h3] at hp
      by_cases hi : i < es.size
      · rw [List.getElem?_append_left (by omega)] at hp
        simp only [hi, if_true]; exact hd i p hp
      · rw [List.getElem?_append_right (by omega)] at hp
        have : i - kv.length = 0 := by
          have := (List.getElem?_eq_some_iff.1 hp).1
          simp at this; omega
        rw [this] at hp
        simp at hp; subst hp
        simp only [hi, if_false]; exact hv
  · have hj : es[j]? = some e' := by simpa using h2
    have he'k := (hk j e' p hj h3).1
    rw [h4] at he'k
    have hjl := (List.getElem?_eq_some_iff.1 h3).1
    refine ⟨es.modify j fun e => { e with key := .int .i64 n, val := v }, clock, fun i => if i = j then v else vs i, ?_, by simp [h6, hl], MapKept.stamped_modify hs _ _ (fun _ _ => rfl) (fun e'' _ he'' => ?_), fun i e p' he hp => ?_, fun i p' hp => ?_⟩
    · simp only [Instr.mapUpdate, Sem.run_bind, run_underlying ht, MapKept.run_getObj_map hb, MapKept.run_checkKey hkt hkey, MapKept.run_findKey hkt h1, Result.andThen_ok, Nat.zero_add, hj, Option.map_some, Option.getD_some, he'k, MapKept.run_keyThatStays hkey, MapKept.run_setObj_map _ hb]
    · rw [hj] at he''; cases he''; exact he'k.symm
    · rw [h6] at hp
      rw [Array.getElem?_modify] at he
      by_cases hi : j = i
      · subst hi
        rw [if_pos rfl, hj] at he
        simp at he; subst he
        rw [List.getElem?_set_self hjl] at hp
        cases hp
        simp
      · rw [if_neg hi] at he
        rw [List.getElem?_set_ne hi] at hp
        simp only [if_neg (Ne.symm hi)]
        exact hk i e p' he hp
    · rw [h6] at hp
      by_cases hi : j = i
      · subst hi
        rw [List.getElem?_set_self hjl] at hp
        cases hp
        simp only [if_true]; exact hv
      · rw [List.getElem?_set_ne hi] at hp
        simp only [if_neg (Ne.symm hi)]; exact hd i p' hp

theorem updK_sound {t : TypeId} {m k x : Operand} (h : Sim c σ β a w) (ho : execOp a.eval o = (do Instr.mapUpdate t (a.eval m) (a.eval k) (a.eval x); pure .skip)) (hdf : ∀ c : Call, o.op ≠ .defer c)
    (hd : ∀ d, o.dst = some d → d < c.N) (hq : updK c.P c.gl σ t m k x fun σ' => K (σ'.put o.dst .any)) : Run c.P o a w (AOut c a o K) := by
  unfold updK at hq
  split at hq
  · rename_i ob n z hm hkk hz
    obtain ⟨kt, e, inf, u, ht, hkt, _, _, _, _⟩ := mapT_inv hz
    have hkv := h.eval k
    rw [hkk] at hkv
    have hkv := hkv.inv_v
    have hmv := h.eval m
    rw [hm] at hmv
    have hmb : β ob = a.eval m := by
      generalize a.eval m = mv at hmv ⊢
      cases hmv with | omp e _ => exact e
    obtain ⟨σ', as, hs, hst, hrel, hk⟩ := rest_sound [σ.eval c.gl x] h (vs := [a.eval x]) (avs := []) (acc := []) (F2.cons (h.eval x) F2.nil) F2.nil hq
    split at hk
    · rename_i y kv hmem
      have hy : Rd (stF c σ' β w) w (a.eval x) y := hrel.2 0 _ (.d y) rfl rfl
      obtain ⟨r, clock, es, vs, hb, hh, hl, hsm, hkk, hdd⟩ := hs.obj _ _ hmem
      obtain ⟨es', clock', vs', hrun, hl', hs', hk', hd'⟩ := upd_run (n := n) (m := t) ht hkt hh hl hsm hkk hdd hy
      have hset := MapKept.heap_set (o' := Obj.map es' clock') hh
      have keep : Keep (fun b => ownB (β ob) = some b) w { w with heap := w.heap.setIfInBounds r (.map es' clock') } := ⟨rfl, rfl, rfl, by simp, fun b _ hb' => hset.2 b fun e => hb' (by rw [hb, e]; rfl)⟩
      have hz := hs.setOb (x := .mpo (kvSet kv n y)) hmem keep ⟨r, clock', es', vs', hb, hset.1, hl', hs', hk', fun i p hp => (hd' i p hp).mono fun b hb' => ?_⟩
      · refine Run.skip hdf ?_ ⟨_, β, hk, hz.put hd .any⟩
        rw [ho, hkv, ← hmb, hb]
        simp only [Sem.run_bind, hrun, Result.andThen_ok, Sem.run_pure]
      · have hsame := hset.2 b fun e => hb'.2.2.1 ob _ hmem (by rw [hb, e]; rfl)
        refine ⟨⟨Nat.lt_of_lt_of_le hb'.1 keep.size, hb'.2.1, fun o' y' hy' => ?_, hb'.2.2.2.same hsame⟩, hsame⟩
        by_cases e : o' = ob
        · subst e; exact hb'.2.2.1 o' _ hmem
        · simp only [S.setOb, upd, if_neg e] at hy'; exact hb'.2.2.1 o' y' hy'
    · exact hk.elim
  · exact hq.elim

theorem a_range {t : TypeId} {x : Operand} (h : Sim c σ β a w) (ho : o.op = .range t x) (hd : ∀ d, o.dst = some d → d < c.N) (hq : rangeK c.P σ t (σ.eval c.gl x) o.dst K) : Run c.P o a w (AOut c a o K) := by
  have hdf : ∀ c : Call, o.op ≠ .defer c := fun _ e => by rw [ho] at e; cases e
  unfold rangeK at hq
  split at hq
  · rename_i kt et kv d ht hx hdst
    have hv := h.eval x
    rw [hx] at hv
    have hv := hv.inv_d
    generalize hav : a.eval x = v at hv
    have fin : ∀ o1 : Obj, (Instr.range t v).run c.P w = .ok (.pointer (some ⟨w.heap.size, 0, none⟩)) (w.alloc o1) →
        ObRel (upd β d (.pointer (some ⟨w.heap.size, 0, none⟩))) (stF c (σ.newOb d (.iter kv [])) (upd β d (.pointer (some ⟨w.heap.size, 0, none⟩))) (w.alloc o1)) (w.alloc o1) (.pointer (some ⟨w.heap.size, 0, none⟩)) (.iter kv []) →
        Run c.P o a w (AOut c a o K) := fun o1 hrun hob => by
      have hs := h.new (o := d) (x := .iter kv []) (bv := .pointer (some ⟨w.heap.size, 0, none⟩)) (w' := w.alloc o1) (Keep.alloc _ _ _) (fun b hb => by cases hb; exact .inl (Nat.le_refl _)) hob
      refine Run.val (v := .pointer (some ⟨w.heap.size, 0, none⟩)) (w' := w.alloc o1) hdf ?_ ⟨_, upd β d (.pointer (some ⟨w.heap.size, 0, none⟩)), hq, ?_⟩
      · simp [execOp, ho, hav, hrun]
      · rw [hdst]
        exact hs.put (fun d' e => hd d' (hdst.trans e)) (.ref (by simp [upd]))
    cases hv with
    | mpn => exact fin _ (run_range_nilMap w t kt et (tk_map ht)) ⟨_, rfl, .inl ⟨rfl, rfl, heap_alloc_new _ _⟩⟩
    | @mp r clock es _ vs hst hb hl hs hk hdd =>
      have H : ∀ b, stF c σ β w b → stF c (σ.newOb d (.iter kv [])) (upd β d (.pointer (some ⟨w.heap.size, 0, none⟩))) (w.alloc (.mapIter (some r) clock #[] clock)) b ∧ (w.alloc (.mapIter (some r) clock #[] clock)).heap[b]? = w.heap[b]? :=
        fun b hb => ⟨st_new (by simp) (fun b hb => _root_.Go.heap_alloc_old w _ b hb.1) (fun b' hb' => by cases hb'; exact .inl (Nat.le_refl _)) hb, _root_.Go.heap_alloc_old w _ b hb.1⟩
      exact fin _ (run_range_map w t kt et r es clock (tk_map ht) hb) ⟨_, rfl, .inr ⟨r, clock, es, vs, #[], (H r hst).1, heap_alloc_new _ _, (H r hst).2.trans hb, hl, hs, hk, fun i p hp => (hdd i p hp).mono H, F2.nil⟩⟩
  · exact hq.elim

theorem born_inj {es : Array MapEntry} {clock : Nat} (hs : MapKept.Stamped es clock) {i j : Nat} {e e' : MapEntry} (h1 : es[i]? = some e) (h2 : es[j]? = some e') (h : e.born = e'.born) : i = j := by
  have hn := hs.2.1
  obtain ⟨hi, he⟩ := Array.getElem?_eq_some_iff.1 h1
  obtain ⟨hj, he'⟩ := Array.getElem?_eq_some_iff.1 h2
  refine (List.getElem_inj (h₀ := by simpa using hi) (h₁ := by simpa using hj) hn).1 ?_
  simp [he, he', h]

theorem a_next {x : Operand} (h : Sim c σ β a w) (ho : o.op = .next x false) (hd : ∀ d, o.dst = some d → d < c.N) (hq : nextK σ (σ.eval c.gl x) o.dst K) : Run c.P o a w (AOut c a o K) := by
  have hdf : ∀ c : Call, o.op ≠ .defer c := fun _ e => by rw [ho] at e; cases e
  unfold nextK at hq
  split at hq
  · rename_i ob hx
    have hv := h.eval x
    rw [hx] at hv
    obtain ⟨b, hb, hv⟩ := hv.inv_ref
    split at hq
    · rename_i kv seen hm
      obtain ⟨hq1, hq2⟩ := hq
      obtain ⟨b', hb', hob⟩ := h.obj _ _ hm
      rw [hb] at hb'; cases hb'
      have hfalse : RelR β (stF c σ β w) w (.tuple #[.bool false]) (.tp [.a (.d (.v (.bool false)))]) := .tp (vs := [.bool false]) rfl fun j v r hv hr => by
        cases j with
        | zero => simp at hv hr; subst hv; subst hr; exact .a (.v rfl)
        | succ j => simp at hv
      rcases hob with ⟨rfl, rfl, hh⟩ | ⟨m, clock, es, vs, arr, hst, hh, hmm, hl, hs, hk, hdd, hf⟩
      · refine Run.val (v := .tuple #[.bool false]) (w' := w) hdf ?_ ⟨_, β, hq2 (fun i hi => by simp at hi), h.put hd hfalse⟩
        have : (Instr.next (.pointer (some ⟨b, 0, none⟩)) false o.type).run c.P w = .ok (.tuple #[.bool false]) w := by
          simp only [Instr.next, getObj, Sem.run_bind, Sem.run, hh, Result.andThen]
          rfl
        simp [execOp, ho, hv, this]
      · rcases run_next_at (P := c.P) w o.type b m clock clock arr es clock hh hmm hs.1 (Nat.le_refl _) with ⟨h0, hrun⟩ | ⟨e, he, w1, hw1, hrun⟩
        · refine Run.val (v := .tuple #[.bool false]) (w' := w) hdf ?_ ⟨_, β, hq2 (fun i hi => ?_), h.put hd hfalse⟩
          · simp [execOp, ho, hv, hrun]
          · have hi' : i < es.size := by omega
            have hnone : es[i] ∉ leftOf es arr := fun hmem => by
              have := Array.size_pos_of_mem hmem; omega
            have hcon : arr.contains es[i].born = true := by
              by_cases hc : arr.contains es[i].born = true
              · exact hc
              · exact absurd (by unfold leftOf; rw [Array.mem_filter]; exact ⟨Array.getElem_mem hi', by simpa using hc⟩) hnone
            obtain ⟨j, hj⟩ := List.getElem?_of_mem (Array.mem_toList_iff.2 (Array.contains_iff_mem.1 hcon))
            have hjs : j < seen.length := by rw [← hf.1]; exact (List.getElem?_eq_some_iff.1 hj).1
            obtain ⟨e', he', hbe⟩ := hf.2 j _ seen[j] hj (List.getElem?_eq_getElem hjs)
            have := born_inj hs he' (Array.getElem?_eq_getElem hi') hbe
            rw [← this]; exact List.getElem_mem hjs
        · have hmem := he
          simp only [leftOf, Array.mem_toList_iff, Array.mem_filter] at hmem
          obtain ⟨i, hi, hei⟩ := Array.mem_iff_getElem.1 hmem.1
          have hei' : es[i]? = some e := by rw [Array.getElem?_eq_getElem hi, hei]
          have hikv : i < kv.length := by omega
          obtain ⟨hkey, hval⟩ := hk i e kv[i] hei' (List.getElem?_eq_getElem hikv)
          have hns : i ∉ seen := fun hin => by
            obtain ⟨j, hj⟩ := List.getElem?_of_mem hin
            have hja : j < arr.toList.length := by rw [hf.1]; exact (List.getElem?_eq_some_iff.1 hj).1
            obtain ⟨e', he', hbe⟩ := hf.2 j _ i (List.getElem?_eq_getElem hja) hj
            rw [hei'] at he'; cases he'
            have : arr.contains e.born = true := by rw [Array.contains_iff_mem, hbe]; exact Array.mem_toList_iff.1 (List.getElem_mem hja)
            have h2 := hmem.2
            rw [this] at h2; cases h2
          have hw1h : w1.heap = w.heap := by rcases hw1 with rfl | rfl <;> rfl
          have hset : (ChangeMaps.setBlock w1 b (.mapIter (some m) clock (arr.push e.born) clock)).heap[b]? = some (.mapIter (some m) clock (arr.push e.born) clock) ∧ ∀ r', r' ≠ b → (ChangeMaps.setBlock w1 b (.mapIter (some m) clock (arr.push e.born) clock)).heap[r']? = w1.heap[r']? := MapKept.heap_set (by rw [hw1h]; exact hh)
          have keep : Keep (fun b' => ownB (β ob) = some b') w (ChangeMaps.setBlock w1 b (.mapIter (some m) clock (arr.push e.born) clock)) := by
            rcases hw1 with rfl | rfl <;> exact ⟨rfl, rfl, rfl, by simp [ChangeMaps.setBlock], fun k hk' hne => hset.2 k fun e => hne (by rw [hb, e]; rfl)⟩
          have hneq : m ≠ b := fun e => by rw [e, hh] at hmm; cases hmm
          have hH : ∀ b', stF c σ β w b' → stF c (σ.setOb ob (.iter kv (seen ++ [i]))) β (ChangeMaps.setBlock w1 b (.mapIter (some m) clock (arr.push e.born) clock)) b' ∧ (ChangeMaps.setBlock w1 b (.mapIter (some m) clock (arr.push e.born) clock)).heap[b']? = w.heap[b']? := fun b' hb' => by
            have hsame : (ChangeMaps.setBlock w1 b (.mapIter (some m) clock (arr.push e.born) clock)).heap[b']? = w.heap[b']? := by rw [hset.2 b' fun e => hb'.2.2.1 ob _ hm (by rw [hb, e]; rfl), hw1h]
            refine ⟨⟨Nat.lt_of_lt_of_le hb'.1 keep.size, hb'.2.1, fun o' y' hy' => ?_, hb'.2.2.2.same hsame⟩, hsame⟩
            by_cases e : o' = ob
            · subst e; exact hb'.2.2.1 o' _ hm
            · simp only [S.setOb, upd, if_neg e] at hy'; exact hb'.2.2.1 o' y' hy'
          have hs' := h.setOb (x := .iter kv (seen ++ [i])) hm keep ⟨b, hb, .inr ⟨m, clock, es, vs, _, (hH m hst).1, hset.1, (hH m hst).2.trans hmm, hl, hs, hk, fun i p hp => (hdd i p hp).mono hH, by
            rw [Array.toList_push]; exact hf.append (F2.cons ⟨e, hei', rfl⟩ F2.nil)⟩⟩
          refine Run.val (v := .tuple #[.bool true, e.key, e.val]) hdf ?_ ⟨_, β, hq1 i kv[i] (List.getElem?_eq_getElem hikv) hns, hs'.put hd ?_⟩
          · simp [execOp, ho, hv, hrun]
          · rw [hkey, hval]
            refine .tp (vs := [.bool true, .int .i64 kv[i].1, vs i]) rfl fun j v r hv hr => ?_
            match j with
            | 0 => simp at hv hr; subst hv; subst hr; exact .a (.v rfl)
            | 1 => simp at hv hr; subst hv; subst hr; exact .a (.v rfl)
            | 2 => simp at hv hr; subst hv; subst hr; exact .a ((hdd i _ (List.getElem?_eq_getElem hikv)).mono hH)
            | j + 3 => simp at hv
    · exact hq.elim
  · exact hq.elim

theorem a_entry {x : Operand} (h : Sim c σ β a w) (ho : o.op = .entry x) (hd : ∀ d, o.dst = some d → d < c.N) (hq : entryK σ (σ.eval c.gl x) o.dst K) : Run c.P o a w (AOut c a o K) := by
  have hdf : ∀ c : Call, o.op ≠ .defer c := fun _ e => by rw [ho] at e; cases e
  unfold entryK at hq
  split at hq
  · rename_i ob hx
    have hv := h.eval x
    rw [hx] at hv
    obtain ⟨b, hb, hv⟩ := hv.inv_ref
    split at hq
    · rename_i kv seen hm
      split at hq
      · rename_i p hp
        obtain ⟨i, hi, hpi⟩ := Option.bind_eq_some_iff.1 hp
        obtain ⟨b', hb', hob⟩ := h.obj _ _ hm
        rw [hb] at hb'; cases hb'
        rcases hob with ⟨rfl, rfl, hh⟩ | ⟨m, clock, es, vs, arr, hst, hh, hmm, hl, hs, hk, hdd, hf⟩
        · simp at hi
        · obtain ⟨s0, rfl⟩ : ∃ s0, seen = s0 ++ [i] := List.getLast?_eq_some_iff.1 hi
          have hal : arr.toList.length = s0.length + 1 := by rw [hf.1]; simp
          obtain ⟨a0, s, ha⟩ : ∃ a0 s, arr = Array.push a0 s := Array.eq_push_of_size_ne_zero (by simp at hal; omega)
          subst ha
          have hlen0 : a0.size = s0.length := by simpa using hal
          obtain ⟨e, he, hbe⟩ := hf.2 s0.length s i (by rw [Array.toList_push, List.getElem?_append_right (by simp [hlen0])]; simp [hlen0]) (by simp)
          obtain ⟨hkey, hval⟩ := hk i e p he hpi
          have hrun := run_entry_at (P := c.P) w b m clock a0 es clock e (by rw [hbe]; exact hh) hmm (Array.mem_toList_iff.2 (Array.mem_of_getElem? he)) hs.2.1
          refine Run.val (v := .tuple #[e.key, e.val]) (w' := w) hdf ?_ ⟨_, β, hq, h.put hd ?_⟩
          · simp [execOp, ho, hv, hrun]
          · rw [hkey, hval]
            refine .tp (vs := [.int .i64 p.1, vs i]) rfl fun j v r hv hr => ?_
            match j with
            | 0 => simp at hv hr; subst hv; subst hr; exact .a (.v rfl)
            | 1 => simp at hv hr; subst hv; subst hr; exact .a (hdd i p hpi)
            | j + 2 => simp at hv
      · exact hq.elim
    · exact hq.elim
  · exact hq.elim

/-- A closure over variables of the caller's is called. -/
theorem clo_sound {k : Call} {f : Operand} {g : FuncId} {caps : List (Nat × Nat)} (h : Sim c σ β a w) (ho : o.op = .call k) (hc : k.callee = .value f) (hf : σ.eval c.gl f = .clo g caps) (hd : ∀ d, o.dst = some d → d < c.N)
    (hq : Inl c.P c.gl g (k.args.toList.map (σ.eval c.gl) ++ caps.map fun x => .ref x.1 x.2) σ (fun σ' rs' => K (σ'.put o.dst (one rs')))) : Run c.P o a w (AOut c a o K) := by
  have hdf : ∀ c : Call, o.op ≠ .defer c := fun _ e => by rw [ho] at e; cases e
  have hfv := h.eval f
  rw [hf] at hfv
  obtain ⟨cvs, hcv, hcd⟩ : ∃ cvs : List Value, a.eval f = .func (.func g) #[] cvs.toArray ∧ F2 (fun v c => ∃ b, β c.1 = .pointer (some ⟨b, 0, none⟩) ∧ v = .pointer (some ⟨b, c.2, none⟩)) cvs caps := by
    generalize a.eval f = v at hfv
    cases hfv with
    | clo hl => exact ⟨_, rfl, hl⟩
  have hvs : F2 (RelR β (stF c σ β w) w) (k.args.toList.map a.eval ++ cvs) (k.args.toList.map (σ.eval c.gl) ++ caps.map fun x => .ref x.1 x.2) := by
    refine F2.append ⟨by simp, fun i u r hu hr => ?_⟩ ⟨by simp [hcd.1], fun i u r hu hr => ?_⟩
    · simp only [List.getElem?_map, Option.map_eq_some_iff] at hu hr
      obtain ⟨x, hx, rfl⟩ := hu
      obtain ⟨y, hy, rfl⟩ := hr
      rw [hx] at hy; cases hy
      exact h.eval x
    · simp only [List.getElem?_map, Option.map_eq_some_iff] at hr
      obtain ⟨d, hd, rfl⟩ := hr
      obtain ⟨b, hb, rfl⟩ := hcd.2 i u d hu hd
      exact .ref hb
  obtain ⟨hok, hh⟩ := hq
  refine Run.call hdf (call_run hc ho hcv hok) ((hh c β a w _ rfl rfl h hvs).mono ?_)
  rintro e w' ⟨us, rs', σ', β', rfl, hs, hres, hk⟩
  refine ⟨_, rfl, σ'.put o.dst (one rs'), β', hk, hs.put hd ?_⟩
  rcases rs' with _ | ⟨r, _ | ⟨r2, rs⟩⟩
  · obtain rfl := hres.of_nil
    exact .tp (vs := []) rfl fun j v r hv => by simp at hv
  · obtain ⟨u, s, rfl, hr, hs'⟩ := hres.of_cons
    obtain rfl := hs'.of_nil
    exact hr
  · obtain ⟨u, s, rfl, hr, hs'⟩ := hres.of_cons
    obtain ⟨u2, s2, rfl, hr2, hs2⟩ := hs'.of_cons
    exact .tp hres.1 fun j v r hv hr => hres.2 j v r hv hr

theorem opA0_sound (h : Sim c σ β a w) (hd : ∀ d, o.dst = some d → d < c.N) (hq : opA0 c.P c.gl o σ K) : Run c.P o a w (AOut c a o K) := by
  have hq0 := hq
  unfold opA0 at hq
  split at hq
  case h_1 x ho => exact a_assign h ho hd hq0
  case h_2 t p x ho => exact a_store h ho hd hq0
  case h_3 t ho => exact a_alloc h ho hd hq0
  case h_4 t x ho => exact a_box h ho hd hq0
  case h_5 t x l hi m ho => exact a_slice h ho hd hq0
  case h_6 t ps ho => exact a_build h ho hd hq0
  case h_7 t l ps ho => exact a_buildSlice h ho hd hq0
  case h_8 t x ho => exact a_range h ho hd hq
  case h_9 x ho => exact a_next h ho hd hq
  case h_10 x ho => exact a_entry h ho hd hq
  case h_11 t ho => exact a_makeMap h ho hd hq0
  case h_12 t m k x ho => exact updK_sound h (by simp [execOp, ho]) (fun _ e => by rw [ho] at e; cases e) hd hq
  case h_13 t m k x ho => exact updK_sound h (by simp [execOp, ho]) (fun _ e => by rw [ho] at e; cases e) hd hq
  case h_14 fn first caps ho => exact a_makeFunc h ho hd hq0
  case h_15 k ho =>
    split at hq
    · rename_i hc
      split at hq
      · rename_i x y t u hargs htys
        obtain ⟨rfl, hq⟩ := hq
        exact appK_sound h ho hc (by rw [← Array.toArray_toList (xs := k.args), hargs]) (by rw [← Array.toArray_toList (xs := k.argTypes), htys]) hd hq
      · exact hq.elim
    · rename_i f hc
      split at hq
      · rename_i g caps he
        exact callK_sound h ho hc he hd hq
      · rename_i g caps he
        exact clo_sound h ho hc he hd hq
      · exact hq c β a w rfl rfl h hd
      · exact hq.elim
    · exact a_quiet h hd (opQ_sound h hq)
  case h_16 => exact a_quiet h hd (opQ_sound h hq)
theorem opA_sound (h : Sim c σ β a w) (hd : ∀ d, o.dst = some d → d < c.N) (hq : opA c.P c.gl o σ K) : Run c.P o a w (AOut c a o K) := by
  unfold opA at hq
  split at hq
  · exact hq c β a w rfl rfl h hd
  · exact opA0_sound h hd hq
end
end Go.VC
