import Derived.Maps.RangeRun
import Derived.TacticsIn
import Derived.Test.YtapjdpmbgmjjeaaGreatDoorP1
set_option linter.unusedVariables false
set_option linter.unusedSimpArgs false
set_option linter.unnecessarySimpa false
set_option linter.defProp false
set_option maxRecDepth 100000
section
namespace Go.VC
open Go.RowKit
section
variable {c : Cx} {σ : S} {β : Nat → Value} {a : Act} {w : World} {o : Oper} {K : S → Prop}
theorem rowK_sound : ∀ (parts : List (Nat × Operand)) {σ : S} (h : Sim c σ β a w) {K : S → List (Nat × A) → Prop} {pre : List (Nat × Value)} {acc : List (Nat × A)}, F2 (fun p q => p.1 = q.1 ∧ RelA (stF c σ β w) w p.2 q.2) pre acc → rowK σ c.gl parts acc K →
  ∃ σ' ps, Sim c σ' β a w ∧ F2 (fun p q => p.1 = q.1 ∧ RelA (stF c σ' β w) w p.2 q.2) (pre.reverse ++ parts.map fun x => (x.1, a.eval x.2)) ps ∧ K σ' ps
 | [], σ, h, K, pre, acc, hp, hk => by
  refine ⟨σ, acc.reverse, h, ?_, hk⟩
  rw [List.map_nil, List.append_nil]
  refine ⟨by simp [hp.1], fun i u x hu hx => ?_⟩
  have hl := hp.1
  have hi := (List.getElem?_eq_some_iff.1 hu).1
  rw [List.length_reverse] at hi
  rw [List.getElem?_reverse hi] at hu
  rw [List.getElem?_reverse (by rw [← hl]; exact hi), ← hl] at hx
  exact hp.2 _ u x hu hx
 | (i, x) :: parts, σ, h, K, pre, acc, hp, hk => by
  simp only [rowK] at hk
  split at hk
  ·rename_i y hy
   obtain ⟨hlow, hk⟩ := hk
   obtain ⟨hs, hst, hrel⟩ := rest1_sound h (h.eval x) hy hlow
   have H : ∀ b, stF c σ β w b → stF c (σ.rest1 (σ.eval c.gl x)) β w b ∧ w.heap[b]? = w.heap[b]? := fun b hb => ⟨hst b hb, rfl⟩
   obtain ⟨σ', ps, h1, h2, h3⟩ := rowK_sound parts hs (pre := (i, a.eval x) :: pre) (acc := (i, y) :: acc) (F2.cons ⟨rfl, hrel⟩ (hp.mono fun _ _ hr => ⟨hr.1, hr.2.mono H⟩)) hk
   exact ⟨σ', ps, h1, by simpa using h2, h3⟩
  ·exact hk.elim
theorem a_build {t : TypeId} {parts : Array (Nat × Operand)} (h : Sim c σ β a w) (ho : o.op = .build t parts) (hd : ∀ d, o.dst = some d → d < c.N) (hq : opA0 c.P c.gl o σ K) : Run c.P o a w (AOut c a o K) := by
 have hdf : ∀ c : Call, o.op ≠ .defer c := fun _ e => by rw [ho] at e; cases e
 simp only [opA0, ho] at hq
 obtain ⟨σ', ps, hs, hps, hk⟩ := rowK_sound parts.toList h (pre := []) (acc := []) F2.nil hq
 split at hk
 ·rename_i ti offs hti ht
  obtain ⟨hz1, hoffs, hk⟩ := hk
  split at hk
  ·rename_i ds hfill
   obtain ⟨z, hz, hzz⟩ := run_zero (w := w) hti
   obtain ⟨fds, hu, rfl⟩ := tk_struct ht
   have hplaces : (fds.mapM fun f => do pure (f.offset, ← sizeOf f.type) : Sem (Array (Nat × Nat))).run c.P w = .ok (fds.toList.map fun f => (f.offset, ((c.P.info? f.type).map (·.size)).getD 0)).toArray w := by
    have hall : ∀ f ∈ fds.toList, (c.P.info? f.type).isSome = true := fun f hf => by
     have := List.all_eq_true.1 hoffs _ (List.mem_map.2 ⟨f, hf, rfl⟩)
     cases hi : c.P.info? f.type with
     | none => rw [hi] at this; simp at this
     | some i => rfl
    refine run_mapM_arr _ _ fun f hf => ?_
    obtain ⟨i, hi⟩ := Option.isSome_iff_exists.1 (hall f hf)
    simp [sizeOf, run_info hi, hi]
   obtain ⟨cells', hfl, hrel⟩ := fill_rel (place := fun i => ((fds.toList.map fun f => (f.offset, ((c.P.info? f.type).map (·.size)).getD 0)).toArray)[i]?) ps (parts := parts.toList.map fun x => (x.1, a.eval x.2)) (cells := z.cells) (ds := ti.z.map cellD) (ds' := ds) (st := stF c σ' β w) (by simpa using hps) (zero_rel (t := t) hzz hz1) (by
    rw [← hfill]
    congr 1
    funext i
    simp only [List.getElem?_toArray, List.getElem?_map, Option.map_map]
    congr 1)
   refine Run.val (v := .agg cells') (w' := w) hdf ?_ ⟨_, β, hk, hs.put hd (.a ⟨cells'.toList, rfl, hrel⟩)⟩
   simp only [execOp, ho, Instr.build, Sem.run_bind, hz, Result.andThen_ok, run_under hu, hplaces]
   have e1 : (parts.map fun (x : Nat × Operand) => (x.1, a.eval x.2)).toList = parts.toList.map fun x => (x.1, a.eval x.2) := by simp
   rw [e1, hfl]
   rfl
  ·exact hk.elim
 ·exact hk.elim
theorem flat_rows {α : Type} (n sz : Nat) (l : List α) (h : l.length = n * sz) : ((List.range n).map fun i => (l.drop (i * sz)).take sz).flatten = l := by
 induction n generalizing l with
 | zero => simp at h; subst h; rfl
 | succ n ih =>
  rw [List.range_succ_eq_map, List.map_cons, List.flatten_cons, List.map_map]
  have := ih (l.drop sz) (by simp [h, Nat.add_mul])
  simp only [Nat.zero_mul, List.drop_zero]
  have e : (List.range n).map ((fun i => (l.drop (i * sz)).take sz) ∘ Nat.succ) = (List.range n).map fun i => ((l.drop sz).drop (i * sz)).take sz := List.map_congr_left fun i _ => by
   simp [Function.comp, List.drop_drop, Nat.succ_mul, Nat.add_comm]
  rw [e, this, List.take_append_drop]
theorem a_build0 {t : TypeId} {parts : Array (Nat × Operand)} (h : Sim c σ β a w) (ho : o.op = .buildSlice t 0 parts) (hd : ∀ d, o.dst = some d → d < c.N) (hq : opA0 c.P c.gl o σ K) : Run c.P o a w (AOut c a o K) := by
 have hdf : ∀ c : Call, o.op ≠ .defer c := fun _ e => by rw [ho] at e; cases e
 simp only [opA0, ho, if_true] at hq
 obtain ⟨hp, hq⟩ := hq
 have hp : parts = #[] := by rw [← Array.toArray_toList (xs := parts), hp]
 subst hp
 split at hq
 ·rename_i e d ht hdst
  split at hq
  ·rename_i ti hti
   obtain ⟨i, u, z, hi, hu, hz, rfl⟩ := tinf_info hti
   have hs := h.new (o := d) (x := .log e i.size []) (bv := .slice (some ⟨w.heap.size, 0, none⟩) 0 0) (w' := w.alloc (.cells #[] e)) (Keep.alloc _ _ _) (fun b hb => by cases hb)
    ⟨[], .inr ⟨rfl, rfl, _, rfl⟩, F2.nil, fun x hx => by simp at hx⟩
   refine Run.val (v := .slice (some ⟨w.heap.size, 0, none⟩) 0 0) (w' := w.alloc (.cells #[] e)) hdf ?_ ⟨_, upd β d (.slice (some ⟨w.heap.size, 0, none⟩) 0 0), hq, ?_⟩
   ·have h0 : Array.map (fun _ : Nat => (default : Value)) (Array.range 0) = #[] := Array.eq_empty_of_size_eq_zero (by simp)
    simp [execOp, ho, Instr.buildSlice, run_underlying (tk_slice ht), sizeOf, run_info hi, Instr.fill, newRow, h0]
   ·rw [hdst]
    exact hs.put (fun d' e => hd d' (hdst.trans e)) (.own (by simp [upd]) rfl)
  ·exact hq.elim
 ·exact hq.elim
theorem a_buildSlice1 {t : TypeId} {len : Nat} {parts : Array (Nat × Operand)} (h : Sim c σ β a w) (ho : o.op = .buildSlice t len parts) (hd : ∀ d, o.dst = some d → d < c.N) (hl0 : ¬ len = 0) (hq : opA0 c.P c.gl o σ K) : Run c.P o a w fun v w' => (∃ p, v = .slice p len len) ∧ AOut c a o K v w' := by
 have hdf : ∀ c : Call, o.op ≠ .defer c := fun _ e => by rw [ho] at e; cases e
 simp only [opA0, ho, if_neg hl0] at hq
 obtain ⟨σ', ps, hs, hps, hk⟩ := rowK_sound parts.toList h (pre := []) (acc := []) F2.nil hq
 split at hk
 ·rename_i e d ht hdst
  split at hk
  ·rename_i ti hti
   obtain ⟨hz1, hsz, hzl, hlim, hne, hk⟩ := hk
   split at hk
   ·rename_i ds hfill
    obtain ⟨z, hz, hzz⟩ := run_zero (w := w) hti
    have hzs : z.cells.size = ti.sz := by rw [← hzl, hzz]; simp
    have hrep : ((Array.range (len * ti.sz)).map (z.cells[· % z.cells.size]!)).toList = (List.replicate len z.cells.toList).flatten := by
     rw [hzs]
     apply List.ext_getElem?
     intro k
     have hfl : (List.replicate len z.cells.toList).flatten.length = len * ti.sz := by simp [hzs]
     by_cases hk : k < len * ti.sz
     ·have hmod : k % ti.sz < ti.sz := Nat.mod_lt _ hsz
      have hdiv : k / ti.sz < len := by rw [Nat.div_lt_iff_lt_mul hsz]; exact hk
      have h1 : ∀ (n k : Nat), k < n * ti.sz → (List.replicate n z.cells.toList).flatten[k]? = z.cells.toList[k % ti.sz]? := by
       intro n
       induction n with
       | zero => intro k hk; omega
       | succ n ih =>
        intro k hk
        rw [List.replicate_succ, List.flatten_cons, List.getElem?_append]
        have hl : z.cells.toList.length = ti.sz := by simpa using hzs
        rw [hl]
        split
        ·rename_i hlt; rw [Nat.mod_eq_of_lt hlt]
        ·rename_i hge
         rw [ih (k - ti.sz) (by rw [Nat.add_mul] at hk; omega), ← Nat.mod_eq_sub_mod (by omega)]
      rw [h1 len k hk]
      simp only [Array.toList_map, List.getElem?_map, Array.toList_range, List.getElem?_range hk, Option.map_some]
      rw [getElem!_pos z.cells (k % ti.sz) (by omega)]
      simp [hzs, hmod]
     ·rw [List.getElem?_eq_none (by simp; omega), List.getElem?_eq_none (by rw [hfl]; omega)]
    have hzrel : F2 (Rd (stF c σ' β w) w) ((Array.range (len * ti.sz)).map (z.cells[· % z.cells.size]!)).toList (List.replicate len (ti.z.map cellD)).flatten := by
     rw [hrep]
     have h0 := zero_rel (st := stF c σ' β w) (w := w) (t := e) hzz hz1
     generalize len = n
     induction n with
     | zero => exact F2.nil
     | succ n ih => rw [List.replicate_succ, List.replicate_succ, List.flatten_cons, List.flatten_cons]; exact h0.append ih
    obtain ⟨cells', hfl, hrel⟩ := fill_rel (place := fun i => some (i * ti.sz, ti.sz)) ps (parts := parts.toList.map fun x => (x.1, a.eval x.2)) (by simpa using hps) hzrel hfill
    have hfsz : ∀ (ps : List (Nat × A)) (ds ds' : List D), fillD (fun i => some (i * ti.sz, ti.sz)) ds ps = some ds' → ds'.length = ds.length := by
     intro ps
     induction ps with
     | nil => intro ds ds' h; cases h; rfl
     | cons p ps ih =>
      intro ds ds' h
      simp only [fillD] at h
      split at h
      ·rename_i hc
       rw [ih _ _ h]
       split
       ·simp
       ·simp only [List.length_append, List.length_take, List.length_drop]; omega
      ·cases h
    have hdl : ds.length = len * ti.sz := by rw [hfsz _ _ _ hfill]; simp [hzl]
    have hcl : cells'.size = len * ti.sz := by rw [← hdl]; simpa using hrel.1
    have hrows : ∀ x ∈ (List.range len).map fun i => (ds.drop (i * ti.sz)).take ti.sz, x.length = ti.sz := by
     intro x hx
     obtain ⟨i, hi, rfl⟩ := List.mem_map.1 hx
     have hi' : i + 1 ≤ len := List.mem_range.1 hi
     have := Nat.mul_le_mul_right ti.sz hi'
     rw [Nat.add_mul] at this
     simp [hdl]; omega
    have hn : ∀ b, ownB (.slice (some ⟨w.heap.size, 0, none⟩) len len) = some b → w.heap.size ≤ b ∨ ∃ y, σ'.mem d = some y ∧ ownB (β d) = some b := fun b hb => by
     cases len with
     | zero => cases hb
     | succ k => cases hb; exact .inl (Nat.le_refl _)
    have hs2 := hs.new (o := d) (x := .log e ti.sz ((List.range len).map fun i => (ds.drop (i * ti.sz)).take ti.sz)) (bv := .slice (some ⟨w.heap.size, 0, none⟩) len len) (w' := w.alloc (.cells cells' e)) (Keep.alloc _ _ _) hn
     ⟨cells'.toList, .inl ⟨by simp [hcl], .inr ⟨w.heap.size, len, cells', by simp, Nat.zero_le _, heap_alloc_new _ _, by simp, by
      have : len ≤ len * ti.sz := Nat.le_mul_of_pos_right _ hsz
      simp only [maxLen]; omega, hcl, by rw [List.take_of_length_le (by simp [hcl])]⟩⟩, by
      rw [flat_rows len ti.sz ds hdl]
      exact hrel.mono fun _ _ => Rd.mono fun b hb => ⟨st_new (by simp) (fun b hb => _root_.Go.heap_alloc_old _ _ b hb.1) hn hb, _root_.Go.heap_alloc_old _ _ b hb.1⟩, hrows⟩
    refine Run.val (v := .slice (some ⟨w.heap.size, 0, none⟩) len len) (w' := w.alloc (.cells cells' e)) hdf ?_ ⟨⟨_, rfl⟩, _, upd β d (.slice (some ⟨w.heap.size, 0, none⟩) len len), hk, ?_⟩
    ·have hlim' : ¬ (len * ti.sz > 2 ^ 24) := by omega
     have hnz : ¬ (len * ti.sz = 0) := by
      have := Nat.mul_pos (Nat.pos_of_ne_zero hne) hsz; omega
     simp only [execOp, ho, Instr.buildSlice, Sem.run_bind, run_under (tk_slice ht), Result.andThen_ok, run_size hti]
     rw [if_neg hlim', if_neg hnz]
     simp only [Sem.run_bind, hz, Result.andThen_ok, Sem.run_pure]
     have e1 : (parts.map fun (x : Nat × Operand) => (x.1, a.eval x.2)).toList = parts.toList.map fun x => (x.1, a.eval x.2) := by simp
     rw [e1, hfl]
     simp [newRow]
    ·rw [hdst]
     exact hs2.put (fun d' e => hd d' (hdst.trans e)) (.own (by simp [upd]) rfl)
   ·exact hk.elim
  ·exact hk.elim
 ·exact hk.elim
theorem a_buildSlice {t : TypeId} {len : Nat} {parts : Array (Nat × Operand)} (h : Sim c σ β a w) (ho : o.op = .buildSlice t len parts) (hd : ∀ d, o.dst = some d → d < c.N) (hq : opA0 c.P c.gl o σ K) : Run c.P o a w (AOut c a o K) := by
 by_cases hl0 : len = 0
 ·subst hl0; exact a_build0 h ho hd hq
 exact (a_buildSlice1 h ho hd hl0 hq).mono fun _ _ h => h.2
theorem allDA_inv {as : List A} {ds : List D} (h : allDA as = some ds) : as = ds.map A.d := by
 induction as generalizing ds with
 | nil => cases h; rfl
 | cons x xs ih =>
  cases x with
  | d x =>
   obtain ⟨ds', h1, rfl⟩ := Option.map_eq_some_iff.1 h
   rw [ih h1]; rfl
  | ag _ => cases h
theorem a_makeFunc {fn : Fn} {first caps : Array Operand} (h : Sim c σ β a w) (ho : o.op = .makeFunc fn first caps) (hd : ∀ d, o.dst = some d → d < c.N) (hq : opA0 c.P c.gl o σ K) : Run c.P o a w (AOut c a o K) := by
 have hdf : ∀ c : Call, o.op ≠ .defer c := fun _ e => by rw [ho] at e; cases e
 simp only [opA0, ho] at hq
 split at hq
 ·rename_i f hf
  obtain ⟨cs, hcs⟩ : ∃ cs, caps.toList = cs := ⟨_, rfl⟩
  rw [hcs] at hq
  have hfirst : first = #[] := by rw [← Array.toArray_toList (xs := first), hf]
  have hv : F2 (RelR β (stF c σ β w) w) (cs.map a.eval) (cs.map (σ.eval c.gl)) := ⟨by simp, fun i u r hu hr => by
   simp only [List.getElem?_map, Option.map_eq_some_iff] at hu hr
   obtain ⟨x, hx, rfl⟩ := hu
   obtain ⟨y, hy, rfl⟩ := hr
   rw [hx] at hy; cases hy
   exact h.eval x⟩
  obtain ⟨σ', as, hs, hst, hrel, hk⟩ := rest_sound (cs.map (σ.eval c.gl)) h (vs := cs.map a.eval) (avs := []) (acc := []) hv F2.nil hq
  split at hk
  ·rename_i ds hds
   have has := allDA_inv hds
   refine Run.val (v := .func (.func f) #[] (cs.map a.eval).toArray) (w' := w) hdf ?_ ⟨_, β, hk, hs.put hd (.a (Rd.fn (by simpa [has] using hrel.1) fun j d v hj hv' => ?_))⟩
   ·have hcap : caps.map a.eval = (cs.map a.eval).toArray := by rw [← hcs]; simp [← Array.toList_map]
    simp [execOp, ho, hfirst, Instr.makeFunc, hcap]
   ·exact hrel.2 j v (.d d) (by simpa using hv') (by rw [has]; simp [hj])
  ·exact hk.elim
 ·exact hq.elim
theorem a_assign {x : Operand} (h : Sim c σ β a w) (ho : o.op = .assign x) (hd : ∀ d, o.dst = some d → d < c.N) (hq : opA0 c.P c.gl o σ K) : Run c.P o a w (AOut c a o K) := by
 have hdf : ∀ c : Call, o.op ≠ .defer c := fun _ e => by rw [ho] at e; cases e
 simp only [opA0, ho] at hq
 split at hq
 ·rename_i d hdst
  split at hq
  ·rename_i e ht
   split at hq
   ·rename_i ti hti
    have hs := h.new (o := d) (x := .log e ti.sz []) (bv := .slice none 0 0) (w' := w) ((Keep.refl _ _)) (fun b hb => by cases hb) ⟨[], .inl (World.ownsRow_nil _ _ _ _), F2.nil, by simp⟩
    refine Run.val (v := .slice none 0 0) (w' := w) hdf (by simp [execOp, ho, Act.eval]) ⟨_, upd β d (.slice none 0 0), hq, ?_⟩
    rw [hdst]
    exact hs.put (fun d' e => hd d' (hdst.trans e)) (.own (by simp [upd]) rfl)
   ·exact hq.elim
  ·exact hq.elim
 ·exact a_quiet h hd (opQ_sound h hq)
theorem fresh_count {n : Nat} : ∀ {res : List Rv} {id : Nat}, freshOf id res = none → ∀ r ∈ res, r.isFresh = false
 | [], _, _ => by simp
 | .a x :: rs, id, h => by simpa [Rv.isFresh] using fresh_count (n := n) (res := rs) (id := id + 1) h
 | .clip xs :: rs, id, h => by simpa [Rv.isFresh] using fresh_count (n := n) (res := rs) (id := id + 1) h
 | .fresh _ _ _ :: rs, id, h => by cases h
theorem fresh_at : ∀ {res : List Rv} {id k : Nat} {e : TypeId} {z : Nat} {xs : List (List D)}, freshOf id res = some (k, e, z, xs) → ∃ i, k = id + i ∧ res[i]? = some (.fresh e z xs) ∧ i < res.length
 | [], _, _, _, _, _, h => by cases h
 | .a x :: rs, id, k, e, z, xs, h => by
  obtain ⟨i, h1, h2, h3⟩ := fresh_at (res := rs) (id := id + 1) h
  exact ⟨i + 1, by omega, by simpa using h2, by simpa using h3⟩
 | .clip _ :: rs, id, k, e, z, xs, h => by
  obtain ⟨i, h1, h2, h3⟩ := fresh_at (res := rs) (id := id + 1) h
  exact ⟨i + 1, by omega, by simpa using h2, by simpa using h3⟩
 | .fresh e' z' xs' :: rs, id, k, e, z, xs, h => by
  cases h
  exact ⟨0, rfl, rfl, by simp⟩
theorem fresh_one {res : List Rv} (h : (res.filter Rv.isFresh).length ≤ 1) {i j : Nat} {r r' : Rv} (hi : res[i]? = some r) (hj : res[j]? = some r') (h1 : r.isFresh = true) (h2 : r'.isFresh = true) : i = j := by
 induction res generalizing i j with
 | nil => simp at hi
 | cons x xs ih =>
  have nof : x.isFresh = true → ∀ (k : Nat) (y : Rv), xs[k]? = some y → y.isFresh = true → False := fun hx k y hk hy => by
   rw [List.filter_cons_of_pos hx, List.length_cons] at h
   have h0 : xs.filter Rv.isFresh = [] := List.eq_nil_of_length_eq_zero (by omega)
   have hm : y ∈ xs.filter Rv.isFresh := List.mem_filter.2 ⟨List.mem_of_getElem? hk, hy⟩
   rw [h0] at hm; cases hm
  have h' : (xs.filter Rv.isFresh).length ≤ 1 := Nat.le_trans ((List.sublist_cons_self x xs).filter _).length_le h
  cases i with
  | zero =>
   simp at hi; subst hi
   cases j with
   | zero => rfl
   | succ j => exact (nof h1 j r' (by simpa using hj) h2).elim
  | succ i =>
   cases j with
   | zero =>
    simp at hj; subst hj
    exact (nof h2 i r (by simpa using hi) h1).elim
   | succ j => exact congrArg (· + 1) (ih h' (i := i) (j := j) (by simpa using hi) (by simpa using hj))
theorem regs_at : ∀ {res : List Rv} {id i : Nat} {r : R}, (regsOf id res)[i]? = some r → ∃ rv, res[i]? = some rv ∧ r = (match rv with | .a x => .a x | .clip xs => .cs xs | .fresh _ _ _ => .own (id + i))
 | [], _, i, r, h => by simp [regsOf] at h
 | rv :: rs, id, 0, r, h => by cases rv <;> (simp [regsOf] at h; subst h; exact ⟨_, rfl, rfl⟩)
 | rv :: rs, id, i + 1, r, h => by
  have h' : (regsOf (id + 1) rs)[i]? = some r := by cases rv <;> simpa [regsOf] using h
  obtain ⟨rv', h1, h2⟩ := regs_at h'
  refine ⟨rv', by simpa using h1, ?_⟩
  rw [h2]
  cases rv' <;> simp [Nat.add_assoc, Nat.add_comm 1]
theorem regs_len : ∀ {res : List Rv} {id : Nat}, (regsOf id res).length = res.length
 | [], _ => rfl
 | rv :: rs, id => by cases rv <;> simp [regsOf, regs_len]
theorem one_rel {β : Nat → Value} {st : Nat → Prop} {w : World} {us : List Value} {rs : List R} (h : F2 (RelR β st w) us rs) : RelR β st w (retV us) (one rs) := by
 match us, rs, h.1 with
 | [u], [r], _ => exact h.2 0 u r rfl rfl
 | [], [], _ => exact .tp rfl fun j v r hj => by simp at hj
 | u :: v :: us, r :: s :: rs, hl => exact .tp (vs := u :: v :: us) hl fun j v r hv hr => h.2 j v r hv hr
theorem ret_sound (h : Sim c σ β a w) (hd : ∀ d, o.dst = some d → d < c.N) {st : Nat → Prop} {w' : World} {us : List Value} {res : List Rv} (hkeep : Keep (fun _ => False) w w')
  (hst : ∀ b, st b ∧ b < w.heap.size → stF c σ β w b) (hres : F2 (RelV (newSt st w w' us res) w' w.heap.size) us res)
  (hdis : ∀ (i j : Nat) (u u' : Value) (r r' : Rv) (b : Nat), us[i]? = some u → us[j]? = some u' → res[i]? = some r → res[j]? = some r' → r.isFresh = true → r'.isFresh = true → ownB u = some b → ownB u' = some b → i = j)
  (hk : σ.ret o.dst res K) : ∃ σ' β', K σ' ∧ Sim c σ' β' (a.put o.dst (retV us)) w' := by
 unfold S.ret at hk
 split at hk
 ·rename_i hdst
  exact ⟨σ, β, hk, by rw [hdst]; exact (h.grow hkeep).1⟩
 ·rename_i d hdst
  obtain ⟨hone, hid, hk⟩ := hk
  have hdN : ∀ d', some d = some d' → d' < c.N := fun d' e => hd d' (hdst.trans e)
  split at hk
  ·rename_i hfr
   refine ⟨_, β, hk, ?_⟩
   rw [hdst]
   have H : ∀ b, newSt st w w' us res b → stF c σ β w' b ∧ w'.heap[b]? = w'.heap[b]? := fun b hb => ⟨by
    rcases hb with hb | ⟨h1, h2, h3, h5⟩
    ·exact ⟨Nat.lt_of_lt_of_le hb.2 hkeep.size, (hst b hb).2.1, (hst b hb).2.2.1, (hst b hb).2.2.2.same (hkeep.block b hb.2 id)⟩
    ·exact ⟨h2, fun h4 => absurd (Nat.lt_of_lt_of_le h4 h.keep.size) (Nat.not_lt.2 h1), fun o x ho e => Nat.lt_irrefl _ (Nat.lt_of_lt_of_le ((h.obj o x ho).lt e) h1), h5⟩, rfl⟩
   refine (h.grow hkeep).1.put hdN (one_rel ⟨by rw [regs_len]; exact hres.1, fun i u r hu hr => ?_⟩)
   obtain ⟨rv, hrv, rfl⟩ := regs_at hr
   have hv := hres.2 i u rv hu hrv
   cases rv with
   | a x => exact .a (RelA.mono H hv)
   | clip xs => obtain ⟨p, k, rfl, hr⟩ := hv; exact .cs (hr.mono H)
   | fresh e z xs => exact absurd (fresh_count (n := 0) hfr _ (List.mem_of_getElem? hrv)) (by simp [Rv.isFresh])
  ·rename_i id e z xs hfr
   obtain ⟨i0, hid0, hi0, hlt0⟩ := fresh_at hfr
   obtain ⟨u0, hu0, ⟨⟨cells, hrow, hf, hall⟩, hnew⟩⟩ : ∃ u0, us[i0]? = some u0 ∧ RelV (newSt st w w' us res) w' w.heap.size u0 (.fresh e z xs) := by
    obtain ⟨u0, h1, h2⟩ := hres.get hi0
    exact ⟨u0, h1, h2⟩
   have hn : ∀ b, ownB u0 = some b → w.heap.size ≤ b ∨ ∃ y, σ.mem id = some y ∧ ownB (β id) = some b := fun b hb => .inl (hnew b hb)
   have H : ∀ b, newSt st w w' us res b → stF c (σ.newOb id (.log e z xs)) (upd β id u0) w' b ∧ w'.heap[b]? = w'.heap[b]? := fun b hb => ⟨by
    rcases hb with hb | ⟨h1, h2, h3, h5⟩
    ·exact st_new hkeep.size (fun b hb => hkeep.block b hb.1 fun h => h) hn (hst b hb)
    ·refine ⟨h2, fun h4 => absurd (Nat.lt_of_lt_of_le h4 h.keep.size) (Nat.not_lt.2 h1), fun o x ho e' => ?_, h5⟩
     by_cases eo : o = id
     ·subst eo
      simp only [upd, if_true] at e'
      exact h3 ⟨i0, u0, _, hu0, hi0, rfl, e'⟩
     ·simp only [S.newOb, upd, if_neg eo] at ho e'
      obtain ⟨y, hy, _⟩ := Option.map_eq_some_iff.1 ho
      exact Nat.lt_irrefl _ (Nat.lt_of_lt_of_le ((h.obj o y hy).lt e') h1), rfl⟩
   have hs := h.new (o := id) (x := .log e z xs) (bv := u0) (w' := w') (hkeep.mono fun _ hf => hf.elim) hn ⟨cells, hrow, hf.mono fun _ _ => Rd.mono H, hall⟩
   refine ⟨_, upd β id u0, hk, ?_⟩
   rw [hdst]
   refine hs.put hdN (one_rel ⟨by rw [regs_len]; exact hres.1, fun i u r hu hr => ?_⟩)
   obtain ⟨rv, hrv, rfl⟩ := regs_at hr
   have hv := hres.2 i u rv hu hrv
   cases rv with
   | a x => exact .a (RelA.mono H hv)
   | clip xs => obtain ⟨p, k, rfl, hr⟩ := hv; exact .cs (hr.mono H)
   | fresh e' z' xs' =>
    have hii := fresh_one hone hrv hi0 rfl rfl
    subst hii
    rw [hu0] at hu; cases hu
    have h1 : u0.oneCell' = true := by
     rcases hrow with hr | ⟨_, _, p, rfl⟩
     ·rcases hr.2 with ⟨rfl, _⟩ | ⟨g, cap, cur, rfl, _⟩ <;> rfl
     ·rfl
    refine .own ?_ h1
    rw [hid0]; simp [upd]
theorem callK_sound {k : Call} {f : Operand} {g : FuncId} {caps : List D} (h : Sim c σ β a w) (ho : o.op = .call k) (hc : k.callee = .value f) (hf : σ.eval c.gl f = .a (.d (.fn g caps))) (hd : ∀ d, o.dst = some d → d < c.N)
  (hq : callK c.P c.gl g (k.args.toList.map (σ.eval c.gl) ++ caps.map fun d => .a (.d d)) o.dst σ K) : Run c.P o a w (AOut c a o K) := by
 have hdf : ∀ c : Call, o.op ≠ .defer c := fun _ e => by rw [ho] at e; cases e
 have hfv := h.eval f
 rw [hf] at hfv
 obtain ⟨cvs, hcv, hcl, hcd⟩ : ∃ cvs : List Value, a.eval f = .func (.func g) #[] cvs.toArray ∧ cvs.length = caps.length ∧ ∀ (j : Nat) (d : D) (v : Value), caps[j]? = some d → cvs[j]? = some v → Rd (stF c σ β w) w v d := by
  have := hfv.inv_d
  generalize a.eval f = v at this
  cases this with
  | fn hl hd => exact ⟨_, rfl, hl, hd⟩
 have hvs : F2 (RelR β (stF c σ β w) w) (k.args.toList.map a.eval ++ cvs) (k.args.toList.map (σ.eval c.gl) ++ caps.map fun d => .a (.d d)) := by
  refine F2.append ⟨by simp, fun i u r hu hr => ?_⟩ ⟨by simp [hcl], fun i u r hu hr => ?_⟩
  ·simp only [List.getElem?_map, Option.map_eq_some_iff] at hu hr
   obtain ⟨x, hx, rfl⟩ := hu
   obtain ⟨y, hy, rfl⟩ := hr
   rw [hx] at hy; cases hy
   exact h.eval x
  ·simp only [List.getElem?_map, Option.map_eq_some_iff] at hr
   obtain ⟨d, hd, rfl⟩ := hr
   exact .a (hcd i d u hd hu)
 rcases hq with ⟨as, res, hargs, ⟨hok, hh⟩, hflat, hk⟩ | ⟨res, hk⟩ | ⟨hok, hh⟩
 ·refine Run.call hdf (call_run hc ho hcv hok) ((hh (fun _ => True) w _ (h.env.mono fun _ _ => ⟨trivial, rfl⟩) (argsA_rel h hargs hvs)).mono ?_)
  rintro e w' ⟨us, rfl, hkeep, hres, hdis⟩
  have hres' : F2 (RelV (newSt (fun _ => False) w w' us res) w' w.heap.size) us res := ⟨hres.1, fun i u r hu hr => by
   have h1 := hres.2 i u r hu hr
   have h2 := List.all_eq_true.1 hflat r (List.mem_of_getElem? hr)
   cases r with
   | a x => exact A.flat_rel h2 h1
   | clip _ => cases h2
   | fresh _ _ _ => cases h2⟩
  obtain ⟨σ', β', h1, h2⟩ := ret_sound (o := o) h hd hkeep (fun b hb => hb.1.elim) hres' hdis hk
  exact ⟨_, rfl, σ', β', h1, h2⟩
 ·obtain ⟨σ', as, hs, hst, hrel, ⟨hok, hh⟩, hk⟩ := rest_sound _ h (avs := []) (acc := []) hvs F2.nil hk
  refine Run.call hdf (call_run hc ho hcv hok) ((hh (stF c σ' β w) w _ hs.env (by simpa using hrel)).mono ?_)
  rintro e w' ⟨us, rfl, hkeep, hres, hdis⟩
  obtain ⟨σ'', β', h1, h2⟩ := ret_sound (o := o) hs hd hkeep (fun b hb => hb.1) hres hdis hk
  exact ⟨_, rfl, σ'', β', h1, h2⟩
 ·refine Run.call hdf (call_run hc ho hcv hok) ((hh c β a w _ rfl rfl h hvs).mono ?_)
  rintro e w' ⟨us, rs', σ', β', rfl, hs, hres, hk⟩
  refine ⟨_, rfl, σ'.put o.dst (one rs'), β', hk, hs.put hd ?_⟩
  rcases rs' with _ | ⟨r, _ | ⟨r2, rs⟩⟩
  ·obtain rfl := hres.of_nil
   exact .tp (vs := []) rfl fun j v r hv => by simp at hv
  ·obtain ⟨u, s, rfl, hr, hs'⟩ := hres.of_cons
   obtain rfl := hs'.of_nil
   exact hr
  ·obtain ⟨u, s, rfl, hr, hs'⟩ := hres.of_cons
   obtain ⟨u2, s2, rfl, hr2, hs2⟩ := hs'.of_cons
   exact .tp hres.1 fun j v r hv hr => hres.2 j v r hv hr
theorem a_makeMap {t : TypeId} (h : Sim c σ β a w) (ho : o.op = .makeMap t none) (hd : ∀ d, o.dst = some d → d < c.N) (hq : opA0 c.P c.gl o σ K) : Run c.P o a w (AOut c a o K) := by
 have hdf : ∀ c : Call, o.op ≠ .defer c := fun _ e => by rw [ho] at e; cases e
 simp only [opA0, ho] at hq
 split at hq
 ·rename_i d z hdst hz
  have hs := h.new (o := d) (x := .mpo []) (bv := .map (some w.heap.size)) (w' := w.alloc (.map #[] 0)) (Keep.alloc _ _ _) (fun b hb => by cases hb; exact .inl (Nat.le_refl _))
   ⟨w.heap.size, 0, #[], fun _ => undef, rfl, heap_alloc_new w _, rfl, MapKept.stamped_empty 0, fun i e p he => by simp at he, fun i p hp => by simp at hp⟩
  refine Run.val (v := .map (some w.heap.size)) (w' := w.alloc (.map #[] 0)) hdf ?_ ⟨_, upd β d (.map (some w.heap.size)), hq, ?_⟩
  ·have hr : (Instr.makeMap t none).run c.P w = .ok (.map (some w.heap.size)) (w.alloc (.map #[] 0)) := rfl
   simp [execOp, ho, hr]
  ·rw [hdst]
   exact hs.put (fun d' e => hd d' (hdst.trans e)) (.omp (by simp [upd]) rfl)
 ·exact hq.elim
theorem upd_run {t m : TypeId} {r clock : Nat} {es : Array MapEntry} {kv : List (Int × D)} {vs : Nat → Value} {st : Nat → Prop} {n : Int} {x : D} {v : Value} {kt e : TypeId} {P : Program}
  (ht : P.underlying t = some (.map kt e)) (hkt : P.underlying kt = some (.int .i64)) (hb : w.heap[r]? = some (.map es clock)) (hl : es.size = kv.length) (hs : MapKept.Stamped es clock)
  (hk : ∀ (i : Nat) (e : MapEntry) (p : Int × D), es[i]? = some e → kv[i]? = some p → e.key = .int .i64 p.1 ∧ e.val = vs i)
  (hd : ∀ (i : Nat) (p : Int × D), kv[i]? = some p → Rd st w (vs i) p.2) (hv : Rd st w v x) :
  ∃ (es' : Array MapEntry) (clock' : Nat) (vs' : Nat → Value), (Instr.mapUpdate t (.map (some r)) (.int .i64 n) v).run P w = .ok () { w with heap := w.heap.setIfInBounds r (.map es' clock') } ∧ es'.size = (kvSet kv n x).length ∧ MapKept.Stamped es' clock' ∧
   (∀ (i : Nat) (e : MapEntry) (p : Int × D), es'[i]? = some e → (kvSet kv n x)[i]? = some p → e.key = .int .i64 p.1 ∧ e.val = vs' i) ∧
   (∀ (i : Nat) (p : Int × D), (kvSet kv n x)[i]? = some p → Rd st w (vs' i) p.2) := by
 have hkey : MapKept.IsKey (.int .i64) (.int .i64 n) := rfl
 rcases find_kv (n := n) es.toList kv 0 (by simpa using hl) (fun j e p h1 h2 => (hk j e p (by simpa using h1) h2).1) with ⟨h1, h2, h3, h4⟩ | ⟨j, e', p, h1, h2, h3, h4, h5, h6⟩
 ·refine ⟨es.push { key := .int .i64 n, val := v, born := clock }, clock + 1, fun i => if i < es.size then vs i else v, ?_, by simp [h3, hl], MapKept.stamped_push hs h4, fun i e p he hp => ?_, fun i p hp => ?_⟩
  ·simp only [Instr.mapUpdate, Sem.run_bind, run_underlying ht, MapKept.run_getObj_map hb, MapKept.run_checkKey hkt hkey, MapKept.run_findKey hkt h1, MapKept.run_setObj_map _ hb, Result.andThen_ok]
  ·rw [h3] at hp
   rw [Array.getElem?_push] at he
   split at he
   ·rename_i hi
    cases he
    rw [hi, hl, List.getElem?_append_right (Nat.le_refl _)] at hp
    simp at hp
    subst hp
    simp [hi]
   ·rename_i hi
    have hlt := (Array.getElem?_eq_some_iff.1 he).1
    rw [List.getElem?_append_left (by omega)] at hp
    simp only [hlt, if_true]
    exact hk i e p he hp
  ·rw [h3] at hp
   by_cases hi : i < es.size
   ·rw [List.getElem?_append_left (by omega)] at hp
    simp only [hi, if_true]; exact hd i p hp
   ·rw [List.getElem?_append_right (by omega)] at hp
    have : i - kv.length = 0 := by
     have := (List.getElem?_eq_some_iff.1 hp).1
     simp at this; omega
    rw [this] at hp
    simp at hp; subst hp
    simp only [hi, if_false]; exact hv
 ·have hj : es[j]? = some e' := by simpa using h2
  have he'k := (hk j e' p hj h3).1
  rw [h4] at he'k
  have hjl := (List.getElem?_eq_some_iff.1 h3).1
  refine ⟨es.modify j fun e => { e with key := .int .i64 n, val := v }, clock, fun i => if i = j then v else vs i, ?_, by simp [h6, hl], MapKept.stamped_modify hs _ _ (fun _ _ => rfl) (fun e'' _ he'' => ?_), fun i e p' he hp => ?_, fun i p' hp => ?_⟩
  ·simp only [Instr.mapUpdate, Sem.run_bind, run_underlying ht, MapKept.run_getObj_map hb, MapKept.run_checkKey hkt hkey, MapKept.run_findKey hkt h1, Result.andThen_ok, Nat.zero_add, hj, Option.map_some, Option.getD_some, he'k, MapKept.run_keyThatStays hkey, MapKept.run_setObj_map _ hb]
  ·rw [hj] at he''; cases he''; exact he'k.symm
  ·rw [h6] at hp
   rw [Array.getElem?_modify] at he
   by_cases hi : j = i
   ·subst hi
    rw [if_pos rfl, hj] at he
    simp at he; subst he
    rw [List.getElem?_set_self hjl] at hp
    cases hp
    simp
   ·rw [if_neg hi] at he
    rw [List.getElem?_set_ne hi] at hp
    simp only [if_neg (Ne.symm hi)]
    exact hk i e p' he hp
  ·rw [h6] at hp
   by_cases hi : j = i
   ·subst hi
    rw [List.getElem?_set_self hjl] at hp
    cases hp
    simp only [if_true]; exact hv
   ·rw [List.getElem?_set_ne hi] at hp
    simp only [if_neg (Ne.symm hi)]; exact hd i p' hp
theorem updK_sound {t : TypeId} {m k x : Operand} (h : Sim c σ β a w) (ho : execOp a.eval o = (do Instr.mapUpdate t (a.eval m) (a.eval k) (a.eval x); pure .skip)) (hdf : ∀ c : Call, o.op ≠ .defer c)
  (hd : ∀ d, o.dst = some d → d < c.N) (hq : updK c.P c.gl σ t m k x fun σ' => K (σ'.put o.dst .any)) : Run c.P o a w (AOut c a o K) := by
 unfold updK at hq
 split at hq
 ·rename_i ob n z hm hkk hz
  obtain ⟨kt, e, inf, u, ht, hkt, _, _, _, _⟩ := mapT_inv hz
  have hkv := h.eval k
  rw [hkk] at hkv
  have hkv := hkv.inv_v
  have hmv := h.eval m
  rw [hm] at hmv
  have hmb : β ob = a.eval m := by
   generalize a.eval m = mv at hmv ⊢
   cases hmv with | omp e _ => exact e
  obtain ⟨σ', as, hs, hst, hrel, hk⟩ := rest_sound [σ.eval c.gl x] h (vs := [a.eval x]) (avs := []) (acc := []) (F2.cons (h.eval x) F2.nil) F2.nil hq
  split at hk
  ·rename_i y kv hmem
   have hy : Rd (stF c σ' β w) w (a.eval x) y := hrel.2 0 _ (.d y) rfl rfl
   obtain ⟨r, clock, es, vs, hb, hh, hl, hsm, hkk, hdd⟩ := hs.obj _ _ hmem
   obtain ⟨es', clock', vs', hrun, hl', hs', hk', hd'⟩ := upd_run (n := n) (m := t) ht hkt hh hl hsm hkk hdd hy
   have hset := MapKept.heap_set (o' := Obj.map es' clock') hh
   have keep : Keep (fun b => ownB (β ob) = some b) w { w with heap := w.heap.setIfInBounds r (.map es' clock') } := ⟨rfl, rfl, rfl, by simp, fun b _ hb' => hset.2 b fun e => hb' (by rw [hb, e]; rfl)⟩
   have hz := hs.setOb (x := .mpo (kvSet kv n y)) hmem keep ⟨r, clock', es', vs', hb, hset.1, hl', hs', hk', fun i p hp => (hd' i p hp).mono fun b hb' => ?_⟩
   ·refine Run.skip hdf ?_ ⟨_, β, hk, hz.put hd .any⟩
    rw [ho, hkv, ← hmb, hb]
    simp only [Sem.run_bind, hrun, Result.andThen_ok, Sem.run_pure]
   ·have hsame := hset.2 b fun e => hb'.2.2.1 ob _ hmem (by rw [hb, e]; rfl)
    refine ⟨⟨Nat.lt_of_lt_of_le hb'.1 keep.size, hb'.2.1, fun o' y' hy' => ?_, hb'.2.2.2.same hsame⟩, hsame⟩
    by_cases e : o' = ob
    ·subst e; exact hb'.2.2.1 o' _ hmem
    ·simp only [S.setOb, upd, if_neg e] at hy'; exact hb'.2.2.1 o' y' hy'
  ·exact hk.elim
 ·exact hq.elim
theorem a_range {t : TypeId} {x : Operand} (h : Sim c σ β a w) (ho : o.op = .range t x) (hd : ∀ d, o.dst = some d → d < c.N) (hq : rangeK c.P σ t (σ.eval c.gl x) o.dst K) : Run c.P o a w (AOut c a o K) := by
 have hdf : ∀ c : Call, o.op ≠ .defer c := fun _ e => by rw [ho] at e; cases e
 unfold rangeK at hq
 split at hq
 ·rename_i kt et kv d ht hx hdst
  have hv := h.eval x
  rw [hx] at hv
  have hv := hv.inv_d
  generalize hav : a.eval x = v at hv
  have fin : ∀ o1 : Obj, (Instr.range t v).run c.P w = .ok (.pointer (some ⟨w.heap.size, 0, none⟩)) (w.alloc o1) →
    ObRel (upd β d (.pointer (some ⟨w.heap.size, 0, none⟩))) (stF c (σ.newOb d (.iter kv [])) (upd β d (.pointer (some ⟨w.heap.size, 0, none⟩))) (w.alloc o1)) (w.alloc o1) (.pointer (some ⟨w.heap.size, 0, none⟩)) (.iter kv []) →
    Run c.P o a w (AOut c a o K) := fun o1 hrun hob => by
   have hs := h.new (o := d) (x := .iter kv []) (bv := .pointer (some ⟨w.heap.size, 0, none⟩)) (w' := w.alloc o1) (Keep.alloc _ _ _) (fun b hb => by cases hb; exact .inl (Nat.le_refl _)) hob
   refine Run.val (v := .pointer (some ⟨w.heap.size, 0, none⟩)) (w' := w.alloc o1) hdf ?_ ⟨_, upd β d (.pointer (some ⟨w.heap.size, 0, none⟩)), hq, ?_⟩
   ·simp [execOp, ho, hav, hrun]
   ·rw [hdst]
    exact hs.put (fun d' e => hd d' (hdst.trans e)) (.ref (by simp [upd]))
  cases hv with
  | mpn => exact fin _ (run_range_nilMap w t kt et (tk_map ht)) ⟨_, rfl, .inl ⟨rfl, rfl, heap_alloc_new _ _⟩⟩
  | @mp r clock es _ vs hst hb hl hs hk hdd =>
   have H : ∀ b, stF c σ β w b → stF c (σ.newOb d (.iter kv [])) (upd β d (.pointer (some ⟨w.heap.size, 0, none⟩))) (w.alloc (.mapIter (some r) clock #[] clock)) b ∧ (w.alloc (.mapIter (some r) clock #[] clock)).heap[b]? = w.heap[b]? :=
    fun b hb => ⟨st_new (by simp) (fun b hb => _root_.Go.heap_alloc_old w _ b hb.1) (fun b' hb' => by cases hb'; exact .inl (Nat.le_refl _)) hb, _root_.Go.heap_alloc_old w _ b hb.1⟩
   exact fin _ (run_range_map w t kt et r es clock (tk_map ht) hb) ⟨_, rfl, .inr ⟨r, clock, es, vs, #[], (H r hst).1, heap_alloc_new _ _, (H r hst).2.trans hb, hl, hs, hk, fun i p hp => (hdd i p hp).mono H, F2.nil⟩⟩
 ·exact hq.elim
theorem born_inj {es : Array MapEntry} {clock : Nat} (hs : MapKept.Stamped es clock) {i j : Nat} {e e' : MapEntry} (h1 : es[i]? = some e) (h2 : es[j]? = some e') (h : e.born = e'.born) : i = j := by
 have hn := hs.2.1
 obtain ⟨hi, he⟩ := Array.getElem?_eq_some_iff.1 h1
 obtain ⟨hj, he'⟩ := Array.getElem?_eq_some_iff.1 h2
 refine (List.getElem_inj (h₀ := by simpa using hi) (h₁ := by simpa using hj) hn).1 ?_
 simp [he, he', h]
theorem a_next {x : Operand} (h : Sim c σ β a w) (ho : o.op = .next x false) (hd : ∀ d, o.dst = some d → d < c.N) (hq : nextK σ (σ.eval c.gl x) o.dst K) : Run c.P o a w (AOut c a o K) := by
 have hdf : ∀ c : Call, o.op ≠ .defer c := fun _ e => by rw [ho] at e; cases e
 unfold nextK at hq
 split at hq
 ·rename_i ob hx
  have hv := h.eval x
  rw [hx] at hv
  obtain ⟨b, hb, hv⟩ := hv.inv_ref
  split at hq
  ·rename_i kv seen hm
   obtain ⟨hq1, hq2⟩ := hq
   obtain ⟨b', hb', hob⟩ := h.obj _ _ hm
   rw [hb] at hb'; cases hb'
   have hfalse : RelR β (stF c σ β w) w (.tuple #[.bool false]) (.tp [.a (.d (.v (.bool false)))]) := .tp (vs := [.bool false]) rfl fun j v r hv hr => by
    cases j with
    | zero => simp at hv hr; subst hv; subst hr; exact .a (.v rfl)
    | succ j => simp at hv
   rcases hob with ⟨rfl, rfl, hh⟩ | ⟨m, clock, es, vs, arr, hst, hh, hmm, hl, hs, hk, hdd, hf⟩
   ·refine Run.val (v := .tuple #[.bool false]) (w' := w) hdf ?_ ⟨_, β, hq2 (fun i hi => by simp at hi), h.put hd hfalse⟩
    have : (Instr.next (.pointer (some ⟨b, 0, none⟩)) false o.type).run c.P w = .ok (.tuple #[.bool false]) w := by
     simp only [Instr.next, getObj, Sem.run_bind, Sem.run, hh, Result.andThen]
     rfl
    simp [execOp, ho, hv, this]
   ·rcases run_next_at (P := c.P) w o.type b m clock clock arr es clock hh hmm hs.1 (Nat.le_refl _) with ⟨h0, hrun⟩ | ⟨e, he, w1, hw1, hrun⟩
    ·refine Run.val (v := .tuple #[.bool false]) (w' := w) hdf ?_ ⟨_, β, hq2 (fun i hi => ?_), h.put hd hfalse⟩
     ·simp [execOp, ho, hv, hrun]
     ·have hi' : i < es.size := by omega
      have hnone : es[i] ∉ leftOf es arr := fun hmem => by
       have := Array.size_pos_of_mem hmem; omega
      have hcon : arr.contains es[i].born = true := by
       by_cases hc : arr.contains es[i].born = true
       ·exact hc
       ·exact absurd (by unfold leftOf; rw [Array.mem_filter]; exact ⟨Array.getElem_mem hi', by simpa using hc⟩) hnone
      obtain ⟨j, hj⟩ := List.getElem?_of_mem (Array.mem_toList_iff.2 (Array.contains_iff_mem.1 hcon))
      have hjs : j < seen.length := by rw [← hf.1]; exact (List.getElem?_eq_some_iff.1 hj).1
      obtain ⟨e', he', hbe⟩ := hf.2 j _ seen[j] hj (List.getElem?_eq_getElem hjs)
      have := born_inj hs he' (Array.getElem?_eq_getElem hi') hbe
      rw [← this]; exact List.getElem_mem hjs
    ·have hmem := he
     simp only [leftOf, Array.mem_toList_iff, Array.mem_filter] at hmem
     obtain ⟨i, hi, hei⟩ := Array.mem_iff_getElem.1 hmem.1
     have hei' : es[i]? = some e := by rw [Array.getElem?_eq_getElem hi, hei]
     have hikv : i < kv.length := by omega
     obtain ⟨hkey, hval⟩ := hk i e kv[i] hei' (List.getElem?_eq_getElem hikv)
     have hns : i ∉ seen := fun hin => by
      obtain ⟨j, hj⟩ := List.getElem?_of_mem hin
      have hja : j < arr.toList.length := by rw [hf.1]; exact (List.getElem?_eq_some_iff.1 hj).1
      obtain ⟨e', he', hbe⟩ := hf.2 j _ i (List.getElem?_eq_getElem hja) hj
      rw [hei'] at he'; cases he'
      have : arr.contains e.born = true := by rw [Array.contains_iff_mem, hbe]; exact Array.mem_toList_iff.1 (List.getElem_mem hja)
      have h2 := hmem.2
      rw [this] at h2; cases h2
     have hw1h : w1.heap = w.heap := by rcases hw1 with rfl | rfl <;> rfl
     have hset : (ChangeMaps.setBlock w1 b (.mapIter (some m) clock (arr.push e.born) clock)).heap[b]? = some (.mapIter (some m) clock (arr.push e.born) clock) ∧ ∀ r', r' ≠ b → (ChangeMaps.setBlock w1 b (.mapIter (some m) clock (arr.push e.born) clock)).heap[r']? = w1.heap[r']? := MapKept.heap_set (by rw [hw1h]; exact hh)
     have keep : Keep (fun b' => ownB (β ob) = some b') w (ChangeMaps.setBlock w1 b (.mapIter (some m) clock (arr.push e.born) clock)) := by
      rcases hw1 with rfl | rfl <;> exact ⟨rfl, rfl, rfl, by simp [ChangeMaps.setBlock], fun k hk' hne => hset.2 k fun e => hne (by rw [hb, e]; rfl)⟩
     have hneq : m ≠ b := fun e => by rw [e, hh] at hmm; cases hmm
     have hH : ∀ b', stF c σ β w b' → stF c (σ.setOb ob (.iter kv (seen ++ [i]))) β (ChangeMaps.setBlock w1 b (.mapIter (some m) clock (arr.push e.born) clock)) b' ∧ (ChangeMaps.setBlock w1 b (.mapIter (some m) clock (arr.push e.born) clock)).heap[b']? = w.heap[b']? := fun b' hb' => by
      have hsame : (ChangeMaps.setBlock w1 b (.mapIter (some m) clock (arr.push e.born) clock)).heap[b']? = w.heap[b']? := by rw [hset.2 b' fun e => hb'.2.2.1 ob _ hm (by rw [hb, e]; rfl), hw1h]
      refine ⟨⟨Nat.lt_of_lt_of_le hb'.1 keep.size, hb'.2.1, fun o' y' hy' => ?_, hb'.2.2.2.same hsame⟩, hsame⟩
      by_cases e : o' = ob
      ·subst e; exact hb'.2.2.1 o' _ hm
      ·simp only [S.setOb, upd, if_neg e] at hy'; exact hb'.2.2.1 o' y' hy'
     have hs' := h.setOb (x := .iter kv (seen ++ [i])) hm keep ⟨b, hb, .inr ⟨m, clock, es, vs, _, (hH m hst).1, hset.1, (hH m hst).2.trans hmm, hl, hs, hk, fun i p hp => (hdd i p hp).mono hH, by
      rw [Array.toList_push]; exact hf.append (F2.cons ⟨e, hei', rfl⟩ F2.nil)⟩⟩
     refine Run.val (v := .tuple #[.bool true, e.key, e.val]) hdf ?_ ⟨_, β, hq1 i kv[i] (List.getElem?_eq_getElem hikv) hns, hs'.put hd ?_⟩
     ·simp [execOp, ho, hv, hrun]
     ·rw [hkey, hval]
      refine .tp (vs := [.bool true, .int .i64 kv[i].1, vs i]) rfl fun j v r hv hr => ?_
      match j with
      | 0 => simp at hv hr; subst hv; subst hr; exact .a (.v rfl)
      | 1 => simp at hv hr; subst hv; subst hr; exact .a (.v rfl)
      | 2 => simp at hv hr; subst hv; subst hr; exact .a ((hdd i _ (List.getElem?_eq_getElem hikv)).mono hH)
      | j + 3 => simp at hv
  ·exact hq.elim
 ·exact hq.elim
theorem a_entry {x : Operand} (h : Sim c σ β a w) (ho : o.op = .entry x) (hd : ∀ d, o.dst = some d → d < c.N) (hq : entryK σ (σ.eval c.gl x) o.dst K) : Run c.P o a w (AOut c a o K) := by
 have hdf : ∀ c : Call, o.op ≠ .defer c := fun _ e => by rw [ho] at e; cases e
 unfold entryK at hq
 split at hq
 ·rename_i ob hx
  have hv := h.eval x
  rw [hx] at hv
  obtain ⟨b, hb, hv⟩ := hv.inv_ref
  split at hq
  ·rename_i kv seen hm
   split at hq
   ·rename_i p hp
    obtain ⟨i, hi, hpi⟩ := Option.bind_eq_some_iff.1 hp
    obtain ⟨b', hb', hob⟩ := h.obj _ _ hm
    rw [hb] at hb'; cases hb'
    rcases hob with ⟨rfl, rfl, hh⟩ | ⟨m, clock, es, vs, arr, hst, hh, hmm, hl, hs, hk, hdd, hf⟩
    ·simp at hi
    ·obtain ⟨s0, rfl⟩ : ∃ s0, seen = s0 ++ [i] := List.getLast?_eq_some_iff.1 hi
     have hal : arr.toList.length = s0.length + 1 := by rw [hf.1]; simp
     obtain ⟨a0, s, ha⟩ : ∃ a0 s, arr = Array.push a0 s := Array.eq_push_of_size_ne_zero (by simp at hal; omega)
     subst ha
     have hlen0 : a0.size = s0.length := by simpa using hal
     obtain ⟨e, he, hbe⟩ := hf.2 s0.length s i (by rw [Array.toList_push, List.getElem?_append_right (by simp [hlen0])]; simp [hlen0]) (by simp)
     obtain ⟨hkey, hval⟩ := hk i e p he hpi
     have hrun := run_entry_at (P := c.P) w b m clock a0 es clock e (by rw [hbe]; exact hh) hmm (Array.mem_toList_iff.2 (Array.mem_of_getElem? he)) hs.2.1
     refine Run.val (v := .tuple #[e.key, e.val]) (w' := w) hdf ?_ ⟨_, β, hq, h.put hd ?_⟩
     ·simp [execOp, ho, hv, hrun]
     ·rw [hkey, hval]
      refine .tp (vs := [.int .i64 p.1, vs i]) rfl fun j v r hv hr => ?_
      match j with
      | 0 => simp at hv hr; subst hv; subst hr; exact .a (.v rfl)
      | 1 => simp at hv hr; subst hv; subst hr; exact .a (hdd i p hpi)
      | j + 2 => simp at hv
   ·exact hq.elim
  ·exact hq.elim
 ·exact hq.elim
theorem clo_sound {k : Call} {f : Operand} {g : FuncId} {caps : List (Nat × Nat)} (h : Sim c σ β a w) (ho : o.op = .call k) (hc : k.callee = .value f) (hf : σ.eval c.gl f = .clo g caps) (hd : ∀ d, o.dst = some d → d < c.N)
  (hq : Inl c.P c.gl g (k.args.toList.map (σ.eval c.gl) ++ caps.map fun x => .ref x.1 x.2) σ (fun σ' rs' => K (σ'.put o.dst (one rs')))) : Run c.P o a w (AOut c a o K) := by
 have hdf : ∀ c : Call, o.op ≠ .defer c := fun _ e => by rw [ho] at e; cases e
 have hfv := h.eval f
 rw [hf] at hfv
 obtain ⟨cvs, hcv, hcd⟩ : ∃ cvs : List Value, a.eval f = .func (.func g) #[] cvs.toArray ∧ F2 (fun v c => ∃ b, β c.1 = .pointer (some ⟨b, 0, none⟩) ∧ v = .pointer (some ⟨b, c.2, none⟩)) cvs caps := by
  generalize a.eval f = v at hfv
  cases hfv with
  | clo hl => exact ⟨_, rfl, hl⟩
 have hvs : F2 (RelR β (stF c σ β w) w) (k.args.toList.map a.eval ++ cvs) (k.args.toList.map (σ.eval c.gl) ++ caps.map fun x => .ref x.1 x.2) := by
  refine F2.append ⟨by simp, fun i u r hu hr => ?_⟩ ⟨by simp [hcd.1], fun i u r hu hr => ?_⟩
  ·simp only [List.getElem?_map, Option.map_eq_some_iff] at hu hr
   obtain ⟨x, hx, rfl⟩ := hu
   obtain ⟨y, hy, rfl⟩ := hr
   rw [hx] at hy; cases hy
   exact h.eval x
  ·simp only [List.getElem?_map, Option.map_eq_some_iff] at hr
   obtain ⟨d, hd, rfl⟩ := hr
   obtain ⟨b, hb, rfl⟩ := hcd.2 i u d hu hd
   exact .ref hb
 obtain ⟨hok, hh⟩ := hq
 refine Run.call hdf (call_run hc ho hcv hok) ((hh c β a w _ rfl rfl h hvs).mono ?_)
 rintro e w' ⟨us, rs', σ', β', rfl, hs, hres, hk⟩
 refine ⟨_, rfl, σ'.put o.dst (one rs'), β', hk, hs.put hd ?_⟩
 rcases rs' with _ | ⟨r, _ | ⟨r2, rs⟩⟩
 ·obtain rfl := hres.of_nil
  exact .tp (vs := []) rfl fun j v r hv => by simp at hv
 ·obtain ⟨u, s, rfl, hr, hs'⟩ := hres.of_cons
  obtain rfl := hs'.of_nil
  exact hr
 ·obtain ⟨u, s, rfl, hr, hs'⟩ := hres.of_cons
  obtain ⟨u2, s2, rfl, hr2, hs2⟩ := hs'.of_cons
  exact .tp hres.1 fun j v r hv hr => hres.2 j v r hv hr
theorem opA0_sound (h : Sim c σ β a w) (hd : ∀ d, o.dst = some d → d < c.N) (hq : opA0 c.P c.gl o σ K) : Run c.P o a w (AOut c a o K) := by
 have hq0 := hq
 unfold opA0 at hq
 split at hq
 case h_1 x ho => exact a_assign h ho hd hq0
 case h_2 t p x ho => exact a_store h ho hd hq0
 case h_3 t ho => exact a_alloc h ho hd hq0
 case h_4 t x ho => exact a_box h ho hd hq0
 case h_5 t x l hi m ho => exact a_slice h ho hd hq0
 case h_6 t ps ho => exact a_build h ho hd hq0
 case h_7 t l ps ho => exact a_buildSlice h ho hd hq0
 case h_8 t x ho => exact a_range h ho hd hq
 case h_9 x ho => exact a_next h ho hd hq
 case h_10 x ho => exact a_entry h ho hd hq
 case h_11 t ho => exact a_makeMap h ho hd hq0
 case h_12 t m k x ho => exact updK_sound h (by simp [execOp, ho]) (fun _ e => by rw [ho] at e; cases e) hd hq
 case h_13 t m k x ho => exact updK_sound h (by simp [execOp, ho]) (fun _ e => by rw [ho] at e; cases e) hd hq
 case h_14 fn first caps ho => exact a_makeFunc h ho hd hq0
 case h_15 k ho =>
  split at hq
  ·rename_i hc
   split at hq
   ·rename_i x y t u hargs htys
    obtain ⟨rfl, hq⟩ := hq
    exact appK_sound h ho hc (by rw [← Array.toArray_toList (xs := k.args), hargs]) (by rw [← Array.toArray_toList (xs := k.argTypes), htys]) hd hq
   ·exact hq.elim
  ·rename_i f hc
   split at hq
   ·rename_i g caps he
    exact callK_sound h ho hc he hd hq
   ·rename_i g caps he
    exact clo_sound h ho hc he hd hq
   ·exact hq c β a w rfl rfl h hd
   ·exact hq c β a w rfl rfl h hd
   ·exact hq.elim
  ·exact a_quiet h hd (opQ_sound h hq)
 case h_16 => exact a_quiet h hd (opQ_sound h hq)
theorem opA_sound (h : Sim c σ β a w) (hd : ∀ d, o.dst = some d → d < c.N) (hq : opA c.P c.gl o σ K) : Run c.P o a w (AOut c a o K) := by
 unfold opA at hq
 split at hq
 ·exact hq c β a w rfl rfl h hd
 ·exact opA0_sound h hd hq
end
end Go.VC
end
section
namespace Go.VC
open Go.RowKit
section
variable {P : Program} {gl : Nat → Option (List D)} {ops : Array Oper}
def wantA (ops : Array Oper) (o : Oper) (σ : S) : Option Bool :=
 match o.guard with
 | none => some true
 | some (j, want) => (guardR ops σ j).map (· == some want)
def stD (P : Program) (gl : Nat → Option (List D)) (ops : Array Oper) (o : Oper) (σ : S) (K : S → Prop) : Prop :=
 match wantA ops o σ with
 | some true => inD P gl o σ K
 | some false => K (σ.put o.dst (.tp []))
 | none => False
theorem gK_iff {b want : Bool} {X Y : Prop} : gK b want X Y ↔ ((b == want) = true → X) ∧ ((b == want) = false → Y) := by
 cases b <;> cases want <;> simp [gK, brK]
theorem opsQ_cons {o : Oper} {rest : List Oper} {σ : S} {K : S → Prop} : opsQ P gl ops (o :: rest) σ K ↔ stD P gl ops o σ fun σ' => opsQ P gl ops rest σ' K := by
 unfold stD wantA
 simp only [opsQ]
 cases o.guard with
 | none => exact Iff.rfl
 | some g =>
  obtain ⟨j, want⟩ := g
  dsimp only
  cases guardR ops σ j with
  | none => exact Iff.rfl
  | some b =>
   cases b with
   | none => simp
   | some b =>
    dsimp only [Option.map_some]
    rw [gK_iff]
    have : (some b == some want) = (b == want) := by cases b <;> cases want <;> rfl
    rw [this]
    cases b == want <;> simp
theorem opsA_cons {o : Oper} {rest : List Oper} {σ : S} {K : S → Prop} : opsA P gl ops (o :: rest) σ K ↔ (match wantA ops o σ with
  | some true => opA P gl o σ fun σ' => opsA P gl ops rest σ' K
  | some false => opsA P gl ops rest (σ.put o.dst (.tp [])) K
  | none => False) := by
 unfold wantA
 simp only [opsA]
 cases o.guard with
 | none => exact Iff.rfl
 | some g =>
  obtain ⟨j, want⟩ := g
  dsimp only
  cases guardR ops σ j with
  | none => exact Iff.rfl
  | some b =>
   cases b with
   | none => simp
   | some b =>
    dsimp only [Option.map_some]
    rw [gK_iff]
    have : (some b == some want) = (b == want) := by cases b <;> cases want <;> rfl
    rw [this]
    cases b == want <;> simp
end
section
variable {c : Cx} {σ : S} {β : Nat → Value} {a : Act} {w : World}
theorem und_rel {β : Nat → Value} {st : Nat → Prop} {w : World} : RelR β st w undef (.tp []) := .tp (vs := []) rfl fun j v r hv => by simp at hv
theorem want_sound {ops : Array Oper} {o : Oper} (h : Sim c σ β a w) {b : Bool} (hw : wantA ops o σ = some b) : Region.wanted o (yielded ops a.tmps) = b := by
 unfold wantA at hw
 unfold Region.wanted
 split at hw
 ·rename_i hg; cases hw; rw [hg]
 ·rename_i j want hg
  rw [hg]
  obtain ⟨b', hb, rfl⟩ := Option.map_eq_some_iff.1 hw
  have key : yielded ops a.tmps j = b' := by
   unfold guardR at hb
   split at hb
   ·rename_i b2 hb2
    cases hb
    obtain ⟨t, ht, hr⟩ := Option.map_eq_some_iff.1 hb2
    have hv := h.reg t
    rw [hr] at hv
    have hv := hv.inv_v
    have hsome : a.tmps[t]? = some (.bool b2) := by
     rw [Array.getD_eq_getD_getElem?] at hv
     cases he : a.tmps[t]? with
     | none => rw [he] at hv; simp [undef] at hv
     | some v => rw [he] at hv; simpa using hv
    simp only [yielded, ht, Option.bind_some, hsome]
   ·rename_i hb2
    cases hb
    obtain ⟨t, ht, hr⟩ := Option.map_eq_some_iff.1 hb2
    have hv := h.reg t
    rw [hr] at hv
    generalize hvv : a.tmps.getD t undef = v at hv
    cases hv with
    | @tp vs _ hl _ =>
     obtain rfl : vs = [] := List.eq_nil_of_length_eq_zero hl
     rw [Array.getD_eq_getD_getElem?] at hvv
     simp only [yielded, ht, Option.bind_some]
     cases he : a.tmps[t]? with
     | none => rfl
     | some v => rw [he] at hvv; simp only [Option.getD_some] at hvv; rw [hvv]
   ·cases hb
  simp only [key]
theorem inD_sound {o : Oper} {K : S → Prop} (h : Sim c σ β a w) (hd : ∀ d, o.dst = some d → d < c.N) (hq : inD c.P c.gl o σ K) : Run c.P o a w (AOut c a o K) := by
 unfold inD at hq
 split at hq
 ·exact a_quiet h hd (opQ_sound h hq)
 ·exact opA_sound h hd hq
theorem opsA_sound {ρ : Option Nat} {n : Nat} {ops : Array Oper} {Q : Exit → Act → World → Prop} {K : S → Prop} {D : List Deferred} (hQ : ∀ σ β a w, Sim c σ β a w → a.defers = D → K σ → Q .normal a w) :
  ∀ (l : List Oper) {σ : S} {β : Nat → Value} {a : Act} {w : World}, (∀ o ∈ l, ∀ d, o.dst = some d → d < c.N) → Sim c σ β a w → a.defers = D → opsA c.P c.gl ops l σ K → wpListIn (WF ρ) n c.P ops Q l a w
 | [], σ, β, a, w, _, h, hDf, hk => hQ σ β a w h hDf hk
 | o :: rest, σ, β, a, w, hd, h, hDf, hk => by
  rw [opsA_cons] at hk
  split at hk
  ·rename_i hw
   simp only [wpListIn, want_sound h hw, if_true]
   refine opA_sound h (hd o (by simp)) hk ρ n _ Q ?_
   rintro v w' ⟨σ', β', hk', h'⟩
   exact opsA_sound hQ rest (fun o ho => hd o (by simp [ho])) h' (by cases o.dst <;> exact hDf) hk'
  ·rename_i hw
   simp only [wpListIn, want_sound h hw, Bool.false_eq_true, if_false]
   exact ⟨fun _ _ => trivial, opsA_sound hQ rest (fun o ho => hd o (by simp [ho])) (h.put (hd o (by simp)) und_rel) (by cases o.dst <;> exact hDf) hk⟩
  ·exact hk.elim
def anyA (P : Program) (gl : Nat → Option (List D)) (ops : Array Oper) (K : S → Prop) : Nat → Array Bool → S → Prop
 | 0, listed, σ => Region.ready .any ops listed = [] ∧ K σ
 | fuel + 1, listed, σ => (Region.ready .any ops listed = [] → K σ) ∧ ∀ i ∈ Region.ready .any ops listed, ∀ o, ops[i]? = some o → stD P gl ops o σ (anyA P gl ops K fuel (listed.setIfInBounds i true))
theorem anyA_sound {ρ : Option Nat} {n : Nat} {ops : Array Oper} {Q : Exit → Act → World → Prop} {K : S → Prop} {D : List Deferred} (hQ : ∀ σ β a w, Sim c σ β a w → a.defers = D → K σ → Q .normal a w) (hd : ∀ o ∈ ops.toList, ∀ d, o.dst = some d → d < c.N) :
  ∀ (fuel : Nat) (listed : Array Bool) {σ : S} {β : Nat → Value} {a : Act} {w : World}, Sim c σ β a w → a.defers = D → anyA c.P c.gl ops K fuel listed σ → wpAnyIn (WF ρ) n c.P .any ops Q fuel listed a w
 | 0, listed, σ, β, a, w, h, hDf, hk => ⟨hk.1, hQ σ β a w h hDf hk.2⟩
 | fuel + 1, listed, σ, β, a, w, h, hDf, hk => by
  refine ⟨fun hr => hQ σ β a w h hDf (hk.1 hr), fun i hi => ?_⟩
  obtain ⟨_, o, ho, _⟩ := mem_ready.1 hi
  have hst := hk.2 i hi o ho
  have hdo := hd o (by rw [Array.mem_toList_iff]; exact Array.mem_of_getElem? ho)
  simp only [wpOpIn, ho]
  unfold stD at hst
  split at hst
  ·rename_i hw
   rw [want_sound h hw, if_pos rfl]
   refine inD_sound h hdo hst ρ n _ Q ?_
   rintro v w' ⟨σ', β', hk', h'⟩
   exact anyA_sound hQ hd fuel _ h' (by cases o.dst <;> exact hDf) hk'
  ·rename_i hw
   rw [want_sound h hw, if_neg (by simp)]
   exact ⟨fun _ _ => trivial, anyA_sound hQ hd fuel _ (h.put hdo und_rel) (by cases o.dst <;> exact hDf) hst⟩
  ·exact hst.elim
end
section
variable {P : Program} {gl : Nat → Option (List D)} {ops : Array Oper} {o : Oper} {σ σ' : S}
theorem idxK_split {n : Int} {xs : List (List D)} {sz : Nat} {f : List D → R} {K : R → Prop} (h : idxK n xs sz fun c => K (f c)) : ∃ r, K r ∧ ∀ K' : R → Prop, K' r → idxK n xs sz fun c => K' (f c) := by
 obtain ⟨h0, h1⟩ := h
 split at h1
 ·rename_i c hc
  exact ⟨f c, h1.2, fun K' hk => ⟨h0, by rw [hc]; exact ⟨h1.1, hk⟩⟩⟩
 ·exact h1.elim
theorem sliceK_split {xs : List (List D)} {sz : Nat} {l h : Option Int} {m : Option (Option Int)} {K : R → Prop} (hk : sliceK xs sz l h m K) : ∃ r, K r ∧ ∀ K' : R → Prop, K' r → sliceK xs sz l h m K' := by
 unfold sliceK at hk
 split at hk
 ·rename_i lo hi
  obtain ⟨h0, h1, h2, h3, hk⟩ := hk
  split at hk
  ·exact ⟨_, hk, fun K' hk' => ⟨h0, h1, h2, h3, hk'⟩⟩
  ·exact ⟨_, hk.2, fun K' hk' => ⟨h0, h1, h2, h3, hk.1, hk'⟩⟩
  ·exact hk.elim
 ·exact hk.elim
theorem opQ_split {K : R → Prop} (h : opQ P gl o σ K) : ∃ r, K r ∧ ∀ K' : R → Prop, K' r → opQ P gl o σ K' := by
  unfold opQ at h ⊢
  (repeat' split at h) <;> first
    | exact h.elim
    | exact ⟨_, h, fun K' hk => hk⟩
    | exact ⟨_, h, fun K' hk => by rw [if_pos ‹_›]; exact hk⟩
    | exact ⟨_, h, fun K' hk => by rw [if_neg ‹_›]; exact hk⟩
    | exact ⟨_, h.2, fun K' hk => ⟨h.1, hk⟩⟩
    | exact ⟨_, h.2.2, fun K' hk => ⟨h.1, h.2.1, hk⟩⟩
    | exact idxK_split (f := fun c => .a (.d (.pt c))) h
    | exact idxK_split (f := fun _ => _) h
    | (obtain ⟨h0, h⟩ := h
       obtain ⟨r, h1, h2⟩ := sliceK_split h
       exact ⟨r, h1, fun K' hk => ⟨h0, h2 K' hk⟩⟩)
    | (unfold callQ at h
       obtain ⟨as, res, h1, h2, h3, h4⟩ := h
       exact ⟨_, h4, fun K' hk => ⟨as, res, h1, h2, h3, hk⟩⟩)
    | exact h.2.elim
    | exact h.2.2.elim
theorem argsA_congr (hm : σ'.mem = σ.mem) (rs : List R) : argsA σ' rs = argsA σ rs := by
 induction rs with
 | nil => rfl
 | cons r rs ih =>
  have : argA σ' r = argA σ r := by cases r <;> simp [argA, hm]
  simp only [argsA, this, ih]
theorem bnd_congr {d : Int} {x : Option Operand} (h : ∀ y, x = some y → σ'.eval gl y = σ.eval gl y) : bnd σ' gl d x = bnd σ gl d x := by
 cases x with
 | none => rfl
 | some y => simp only [bnd, h y rfl]
theorem partsD_congr : ∀ {l : List (Nat × Operand)}, (∀ p ∈ l, σ'.eval gl p.2 = σ.eval gl p.2) → partsD σ' gl l = partsD σ gl l
 | [], _ => rfl
 | (i, x) :: l, h => by
  simp only [partsD]
  rw [show σ'.eval gl x = σ.eval gl x from h (i, x) (by simp), partsD_congr fun p hp => h p (by simp [hp])]
theorem opQ_congr {K : R → Prop} (hm : σ'.mem = σ.mem) (he : ∀ x ∈ o.op.operands, σ'.eval gl x = σ.eval gl x) (h : opQ P gl o σ K) : opQ P gl o σ' K := by
 have hl : ∀ t p, loadR P σ' t p = loadR P σ t p := fun t p => by cases p <;> simp [loadR, hm]
 have hln : ∀ r, lenR σ' r = lenR σ r := fun r => by unfold lenR; rw [hm]
 unfold opQ at h ⊢
 cases ho : o.op <;> simp only [ho] at h he ⊢
 case move x => rw [he x (by simp [Op.operands])]; exact h
 case assign x => rw [he x (by simp [Op.operands])]; exact h
 case pick x y z => rw [he x (by simp [Op.operands]), he y (by simp [Op.operands]), he z (by simp [Op.operands])]; exact h
 case load t p => rw [he p (by simp [Op.operands]), hl]; exact h
 case fieldAddr t p f => rw [he p (by simp [Op.operands])]; exact h
 case indexAddr t x i => rw [he x (by simp [Op.operands]), he i (by simp [Op.operands]), hm]; exact h
 case nilCheck x => rw [he x (by simp [Op.operands])]; exact h
 case binOp op t x y ty => rw [he x (by simp [Op.operands]), he y (by simp [Op.operands])]; exact h
 case unOp op t x => rw [he x (by simp [Op.operands])]; exact h
 case convert s t x => rw [he x (by simp [Op.operands])]; exact h
 case index t x i => rw [he x (by simp [Op.operands]), he i (by simp [Op.operands])]; exact h
 case lookup t x i ok =>
  have hmo : ∀ r, mapOf σ' r = mapOf σ r := fun r => by unfold mapOf; rw [hm]
  have hlo : ∀ x i, lookR P σ' t x i ok = lookR P σ t x i ok := fun x i => by unfold lookR; rw [hmo]
  rw [he x (by simp [Op.operands]), he i (by simp [Op.operands]), hlo]; exact h
 case extract x i => rw [he x (by simp [Op.operands])]; exact h
 case slice t x l hi m =>
  have e1 := bnd_congr (gl := gl) (σ := σ) (σ' := σ') (d := 0) (x := l) fun y hy => he y (by simp [Op.operands, hy])
  have e2 : ∀ d : Int, bnd σ' gl d hi = bnd σ gl d hi := fun d => bnd_congr fun y hy => he y (by simp [Op.operands, hy])
  have e3 : (m.map fun y => bnd σ' gl 0 (some y)) = m.map fun y => bnd σ gl 0 (some y) := by
   cases m with
   | none => rfl
   | some y => simp only [Option.map_some]; rw [bnd_congr fun z hz => by cases hz; exact he y (by simp [Op.operands])]
  rw [he x (by simp [Op.operands]), e1, e3]
  simp only [e2]
  exact h
 case call k =>
  have hargs : ∀ x ∈ k.args.toList, σ'.eval gl x = σ.eval gl x := fun x hx => he x (by simp only [Op.operands, Call.operands]; rw [Array.mem_append]; right; simpa using hx)
  cases hc : k.callee with
  | builtin b =>
   rw [hc] at h
   dsimp only at h ⊢
   generalize k.args.toList = as at hargs h ⊢
   generalize k.argTypes.toList = tys at h ⊢
   split at h
   ·rename_i x t
    rw [hargs x (by simp), hln]; exact h
   ·rename_i x y
    rw [hargs x (by simp), hargs y (by simp)]; exact h
   ·rename_i x y
    rw [hargs x (by simp), hargs y (by simp)]; exact h
   ·exact h.elim
  | value f =>
   rw [hc] at h
   dsimp only at h ⊢
   rw [he f (by simp [Op.operands, Call.operands, hc])]
   have e : k.args.toList.map (σ'.eval gl) = k.args.toList.map (σ.eval gl) := List.map_congr_left hargs
   rw [e]
   split at h
   ·rename_i g caps hf
    obtain ⟨as, res, h1, h2, h3, h4⟩ := h
    exact ⟨as, res, by rw [argsA_congr hm]; exact h1, h2, h3, h4⟩
   ·exact h.elim
  | invoke r m => rw [hc] at h; exact h.elim
 case build t parts =>
  rw [partsD_congr fun p hp => he p.2 (by simp only [Op.operands, List.mem_toArray]; exact List.mem_map.2 ⟨p, hp, rfl⟩)]
  exact h
 case buildSlice t len parts => exact h
 all_goals exact h.elim
section
variable {σ : S} {K K' : S → Prop}
theorem rowK_mono {K K' : S → List (Nat × A) → Prop} (hk : ∀ σ l, K σ l → K' σ l) : ∀ (ps : List (Nat × Operand)) {σ : S} {acc : List (Nat × A)}, rowK σ gl ps acc K → rowK σ gl ps acc K'
 | [], σ, acc, h => hk _ _ h
 | (i, x) :: ps, σ, acc, h => by
  simp only [rowK] at h ⊢
  split at h
  ·exact ⟨h.1, rowK_mono hk ps h.2⟩
  ·exact h
theorem rest_mono {K K' : S → List A → Prop} (hk : ∀ σ l, K σ l → K' σ l) : ∀ (rs : List R) {σ : S} {acc : List A}, σ.rest rs acc K → σ.rest rs acc K'
 | [], σ, acc, h => hk _ _ h
 | r :: rs, σ, acc, h => by
  simp only [S.rest] at h ⊢
  split at h
  ·exact ⟨h.1, rest_mono hk rs h.2⟩
  ·exact h
theorem ret_mono (hk : ∀ σ, K σ → K' σ) {dst : Option Tmp} {res : List Rv} (h : σ.ret dst res K) : σ.ret dst res K' := by
 unfold S.ret at h ⊢
 split at h
 ·exact hk _ h
 ·refine ⟨h.1, h.2.1, ?_⟩
  have := h.2.2
  split at this
  ·exact hk _ this
  ·exact hk _ this
theorem callK_mono (hk : ∀ σ, K σ → K' σ) {f : FuncId} {rs : List R} {dst : Option Tmp} (h : callK P gl f rs dst σ K) : callK P gl f rs dst σ K' := by
 rcases h with ⟨as, res, h1, h2, h3, h4⟩ | ⟨res, h⟩ | ⟨h0, h⟩
 ·exact .inl ⟨as, res, h1, h2, h3, ret_mono hk h4⟩
 ·exact .inr (.inl ⟨res, rest_mono (fun σ l hl => ⟨hl.1, ret_mono hk hl.2⟩) _ h⟩)
 ·exact .inr (.inr ⟨h0, fun c β a w vs e1 e2 hs hv => (h c β a w vs e1 e2 hs hv).mono fun e w' ⟨us, rs', σ', β', h1, h2, h3, h4⟩ => ⟨us, rs', σ', β', h1, h2, h3, hk _ h4⟩⟩)
theorem appK_mono (hk : ∀ σ, K σ → K' σ) {t : TypeId} {x y : R} {dst : Option Tmp} (h : appK P σ t x y dst K) : appK P σ t x y dst K' := by
 unfold appK at h ⊢
 split at h
 ·split at h
  ·obtain ⟨h1, h2, h3, h4, h⟩ := h
   refine ⟨h1, h2, h3, h4, ?_⟩
   split at h
   ·split at h
    ·exact ⟨h.1, h.2.1, h.2.2.1, hk _ h.2.2.2⟩
    ·exact h
   ·exact ⟨h.1, h.2.1, h.2.2.1, hk _ h.2.2.2⟩
   ·exact h
  ·exact h
 ·exact h
theorem opQ_mono {K K' : R → Prop} (hk : ∀ r, K r → K' r) (h : opQ P gl o σ K) : opQ P gl o σ K' := by
 obtain ⟨r, h1, h2⟩ := opQ_split h
 exact h2 K' (hk r h1)
theorem sliceK_mono {xs : List (List D)} {sz : Nat} {l h : Option Int} {m : Option (Option Int)} {K K' : R → Prop} (hk : ∀ r, K r → K' r) (hh : sliceK xs sz l h m K) : sliceK xs sz l h m K' := by
 obtain ⟨r, h1, h2⟩ := sliceK_split hh
 exact h2 K' (hk r h1)
theorem updK_mono {K K' : S → Prop} (hk : ∀ σ, K σ → K' σ) {t : TypeId} {m k v : Operand} (h : updK P gl σ t m k v K) : updK P gl σ t m k v K' := by
 unfold updK at h ⊢
 split at h
 ·refine rest_mono (fun σ l hl => ?_) _ h
  split at hl
  ·exact hk _ hl
  ·exact hl
 ·exact h
theorem SemOp.mono (hk : ∀ σ, K σ → K' σ) (h : SemOp P gl o σ K) : SemOp P gl o σ K' :=
 fun c β a w h1 h2 h3 h4 => (h c β a w h1 h2 h3 h4).mono fun v w' ⟨σ', β', h5, h6⟩ => ⟨σ', β', hk _ h5, h6⟩
theorem Inl_mono {f : FuncId} {rs : List R} {K K' : S → List R → Prop} (hk : ∀ σ l, K σ l → K' σ l) (h : Inl P gl f rs σ K) : Inl P gl f rs σ K' :=
 ⟨h.1, fun c β a w vs h1 h2 h3 h4 => (h.2 c β a w vs h1 h2 h3 h4).mono fun e w' ⟨us, rs', σ', β', e1, e2, e3, e4⟩ => ⟨us, rs', σ', β', e1, e2, e3, hk _ _ e4⟩⟩
theorem opA0_mono (hk : ∀ σ, K σ → K' σ) (h : opA0 P gl o σ K) : opA0 P gl o σ K' := by
 have q : opQ P gl o σ (fun r => K (σ.put o.dst r)) → opQ P gl o σ fun r => K' (σ.put o.dst r) := opQ_mono fun r => hk _
 unfold opA0 at h ⊢
 split at h
 ·split at h
  ·split at h
   ·split at h
    ·exact hk _ h
    ·exact h
   ·exact h
  ·exact q h
 ·split at h
  ·exact hk _ h
  ·exact h
 ·split at h
  ·exact ⟨h.1, hk _ h.2⟩
  ·exact h
 ·split at h
  ·exact hk _ h
  ·exact h
 ·split at h
  ·split at h
   ·split at h
    ·exact ⟨h.1, h.2.1, sliceK_mono (fun r => hk _) h.2.2⟩
    ·exact h
   ·exact h
  ·exact q h
 ·refine rowK_mono (fun σ l hl => ?_) _ h
  split at hl
  ·refine ⟨hl.1, hl.2.1, ?_⟩
   have := hl.2.2
   split at this
   ·exact hk _ this
   ·exact this
  ·exact hl
 ·split at h
  ·rw [if_pos ‹_›]
   refine ⟨h.1, ?_⟩
   have h := h.2
   split at h
   ·split at h
    ·exact hk _ h
    ·exact h
   ·exact h
  rw [if_neg ‹_›]
  refine rowK_mono (fun σ l hl => ?_) _ h
  split at hl
  ·split at hl
   ·refine ⟨hl.1, hl.2.1, hl.2.2.1, hl.2.2.2.1, hl.2.2.2.2.1, ?_⟩
    have := hl.2.2.2.2.2
    split at this
    ·exact hk _ this
    ·exact this
   ·exact hl
  ·exact hl
 ·unfold rangeK at h ⊢
  split at h
  ·exact hk _ h
  ·exact h
 ·unfold nextK at h ⊢
  split at h
  ·split at h
   ·exact ⟨fun i p a b => hk _ (h.1 i p a b), fun a => hk _ (h.2 a)⟩
   ·exact h
  ·exact h
 ·unfold entryK at h ⊢
  split at h
  ·split at h
   ·split at h
    ·exact hk _ h
    ·exact h
   ·exact h
  ·exact h
 ·split at h
  ·exact hk _ h
  ·exact h
 ·exact updK_mono (fun σ hσ => hk _ hσ) h
 ·exact updK_mono (fun σ hσ => hk _ hσ) h
 ·split at h
  ·refine rest_mono (fun σ l hl => ?_) _ h
   split at hl
   ·exact hk _ hl
   ·exact hl
  ·exact h
 ·split at h
  ·split at h
   ·exact ⟨h.1, appK_mono hk h.2⟩
   ·exact h
  ·split at h
   ·exact callK_mono hk h
   ·exact Inl_mono (fun σ l => hk _) h
   ·exact SemOp.mono hk h
   ·exact SemOp.mono hk h
   ·exact h
  ·exact q h
 ·exact q h
theorem opA_mono (hk : ∀ σ, K σ → K' σ) (h : opA P gl o σ K) : opA P gl o σ K' := by
 unfold opA at h ⊢
 split at h
 ·exact SemOp.mono hk h
 ·exact opA0_mono hk h
theorem inD_mono (hk : ∀ σ, K σ → K' σ) (h : inD P gl o σ K) : inD P gl o σ K' := by
 unfold inD at h ⊢
 split at h
 ·exact opQ_mono (fun r => hk _) h
 ·exact opA_mono hk h
theorem opsA_mono (hk : ∀ σ, K σ → K' σ) : ∀ (l : List Oper) {σ : S}, opsA P gl ops l σ K → opsA P gl ops l σ K'
 | [], σ, h => hk _ h
 | o :: l, σ, h => by
  rw [opsA_cons] at h ⊢
  split at h
  ·exact opA_mono (fun σ => opsA_mono hk l) h
  ·exact opsA_mono hk l h
  ·exact h
theorem opsQ_mono (hk : ∀ σ, K σ → K' σ) : ∀ (l : List Oper) {σ : S}, opsQ P gl ops l σ K → opsQ P gl ops l σ K'
 | [], σ, h => hk _ h
 | o :: l, σ, h => by
  rw [opsQ_cons] at h ⊢
  unfold stD at h ⊢
  split at h
  ·exact inD_mono (fun σ => opsQ_mono hk l) h
  ·exact opsQ_mono hk l h
  ·exact h
end
theorem eval_put {x : Operand} {dst : Option Tmp} {r : R} (h : ∀ d, dst = some d → x ≠ .tmp d) : (σ.put dst r).eval gl x = σ.eval gl x := by
 cases dst with
 | none => rfl
 | some d =>
  cases x with
  | tmp t =>
   have : t ≠ d := fun e => h d rfl (by rw [e])
   simp [S.put, S.eval, upd, this]
  | const v => rfl
  | global g => rfl
  | func f => rfl
theorem mem_put {dst : Option Tmp} {r : R} : (σ.put dst r).mem = σ.mem := by cases dst <;> rfl
theorem put_comm {x y : Option Tmp} {r u : R} (h : ∀ d, x = some d → y ≠ some d) : (σ.put x r).put y u = (σ.put y u).put x r := by
 cases x with
 | none => rfl
 | some d =>
  cases y with
  | none => rfl
  | some e =>
   have hne : d ≠ e := fun h' => h d rfl (by rw [h'])
   simp only [S.put]
   congr 1
   funext t
   simp only [upd]
   by_cases h1 : t = d
   ·subst h1; simp [hne]
   ·simp [h1]
theorem looks_op {x : Operand} (hx : x ∈ o.op.operands) {dst : Option Tmp} (h : ∀ d, dst = some d → d ∉ o.looksAt ops) : ∀ d, dst = some d → x ≠ .tmp d := fun d hd e => by
 refine h d hd ?_
 simp only [Oper.looksAt, List.mem_append, List.mem_filterMap]
 exact .inl ⟨x, by simpa using hx, by rw [e]⟩
theorem guard_put {j : Nat} {want : Bool} (hg : o.guard = some (j, want)) {dst : Option Tmp} {r : R} (h : ∀ d, dst = some d → d ∉ o.looksAt ops) : guardR ops (σ.put dst r) j = guardR ops σ j := by
 unfold guardR
 cases dst with
 | none => rfl
 | some d =>
  cases hb : (ops[j]?).bind (·.dst) with
  | none => rfl
  | some t =>
   have : t ≠ d := fun e => h d rfl (by
    simp only [Oper.looksAt, hg, List.mem_append]
    exact .inr (by rw [hb, e]; simp))
   simp [S.put, upd, this]
theorem want_put {dst : Option Tmp} {r : R} (h : ∀ d, dst = some d → d ∉ o.looksAt ops) : wantA ops o (σ.put dst r) = wantA ops o σ := by
 unfold wantA
 cases hg : o.guard with
 | none => rfl
 | some g => obtain ⟨j, want⟩ := g; simp only [guard_put hg h]
theorem opQ_put {K : R → Prop} {dst : Option Tmp} {r : R} (h : ∀ d, dst = some d → d ∉ o.looksAt ops) : opQ P gl o (σ.put dst r) K ↔ opQ P gl o σ K :=
 ⟨opQ_congr mem_put.symm fun x hx => (eval_put (looks_op hx h)).symm, opQ_congr mem_put fun x hx => eval_put (looks_op hx h)⟩
def Tells (P : Program) (gl : Nat → Option (List D)) (ops : Array Oper) (o : Oper) (r : R) (σ : S) : Prop :=
 (wantA ops o σ = some true ∧ ∀ K : R → Prop, K r → opQ P gl o σ K) ∨ (wantA ops o σ = some false ∧ r = .tp [])
theorem Tells.st {r : R} (hq : quietO o = true) (h : Tells P gl ops o r σ) {K : S → Prop} (hk : K (σ.put o.dst r)) : stD P gl ops o σ K := by
 unfold stD inD
 rcases h with ⟨h1, h2⟩ | ⟨h1, rfl⟩
 ·rw [h1, hq]; exact h2 (fun r => K (σ.put o.dst r)) hk
 ·rw [h1]; exact hk
theorem Tells.of_st (hq : quietO o = true) {K : S → Prop} (h : stD P gl ops o σ K) : ∃ r, Tells P gl ops o r σ ∧ K (σ.put o.dst r) := by
 unfold stD inD at h
 split at h
 ·rename_i hw
  rw [hq] at h
  obtain ⟨r, h1, h2⟩ := opQ_split h
  exact ⟨r, .inl ⟨hw, h2⟩, h1⟩
 ·rename_i hw; exact ⟨.tp [], .inr ⟨hw, rfl⟩, h⟩
 ·exact h.elim
theorem Tells.put {r u : R} {dst : Option Tmp} (h : Tells P gl ops o r σ) (hd : ∀ d, dst = some d → d ∉ o.looksAt ops) : Tells P gl ops o r (σ.put dst u) := by
 rcases h with ⟨h1, h2⟩ | ⟨h1, rfl⟩
 ·exact .inl ⟨by rw [want_put hd]; exact h1, fun K hk => (opQ_put hd).2 (h2 K hk)⟩
 ·exact .inr ⟨by rw [want_put hd]; exact h1, rfl⟩
theorem st_put {oi oj : Oper} {r : R} (hqj : quietO oj = true) (hap : oi.apart ops oj = true) {K : S → Prop} (hy : Tells P gl ops oi r σ) (h : stD P gl ops oj (σ.put oi.dst r) K) :
  stD P gl ops oj σ fun σ' => Tells P gl ops oi r σ' ∧ K (σ'.put oi.dst r) := by
 obtain ⟨h1, h2, h3⟩ := Oper.apart_spec hap
 obtain ⟨u, hu, hk⟩ := Tells.of_st hqj h
 have hu' : Tells P gl ops oj u σ := by
  rcases hu with ⟨a1, a2⟩ | ⟨a1, rfl⟩
  ·exact .inl ⟨by rw [← want_put (r := r) h1]; exact a1, fun K hk => (opQ_put h1).1 (a2 K hk)⟩
  ·exact .inr ⟨by rw [← want_put (r := r) h1]; exact a1, rfl⟩
 exact hu'.st hqj ⟨hy.put h3, by rw [← put_comm h2]; exact hk⟩
theorem stD_mono {K K' : S → Prop} (hk : ∀ σ, K σ → K' σ) (hq : quietO o = true) (h : stD P gl ops o σ K) : stD P gl ops o σ K' := by
 obtain ⟨r, h1, h2⟩ := Tells.of_st hq h
 exact h1.st hq (hk _ h2)
theorem any_first {K : S → Prop} {dep : Nat → Bool} {i : Nat} {oi : Oper} {r : R} (hi : ops[i]? = some oi) (hqi : quietO oi = true) :
  ∀ (fuel : Nat) (listed : Array Bool) (σ : S),
   (∀ j, dep j = true → listed.getD j true = false ∧ ∃ oj, ops[j]? = some oj ∧ ∃ e ∈ oj.after, Region.binds .any e = true ∧ (e.on = i ∨ dep e.on = true)) →
   (∀ j oj, ops[j]? = some oj → j ≠ i → listed.getD j true = false → dep j = false → quietO oj = true ∧ oi.apart ops oj = true) →
   i ∈ Region.ready .any ops listed → Tells P gl ops oi r σ → anyA P gl ops K fuel (listed.setIfInBounds i true) (σ.put oi.dst r) → anyA P gl ops K (fuel + 1) listed σ := by
 intro fuel
 induction fuel with
 | zero =>
  intro listed σ hdep hfree hr hy H
  refine ⟨fun h => (by rw [h] at hr; cases hr), fun j hj oj hoj => ?_⟩
  by_cases hji : j = i
  ·subst hji; rw [hi] at hoj; cases hoj; exact hy.st hqi H
  ·have := ready_mono hj hji
   rw [H.1] at this
   cases this
 | succ fuel ih =>
  intro listed σ hdep hfree hr hy H
  refine ⟨fun h => (by rw [h] at hr; cases hr), fun j hj oj hoj => ?_⟩
  by_cases hji : j = i
  ·subst hji; rw [hi] at hoj; cases hoj; exact hy.st hqi H
  ·have h1 := H.2 j (ready_mono hj hji) oj hoj
   obtain ⟨hjun, oj', hoj', hall⟩ := mem_ready.1 hj
   rw [hoj] at hoj'; cases hoj'
   have key : ∀ m, listed.getD m true = false → listed.getD m false = true → False := fun m h0 h1 => by
    rcases Nat.lt_or_ge m listed.size with h' | h'
    ·simp [h'] at h0 h1; rw [h0] at h1; cases h1
    ·simp [Array.getElem?_eq_none h'] at h1
   have hnot : dep j = false := by
    cases hdj : dep j with
    | false => rfl
    | true =>
     obtain ⟨_, oj', ho', e, he, hb, hon⟩ := hdep j hdj
     rw [hoj] at ho'; cases ho'
     have h9 := hall e he hb
     rcases hon with hon | hon
     ·rw [hon] at h9; exact (key _ (mem_ready.1 hr).1 h9).elim
     ·exact (key _ (hdep _ hon).1 h9).elim
   obtain ⟨hqj, hap⟩ := hfree j oj hoj hji hjun hnot
   have h2 := st_put hqj hap hy h1
   have hfree' : ∀ k ok, ops[k]? = some ok → k ≠ i → (listed.setIfInBounds j true).getD k true = false →
     dep k = false → quietO ok = true ∧ oi.apart ops ok = true := fun k ok hk hki hun hno => by
    refine hfree k ok hk hki ?_ hno
    by_cases hjk : j = k
    ·subst hjk; exact hjun
    ·rw [getD_set_ne true hjk] at hun; exact hun
   have hdep' : ∀ k, dep k = true → (listed.setIfInBounds j true).getD k true = false ∧ ∃ oj, ops[k]? = some oj ∧ ∃ e ∈ oj.after, Region.binds .any e = true ∧ (e.on = i ∨ dep e.on = true) := fun k hk => by
    have hjk : j ≠ k := fun e => by rw [e, hk] at hnot; cases hnot
    exact ⟨by rw [getD_set_ne true hjk]; exact (hdep k hk).1, (hdep k hk).2⟩
   refine stD_mono (fun σ' h3 => ih (listed.setIfInBounds j true) σ' hdep' hfree' (ready_mono hr (Ne.symm hji)) h3.1 ?_) hqj h2
   rw [Array.setIfInBounds_comm _ _ hji]
   exact h3.2
theorem any_lex {K : S → Prop} : ∀ (l : List Oper) (k : Nat) (q : Bool) (listed : Array Bool) (σ : S), (∀ j, l[j]? = ops[k + j]?) → drawFrom ops l k q listed = true → opsQ P gl ops l σ K → anyA P gl ops K l.length listed σ
 | [], k, q, listed, σ, _, hB, h => ⟨by simpa [drawFrom] using hB, h⟩
 | o :: l, k, q, listed, σ, hl, hB, h => by
  have h0 : ops[k]? = some o := by simpa using (hl 0).symm
  have hl' : ∀ j, l[j]? = ops[k + 1 + j]? := fun j => by have := hl (j + 1); simpa [Nat.add_assoc, Nat.add_comm 1 j] using this
  rw [opsQ_cons] at h
  simp only [drawFrom, Bool.and_eq_true] at hB
  obtain ⟨⟨hr, hf⟩, hB'⟩ := hB
  split at hf
  ·rename_i hqo
   obtain ⟨r, hy, hk⟩ := Tells.of_st hqo.2 h
   unfold freeQ at hf
   rw [h0] at hf
   generalize depA ops listed k = d at hf
   unfold freeW at hf
   simp only [Bool.and_eq_true, List.all_eq_true] at hf
   refine any_first (dep := fun j => d.getD j false) h0 hqo.2 l.length listed σ (fun j hdj => ?_) (fun j oj hoj hjk hun hno => ?_) (by simpa using hr) hy (any_lex l (k + 1) _ _ _ hl' hB' hk)
   ·have hj : j < d.size := by
     rcases Nat.lt_or_ge j d.size with h | h
     ·exact h
     ·simp [Array.getElem?_eq_none h] at hdj
    have h3 := hf.2.1 j (List.mem_range.2 hj)
    unfold depOk at h3
    rw [hdj] at h3
    simp only [Bool.not_true, Bool.false_or] at h3
    split at h3
    ·cases h3
    ·rename_i oj hoj
     simp only [Bool.and_eq_true, Bool.not_eq_true', Array.any_eq_true', Bool.or_eq_true, beq_iff_eq] at h3
     obtain ⟨hu, e, he, hb, hon⟩ := h3
     exact ⟨hu, oj, hoj, e, he, hb, hon⟩
   have hj : j < ops.size := by
    rcases Nat.lt_or_ge j ops.size with h | h
    ·exact h
    ·rw [Array.getElem?_eq_none h] at hoj; cases hoj
   have := hf.2.2 j (List.mem_range.2 hj)
   rw [hoj] at this
   simp only [Bool.or_eq_true, Bool.and_eq_true, beq_iff_eq, List.any_eq_true, Array.any_eq_true'] at this
   rcases this with ((this | this) | this) | this
   ·exact absurd this hjk
   ·rw [hun] at this; cases this
   ·rw [hno] at this; cases this
   ·exact this
  ·simp only [beq_iff_eq] at hf
   refine ⟨fun h => (by rw [hf] at h; cases h), fun i hi oi hoi => ?_⟩
   rw [hf, List.mem_singleton] at hi
   subst hi
   rw [h0] at hoi; cases hoi
   unfold stD at h ⊢
   split at h
   ·unfold inD at h ⊢
    have := any_lex l (i + 1) (q && quietO o) (listed.setIfInBounds i true) (K := K)
    split at h
    ·obtain ⟨r, h1, h2⟩ := opQ_split h
     exact h2 (fun r => anyA P gl ops K l.length (listed.setIfInBounds i true) (σ.put o.dst r)) (this _ hl' hB' h1)
    ·exact opA_mono (fun σ' h' => this σ' hl' hB' h') h
   ·exact any_lex l (i + 1) _ _ _ hl' hB' h
   ·exact h
end
end Go.VC
end
section
namespace Go.VC
open Go.RowKit
section
variable {P : Program} {gl : Nat → Option (List D)}
theorem SemCode.mono {code : Code} {Q Q' : Ex → S → Prop} {σ : S} (hq : ∀ e σ, Q e σ → Q' e σ) (h : SemCode P gl code Q σ) : SemCode P gl code Q' σ :=
 fun c β a w ρ n h1 h2 h3 h4 h5 h6 => wpIn_mono (h c β a w ρ n h1 h2 h3 h4 h5 h6) fun e a w he => by
  cases e with
  | normal => obtain ⟨σ, β, hs, hk⟩ := he; exact ⟨σ, β, hs, hq _ _ hk⟩
  | exit id => obtain ⟨σ, β, hs, hk⟩ := he; exact ⟨σ, β, hs, hq _ _ hk⟩
  | ret => obtain ⟨σ, β, hs, hk⟩ := he; exact ⟨σ, β, hs, hq _ _ hk⟩
  | goto l => exact he
  | panic ch => obtain ⟨σ, β, t, v, r, e1, hs, hv, hk⟩ := he; exact ⟨σ, β, t, v, r, e1, hs, hv, hq _ _ hk⟩
  | outgrown => exact he
theorem awp_mono : ∀ (code : Code) {Q Q' : Ex → S → Prop} {σ : S}, (∀ e σ, Q e σ → Q' e σ) → awp P gl code Q σ → awp P gl code Q' σ
 | .skip, Q, Q', σ, hq, h => hq _ _ h
 | .label _, Q, Q', σ, hq, h => hq _ _ h
 | .exit _, Q, Q', σ, hq, h => hq _ _ h
 | .ret, Q, Q', σ, hq, h => hq _ _ h
 | .seq a b, Q, Q', σ, hq, h => by
  refine awp_mono a (fun e σ he => ?_) h
  cases e with
  | normal => exact awp_mono b hq he
  | exit id => exact hq _ _ he
  | ret => exact hq _ _ he
  | panic t r => exact hq _ _ he
 | .cond c x y, Q, Q', σ, hq, h => by
  simp only [awp] at h ⊢
  split at h
  ·exact ⟨fun e => awp_mono x hq (h.1 e), fun e => awp_mono y hq (h.2 e)⟩
  ·exact h
 | .block id c, Q, Q', σ, hq, h => by
  refine awp_mono c (fun e σ he => ?_) h
  cases e with
  | normal => exact hq _ _ he
  | exit id' =>
   simp only [Ex.inBlock] at he ⊢
   split at he
   ·rw [if_pos ‹_›]; exact hq _ _ he
   ·rw [if_neg ‹_›]; exact hq _ _ he
  | ret => exact hq _ _ he
  | panic t r => exact hq _ _ he
 | .scope _, Q, Q', σ, hq, h => SemCode.mono hq h
 | .loop c, Q, Q', σ, hq, h => by
  intro I hI hG
  refine h I (fun σ hσ => hI σ (awp_mono c (fun e σ he => ?_) hσ)) hG
  cases e with
  | normal => exact he
  | exit id => exact hq _ _ he
  | ret => exact hq _ _ he
  | panic t r => exact hq _ _ he
 | .region id ops draw, Q, Q', σ, hq, h => by
  cases draw with
  | false => exact opsA_mono (fun σ => hq _ σ) _ h
  | true => exact h.imp (fun h => ⟨h.1, opsQ_mono (fun σ => hq _ σ) _ h.2⟩) (SemCode.mono hq)
 | .goto _, Q, Q', σ, hq, h => SemCode.mono hq h
 | .refuse _, Q, Q', σ, hq, h => SemCode.mono hq h
 | .rangeFunc _ _ _ _, Q, Q', σ, hq, h => SemCode.mono hq h
theorem awp_loop_unfold {c : Code} {Q : Ex → S → Prop} {σ : S} (h : awp P gl c (Ex.then (awp P gl (.loop c) Q) Q) σ) : awp P gl (.loop c) Q σ := by
 intro I hI hG
 refine hI σ (awp_mono c (fun e σ he => ?_) h)
 cases e with
 | normal => exact he I hI hG
 | exit id => exact he
 | ret => exact he
 | panic t r => exact he
theorem awp_loop {c : Code} {Q : Ex → S → Prop} {σ : S} (I : Nat → S → Prop) (n : Nat) (h0 : I n σ)
  (h : ∀ n σ, I n σ → awp P gl c (Ex.then (fun σ' => ∃ m, m < n ∧ I m σ') Q) σ) : awp P gl (.loop c) Q σ := by
 induction n using Nat.strongRecOn generalizing σ with
 | _ n ih =>
  refine awp_loop_unfold (awp_mono c (fun e σ' he => ?_) (h n σ h0))
  cases e with
  | normal => obtain ⟨m, hm, hI⟩ := he; exact ih m hm hI
  | exit id => exact he
  | ret => exact he
  | panic t r => exact he
end
section
variable {c : Cx}
theorem np_l {ρ : Option Nat} {x y : Bool} (h : ρ = none ∨ (x && y) = true) : ρ = none ∨ x = true := h.imp id fun h => (Bool.and_eq_true _ _ ▸ h).1
theorem np_r {ρ : Option Nat} {x y : Bool} (h : ρ = none ∨ (x && y) = true) : ρ = none ∨ y = true := h.imp id fun h => (Bool.and_eq_true _ _ ▸ h).2
theorem awp_sound (hm : c.P.follows .mixedOrders = true) {ρ : Option Nat} {n : Nat} : ∀ (code : Code) {Q : Ex → S → Prop} {σ : S} {β : Nat → Value} {a : Act} {w : World},
  dstOK c.N code = true → (ρ = none ∨ noRng code = true) → awp c.P c.gl code Q σ → Sim c σ β a w → code.wpIn (WF ρ) n c.P (Qh c Q) a w
 | .skip, Q, σ, β, a, w, hd, hp, h, hs => wpIn_skip ⟨σ, β, hs, h⟩
 | .label _, Q, σ, β, a, w, hd, hp, h, hs => wpIn_label ⟨σ, β, hs, h⟩
 | .exit _, Q, σ, β, a, w, hd, hp, h, hs => wpIn_exit ⟨σ, β, hs, h⟩
 | .ret, Q, σ, β, a, w, hd, hp, h, hs => wpIn_ret ⟨σ, β, hs, h⟩
 | .seq x y, Q, σ, β, a, w, hd, hp, h, hs => by
  simp only [dstOK, Bool.and_eq_true] at hd
  refine wpIn_seq (wpIn_mono (awp_sound hm x hd.1 (np_l hp) h hs) fun e a w he => ?_)
  cases e with
  | normal => obtain ⟨σ', β', hs', hk⟩ := he; exact awp_sound hm y hd.2 (np_r hp) hk hs'
  | exit id => exact he
  | ret => exact he
  | goto l => exact he
  | panic ch => exact he
  | outgrown => exact he
 | .cond x y z, Q, σ, β, a, w, hd, hp, h, hs => by
  simp only [dstOK, Bool.and_eq_true] at hd
  simp only [awp] at h
  split at h
  ·rename_i b hb
   have hv := hs.eval x
   rw [hb] at hv
   refine wpIn_cond_split hv.inv_v (fun e => awp_sound hm y hd.1 (np_l hp) (h.1 e) hs) (fun e => awp_sound hm z hd.2 (np_r hp) (h.2 e) hs)
  ·exact h.elim
 | .block id x, Q, σ, β, a, w, hd, hp, h, hs => by
  refine wpIn_block (wpIn_mono (awp_sound hm x hd hp h hs) fun e a w he => ?_)
  cases e with
  | normal => exact he
  | exit id' =>
   obtain ⟨σ', β', hs', hk⟩ := he
   simp only [Ex.inBlock] at hk
   simp only [Exit.inBlock]
   split at hk
   ·rw [if_pos ‹_›]; exact ⟨σ', β', hs', hk⟩
   ·rw [if_neg ‹_›]; exact ⟨σ', β', hs', hk⟩
  | ret => exact he
  | goto l => exact he
  | panic ch => exact he
  | outgrown => exact he
 | .scope x, Q, σ, β, a, w, hd, hp, h, hs => h c β a w ρ n rfl rfl hm hd hp hs
 | .loop x, Q, σ, β, a, w, hd, hp, h, hs => by
  intro b k cs hro hb hr
  have key := h (fun σ => ∀ β a w, Sim c σ β a w → ∃ e a' w', Qh c Q e a' w' ∧ ArrivesIn (Machine.fenced c.P (WF ρ)) c.P (lone (b.atR a (.code x :: .inLoop x :: k)) cs w) b k cs e a' w') (fun σ hσ β a w hs => by
   obtain ⟨e, a₁, w₁, hq, harr⟩ := awp_sound hm x hd hp hσ hs b (.inLoop x :: k) cs hro hb hr
   cases e with
   | normal =>
    obtain ⟨σ', β', hs', hk⟩ := hq
    obtain ⟨e₂, a₂, w₂, hq₂, harr₂⟩ := hk β' a₁ w₁ hs'
    exact ⟨e₂, a₂, w₂, hq₂, .of_steps (StepsIn.trans harr (.one (fenced_calm hb hr rfl) stepR_inLoop)) harr₂⟩
   | exit id =>
    obtain ⟨σ', β', hs', hk⟩ := hq
    exact ⟨.exit id, a₁, w₁, ⟨σ', β', hs', hk⟩, .pass (x := .inLoop x) rfl (fun _ _ => .inl (by simp)) harr⟩
   | ret =>
    obtain ⟨σ', β', hs', hk⟩ := hq
    exact ⟨.ret, a₁, w₁, ⟨σ', β', hs', hk⟩, .pass (x := .inLoop x) rfl (fun _ _ => .inl (by simp)) harr⟩
   | goto l => exact hq.elim
   | panic ch =>
    exact ⟨.panic ch, a₁, w₁, hq, .pass (x := .inLoop x) rfl (fun _ _ => .inl (by simp)) harr⟩
   | outgrown => exact hq.elim) (fun σ σ' g hσ β a w hs => let ⟨β', hs'⟩ := g c β a w hs; hσ β' a w hs')
  obtain ⟨e, a', w', hq, harr⟩ := key β a w hs
  exact ⟨e, a', w', hq, .of_steps (.one (fenced_calm hb hr rfl) stepR_loop) harr⟩
 | .region id ops draw, Q, σ, β, a, w, hd, hp, h, hs => by
  have hdst : ∀ o ∈ ops.toList, ∀ d, o.dst = some d → d < c.N := fun o ho d hod => by
   have := List.all_eq_true.1 hd o ho
   rw [hod] at this
   simpa using this
  cases draw with
  | false => exact wpIn_region_list (opsA_sound (K := Q .normal) (D := a.defers) (fun σ β a w hs _ hk => ⟨σ, β, hs, hk⟩) ops.toList hdst hs rfl h)
  | true =>
   rcases h with ⟨hok, h⟩ | h
   case inr => exact h c β a w ρ n rfl rfl hm hd hp hs
   simp only [DrawOk, Bool.and_eq_true] at hok
   have := any_lex (K := Q .normal) ops.toList 0 true (Array.replicate ops.size false) σ (by simp) hok.2 h
   refine wpIn_region_any hm (anyA_sound (K := Q .normal) (D := a.defers) (fun σ β a w hs _ hk => ⟨σ, β, hs, hk⟩) hdst ops.size _ (hs.drawn _) rfl (by simpa using this))
 | .goto l, Q, σ, β, a, w, hd, hp, h, hs => h c β a w ρ n rfl rfl hm hd hp hs
 | .refuse _, Q, σ, β, a, w, hd, hp, h, hs => by cases hd
 | .rangeFunc _ _ _ _, Q, σ, β, a, w, hd, hp, h, hs => h c β a w ρ n rfl rfl hm hd hp hs
end
def endD (σ : S) : R → Option D
 | .a (.d x) => some x
 | .cs xs => some (.sl xs)
 | .own o => match σ.mem o with
  | some (.log _ _ xs) => some (.sl xs)
  | _ => none
 | .omp o => match σ.mem o with
  | some (.mpo kv) => some (.mp kv)
  | _ => none
 | .ref o off => match σ.mem o with
  | some (.box cs) => (allD cs).map fun ds => .pt (ds.drop off)
  | _ => none
 | _ => none
def endDs (σ : S) : List R → Option (List D)
 | [] => some []
 | r :: rs => match endD σ r, endDs σ rs with
  | some x, some xs => some (x :: xs)
  | _, _ => none
def endR (P : Program) (σ : S) : ResultVar → R → Rv → Prop
 | .tmp _, r, .a (.d x) => endD σ r = some x
 | .tmp _, r, .a (.ag xs) => r = .a (.ag xs)
 | .tmp _, .cs xs, .clip ys => xs = ys
 | .tmp _, .own o, .fresh e z ys => o < 1000000000 ∧ σ.mem o = some (.log e z ys)
 | .cell _ t, .ref o off, .a (.ag xs) => (match σ.mem o, tinf P t with
  | some (.box cs), some ti => ti.ag = true ∧ off + ti.sz ≤ cs.length ∧ endDs σ ((cs.drop off).take ti.sz) = some xs
  | _, _ => False)
 | .cell _ t, .ref o off, .a (.d x) => (match σ.mem o, tinf P t with
  | some (.box cs), some ti => ti.ag = false ∧ (match cs[off]? with
   | some r => endD σ r = some x
   | none => False)
  | _, _ => False)
 | .cell _ t, .a (.d (.pt cs)), .a (.ag xs) => (match tinf P t with
  | some ti => ti.ag = true ∧ ti.sz ≤ cs.length ∧ cs.take ti.sz = xs
  | none => False)
 | .cell _ t, .a (.d (.pt cs)), .a (.d x) => (match tinf P t with
  | some ti => ti.ag = false ∧ cs[0]? = some x
  | none => False)
 | _, _, _ => False
def rvTmp : ResultVar → Tmp
 | .tmp t => t
 | .cell t _ => t
def endRs (P : Program) (σ : S) : List ResultVar → List Rv → Prop
 | [], [] => True
 | v :: vs, r :: rs => endR P σ v (σ.regs (rvTmp v)) r ∧ endRs P σ vs rs
 | _, _ => False
def aloneRs (rs : List Rv) : Prop :=
 rs.all (fun r => !r.isFresh) = true ∨ ((rs.filter Rv.isFresh).length ≤ 1 ∧ rs.all (fun r => r.isFresh || r.flat) = true)
def postA (P : Program) (fn : Func) (res : List Rv) : Ex → S → Prop
 | .normal, σ | .ret, σ => aloneRs res ∧ endRs P σ fn.results.toList res
 | _, _ => False
def initR (as : List A) (t : Nat) : R := match as[t]? with
 | some x => .a x
 | none => .any
def S.init (as : List A) : S := { regs := initR as, mem := fun _ => none }
section
variable {c : Cx} {σ : S} {β : Nat → Value} {a : Act} {w : World}
theorem RelR.inv_a {st : Nat → Prop} {v : Value} {x : A} (h : RelR β st w v (.a x)) : RelA st w v x := by cases h with | a h => exact h
theorem endD_rel {st : Nat → Prop} (h : Sim c σ β a w) {v : Value} {r : R} {x : D} (hv : RelR β (stF c σ β w) w v r) (hx : endD σ r = some x) (h1 : ∀ b, stF c σ β w b → st b) (h2 : ∀ o y b, σ.mem o = some y → ownB (β o) = some b → NotDef w b → st b) : Rd st w v x := by
 unfold endD at hx
 split at hx
 ·cases hx; exact hv.inv_d.mono fun b hb => ⟨h1 b hb, rfl⟩
 ·cases hx; obtain ⟨p, n, e, hr⟩ := hv.inv_cs; subst e; exact hr.mono fun b hb => ⟨h1 b hb, rfl⟩
 ·split at hx
  ·rename_i o _ e z xs hm
   cases hx
   obtain ⟨cells, hr, hf, hl⟩ := h.obj _ _ hm
   rw [hv.inv_own]
   exact row_rd hr hf hl h1 fun b hb => h2 o _ b hm hb (hr.nd hb)
  ·cases hx
 ·split at hx
  ·rename_i o _ kv hm
   cases hx
   obtain ⟨r, clock, es, vs, hb, hh, hl, hs', hk, hd⟩ := h.obj _ _ hm
   cases hv with
   | omp e _ => rw [← e, hb]; exact .mp (h2 o _ r hm (by rw [hb]; rfl) (nd_map hh)) hh hl hs' hk fun i p a => (hd i p a).mono fun b hb => ⟨h1 b hb, rfl⟩
  ·cases hx
 ·split at hx
  ·rename_i o off _ cs hm
   obtain ⟨ds, hds, rfl⟩ := Option.map_eq_some_iff.1 hx
   obtain ⟨b, arr, e, hb, hh, hf⟩ := h.obj _ _ hm
   obtain ⟨b', hb', rfl⟩ := hv.inv_ref
   rw [hb] at hb'; cases hb'
   have hcs := allD_inv hds
   refine Rd.mk_pt (h2 o _ b hm (by rw [hb]; rfl) (nd_cells hh)) hh fun j d hj => ?_
   rw [List.getElem?_drop] at hj
   obtain ⟨u, hu, _, hr⟩ := hf.get (show cs[off + j]? = some (.a (.d d)) by rw [hcs]; simp [hj])
   exact ⟨u, by simpa using hu, hr.inv_d.mono fun b hb => ⟨h1 b hb, rfl⟩⟩
  ·cases hx
 ·cases hx
theorem endDs_at : ∀ {rs : List R} {xs : List D}, endDs σ rs = some xs → rs.length = xs.length ∧ ∀ (i : Nat) (r : R) (x : D), rs[i]? = some r → xs[i]? = some x → endD σ r = some x
 | [], xs, h => by cases h; exact ⟨rfl, fun i r x hr => by simp at hr⟩
 | r :: rs, xs, h => by
  simp only [endDs] at h
  split at h
  ·rename_i y ys h1 h2
   cases h
   obtain ⟨hl, hr⟩ := endDs_at h2
   refine ⟨by simp [hl], fun i r' x hr' hx => ?_⟩
   cases i with
   | zero => simp at hr' hx; subst hr'; subst hx; exact h1
   | succ i => exact hr i r' x (by simpa using hr') (by simpa using hx)
  ·cases h
theorem endR_rel {st : Nat → Prop} {n : Nat} (h : Sim c σ β a w) {v : ResultVar} {r : Rv} (he : endR c.P σ v (σ.regs (rvTmp v)) r) (h1 : ∀ b, stF c σ β w b → st b) (h2 : r.isFresh = false → ∀ o y b, σ.mem o = some y → ownB (β o) = some b → NotDef w b → st b)
  (h3 : r.isFresh = true → ∀ o y b, o < 1000000000 → σ.mem o = some y → ownB (β o) = some b → n ≤ b) :
  ∃ u, (match v with
   | .tmp t => pure (a.tmps.getD t undef)
   | .cell x t => do loadVar t (← asAddr (a.tmps.getD x undef)) : Sem Value).run c.P w = .ok u w ∧ RelV st w n u r := by
 have hreg := h.reg (rvTmp v)
 cases v with
 | tmp t =>
  refine ⟨_, rfl, ?_⟩
  simp only [rvTmp] at hreg he
  cases r with
  | a x =>
   cases x with
   | d x => exact endD_rel h hreg he h1 (h2 rfl)
   | ag xs =>
    simp only [endR] at he
    rw [he] at hreg
    exact RelA.mono (fun b hb => ⟨h1 b hb, rfl⟩) hreg.inv_a
  | clip ys =>
   generalize σ.regs t = rr at he hreg
   generalize a.tmps.getD t undef = vv at hreg ⊢
   cases rr <;> simp only [endR] at he
   subst he
   obtain ⟨p, k, hv, hr⟩ := hreg.inv_cs
   exact ⟨p, k, hv, by rw [hv]; exact hr.mono fun b hb => ⟨h1 b hb, rfl⟩⟩
  | fresh e z ys =>
   generalize σ.regs t = rr at he hreg
   cases rr <;> simp only [endR] at he
   rename_i o
   obtain ⟨cells, hr, hf, hl⟩ := h.obj _ _ he.2
   rw [hreg.inv_own]
   exact ⟨⟨cells, hr, hf.mono fun _ _ => Rd.mono fun b hb => ⟨h1 b hb, rfl⟩, hl⟩, fun b hb => h3 rfl o _ b he.1 he.2 hb⟩
 | cell x t =>
  simp only [rvTmp] at hreg he
  generalize hrr : σ.regs x = rr at he hreg
  cases r with
  | clip ys => cases rr <;> simp only [endR] at he
  | fresh e z ys => cases rr <;> simp only [endR] at he
  | a y =>
   cases rr with
   | ref o off =>
    obtain ⟨b, hb, hv⟩ := hreg.inv_ref
    cases y with
    | d y =>
     simp only [endR] at he
     split at he
     ·rename_i cs ti hm hti
      obtain ⟨hag, he⟩ := he
      split at he
      ·rename_i rc hrc
       obtain ⟨b', arr, e, hb', hh, hf⟩ := h.obj _ _ hm
       rw [hb] at hb'; cases hb'
       obtain ⟨u, hu, _, hr⟩ := hf.get hrc
       exact ⟨u, by simp only [hv, Sem.run_bind, asAddr, Sem.run_pure, Result.andThen_ok]; exact run_loadVar_one hti hag hh (by simpa using hu), endD_rel h hr he h1 (h2 rfl)⟩
      ·exact he.elim
     ·exact he.elim
    | ag xs =>
     simp only [endR] at he
     split at he
     ·rename_i cs ti hm hti
      obtain ⟨hag, hle, he⟩ := he
      obtain ⟨b', arr, e, hb', hh, hf⟩ := h.obj _ _ hm
      rw [hb] at hb'; cases hb'
      obtain ⟨hl, hat⟩ := endDs_at he
      have ff := (hf.drop off).take ti.sz
      have hlen : ((arr.toList.drop off).take ti.sz).length = ti.sz := by rw [ff.1]; simp; omega
      refine ⟨.agg ((arr.toList.drop off).take ti.sz).toArray, ?_, _, rfl, by rw [ff.1, hl], fun i u d hu hd => ?_⟩
      ·simp only [hv, Sem.run_bind, asAddr, Sem.run_pure, Result.andThen_ok]
       refine run_loadVar_agg hti hag hh hlen fun j u hj => ?_
       rw [List.getElem?_take] at hj
       split at hj
       ·rw [List.getElem?_drop] at hj; simpa using hj
       ·cases hj
      ·have hi := (List.getElem?_eq_some_iff.1 hd).1
       rw [← hl] at hi
       exact endD_rel h (ff.2 i u _ hu (List.getElem?_eq_getElem hi)).2 (hat i _ d (List.getElem?_eq_getElem hi) hd) h1 (h2 rfl)
     ·exact he.elim
   | a z =>
    cases z with
    | ag _ => cases y <;> simp only [endR] at he
    | d z =>
     cases z with
     | pt cs =>
      have hpt := hreg.inv_d
      obtain ⟨b, off, arr, e, fr, hv, hst, hh, hc⟩ := hpt.inv_pt
      cases y with
      | d y =>
       simp only [endR] at he
       split at he
       ·rename_i ti hti
        obtain ⟨u, hu, hr⟩ := hc 0 y he.2
        exact ⟨u, by simp only [hv, Sem.run_bind, asAddr, Sem.run_pure, Result.andThen_ok]; exact run_loadVar_one hti he.1 hh (by simpa using hu), Rd.mono (fun b hb => ⟨h1 b hb, rfl⟩) hr⟩
       ·exact he.elim
      | ag xs =>
       simp only [endR] at he
       split at he
       ·rename_i ti hti
        obtain ⟨hag, hle, rfl⟩ := he
        have hcell : ∀ j d, (cs.take ti.sz)[j]? = some d → ∃ u, arr.toList[off + j]? = some u ∧ Rd (stF c σ β w) w u d := by
         intro j d hj
         rw [List.getElem?_take] at hj
         split at hj
         ·obtain ⟨u, hu, hr⟩ := hc j d hj
          exact ⟨u, by simpa using hu, hr⟩
         ·cases hj
        refine ⟨.agg ((List.range ti.sz).map fun j => arr.toList.getD (off + j) undef).toArray, ?_, _, rfl, by simp; omega, fun i u d hu hd => ?_⟩
        ·simp only [hv, Sem.run_bind, asAddr, Sem.run_pure, Result.andThen_ok]
         refine run_loadVar_agg hti hag hh (by simp) fun j u hj => ?_
         simp only [List.getElem?_map, Option.map_eq_some_iff] at hj
         obtain ⟨j', hj', rfl⟩ := hj
         obtain ⟨hlt, rfl⟩ := List.getElem?_eq_some_iff.1 hj'
         simp only [List.length_range] at hlt
         obtain ⟨u, hu, _⟩ := hcell j _ (List.getElem?_eq_getElem (by simp; omega))
         simp only [List.getElem_range]
         rw [← Array.getElem?_toList, hu, List.getD_eq_getElem?_getD, hu]; rfl
        ·simp only [List.getElem?_map, Option.map_eq_some_iff] at hu
         obtain ⟨j', hj', rfl⟩ := hu
         obtain ⟨hlt, rfl⟩ := List.getElem?_eq_some_iff.1 hj'
         simp only [List.getElem_range]
         obtain ⟨u, hu, hr⟩ := hcell i d hd
         rw [List.getD_eq_getElem?_getD, hu]
         exact Rd.mono (fun b hb => ⟨h1 b hb, rfl⟩) hr
       ·exact he.elim
     | v x => cases y <;> simp only [endR] at he
     | sl xs => cases y <;> simp only [endR] at he
     | fn f cs => cases y <;> simp only [endR] at he
     | mp kv => cases y <;> simp only [endR] at he
   | any => cases y <;> simp only [endR] at he
   | cs _ => cases y <;> simp only [endR] at he
   | eref _ _ _ _ => cases y <;> simp only [endR] at he
   | sem _ _ => cases y <;> simp only [endR] at he
   | agr _ => cases y <;> simp only [endR] at he
   | own _ => cases y <;> simp only [endR] at he
   | omp _ => cases y <;> simp only [endR] at he
   | clo _ _ => cases y <;> simp only [endR] at he
   | tp _ => cases y <;> simp only [endR] at he
def resG (tmps : Array Value) : ResultVar → Sem Value
 | .tmp t => pure (tmps.getD t undef)
 | .cell x t => do loadVar t (← asAddr (tmps.getD x undef))
def resV (P : Program) (tmps : Array Value) (w : World) (v : ResultVar) : Value :=
 match (resG tmps v).run P w with
 | .ok u _ => u
 | _ => undef
theorem resV_of {P : Program} {tmps : Array Value} {v : ResultVar} {u : Value} (h : (resG tmps v).run P w = .ok u w) : resV P tmps w v = u := by simp [resV, h]
theorem endR_at {st : Nat → Prop} {n : Nat} (h : Sim c σ β a w) {v : ResultVar} {r : Rv} (he : endR c.P σ v (σ.regs (rvTmp v)) r) (h1 : ∀ b, stF c σ β w b → st b) (h2 : r.isFresh = false → ∀ o y b, σ.mem o = some y → ownB (β o) = some b → NotDef w b → st b)
  (h3 : r.isFresh = true → ∀ o y b, o < 1000000000 → σ.mem o = some y → ownB (β o) = some b → n ≤ b) :
  (resG a.tmps v).run c.P w = .ok (resV c.P a.tmps w v) w ∧ RelV st w n (resV c.P a.tmps w v) r := by
 obtain ⟨u, hu, hr⟩ := endR_rel (n := n) h he h1 h2 h3
 have hu' : (resG a.tmps v).run c.P w = .ok u w := by cases v <;> exact hu
 rw [resV_of hu']
 exact ⟨hu', hr⟩
theorem endRs_at {P : Program} : ∀ {vs : List ResultVar} {rs : List Rv}, endRs P σ vs rs → vs.length = rs.length ∧ ∀ (i : Nat) (v : ResultVar) (r : Rv), vs[i]? = some v → rs[i]? = some r → endR P σ v (σ.regs (rvTmp v)) r
 | [], [], _ => ⟨rfl, fun i v r hv => by simp at hv⟩
 | [], _ :: _, h => h.elim
 | _ :: _, [], h => h.elim
 | v :: vs, r :: rs, h => by
  obtain ⟨h0, hs⟩ := h
  obtain ⟨hl, hr⟩ := endRs_at hs
  refine ⟨by simp [hl], fun i v' r' hv' hr' => ?_⟩
  cases i with
  | zero => simp at hv' hr'; subst hv'; subst hr'; exact h0
  | succ i => exact hr i v' r' (by simpa using hv') (by simpa using hr')
theorem endR_fresh {P : Program} {v : ResultVar} {r : Rv} (he : endR P σ v (σ.regs (rvTmp v)) r) (hr : r.isFresh = true) : ∃ t o e z ys, v = .tmp t ∧ σ.regs t = .own o ∧ o < 1000000000 ∧ σ.mem o = some (.log e z ys) := by
 cases r with
 | a x => cases hr
 | clip x => cases hr
 | fresh e z ys =>
  cases v with
  | cell x t =>
   simp only [rvTmp] at he
   generalize σ.regs x = rr at he
   cases rr <;> simp only [endR] at he
  | tmp t =>
   simp only [rvTmp] at he
   generalize hrr : σ.regs t = rr at he
   cases rr <;> simp only [endR] at he
   exact ⟨_, _, _, _, _, rfl, hrr, he.1, he.2⟩
theorem filter_one {α : Type} {p : α → Bool} : ∀ {l : List α} {i j : Nat} {x y : α}, (l.filter p).length ≤ 1 → l[i]? = some x → l[j]? = some y → p x = true → p y = true → i = j
 | [], i, j, x, y, _, h, _, _, _ => by simp at h
 | a :: l, 0, 0, x, y, _, _, _, _, _ => rfl
 | a :: l, 0, j + 1, x, y, hl, hx, hy, px, py => by
  simp at hx; subst hx
  have hy' : l[j]? = some y := by simpa using hy
  have : y ∈ l.filter p := List.mem_filter.2 ⟨List.mem_of_getElem? hy', py⟩
  simp only [List.filter_cons, px, if_true, List.length_cons] at hl
  have := List.length_pos_of_mem this
  omega
 | a :: l, i + 1, 0, x, y, hl, hx, hy, px, py => by
  simp at hy; subst hy
  have hx' : l[i]? = some x := by simpa using hx
  have : x ∈ l.filter p := List.mem_filter.2 ⟨List.mem_of_getElem? hx', px⟩
  simp only [List.filter_cons, py, if_true, List.length_cons] at hl
  have := List.length_pos_of_mem this
  omega
 | a :: l, i + 1, j + 1, x, y, hl, hx, hy, px, py => by
  have : (l.filter p).length ≤ 1 := by
   simp only [List.filter_cons] at hl
   split at hl
   ·simp only [List.length_cons] at hl; omega
   ·exact hl
  exact congrArg (· + 1) (filter_one this (by simpa using hx) (by simpa using hy) px py)
theorem Rv.flat_rel {st st' : Nat → Prop} {n : Nat} {u : Value} {r : Rv} (hf : r.flat = true) (h : RelV st w n u r) : RelV st' w n u r := by
 cases r with
 | a x => exact A.flat_rel hf h
 | clip _ => cases hf
 | fresh _ _ _ => cases hf
def ctx (P : Program) (gl : Nat → Option (List D)) (st : Nat → Prop) (w : World) (N : Nat) : Cx := ⟨P, gl, fun _ => False, st, w, N, [], fun _ _ h => h, [], fun _ _ => True, fun _ _ => trivial, []⟩
theorem init_sim {P : Program} {gl : Nat → Option (List D)} {st : Nat → Prop} {N : Nat} {as : List A} {vs : List Value} (he : EnvOk gl st w) (hv : F2 (RelA st w) vs as) (hN : as.length ≤ N) :
  Sim (ctx P gl st w N) (S.init as) β { tmps := vs.toArray ++ Array.replicate (N - vs.toArray.size) undef, defers := [] } w := by
 have hst : ∀ b, (st b ∧ b < w.heap.size ∧ NotDef w b) → stF (ctx P gl st w N) (S.init as) β w b ∧ w.heap[b]? = w.heap[b]? := fun b hb => ⟨⟨hb.2.1, fun _ => hb.1, fun o x hx => (by simp [S.init] at hx), hb.2.2⟩, rfl⟩
 have hl := hv.1
 refine ⟨Keep.refl _ _, ?_, ⟨[], rfl, List.nodup_nil, fun D hD => (by cases hD), fun y hy => (by cases hy)⟩, trivial, fun o x hx => by simp [S.init] at hx, fun o x b hx => by simp [S.init] at hx, fun o o' x x' b hx => by simp [S.init] at hx, fun t => ?_, he.here.mono hst⟩
 ·simp [ctx]; omega
 ·simp only [S.init, initR]
  split
  ·rename_i x hx
   obtain ⟨v, hv', hr⟩ := hv.get hx
   have ht := (List.getElem?_eq_some_iff.1 hv').1
   have : (vs.toArray ++ Array.replicate (N - vs.toArray.size) undef).getD t undef = v := by
    rw [Array.getD_eq_getD_getElem?, Array.getElem?_append_left (by simpa using ht)]
    simp [hv']
   rw [this]
   exact .a (hr.here.mono hst)
  ·exact .any
theorem marks_out {c : Cx} {n : Nat} {fn : Func} {R : Ending → World → Prop} {σ : S} {β : Nat → Value} (hdf : c.df = []) : ∀ (Ds : List Nat) {a : Act} {w : World}, Sim c σ β a w → a.defers = Ds.map markD → MarksOk c σ β w (Ds ++ c.M) →
  (∀ a' w', a'.tmps = a.tmps → a'.defers = [] → Sim c σ β a' w' → ∃ v, (results fn a'.tmps).run c.P w' = .ok v w' ∧ R (.returned v) w') → LeavesInM Fence.wide n c.P fn a.tmps R (Ds.map markD) .returning w
 | [], a, w, hs, hd, hm, hR => by
  obtain ⟨v, hv, hr⟩ := hR a w rfl hd hs
  exact ⟨v, hv, hr⟩
 | D :: Ds, a, w, hs, hd, hm, hR => by
  obtain ⟨h1, h2, h3⟩ := hm.ok D (by simp)
  have hlt := lt_of_some h2
  have hnd := hm.nd
  simp only [List.cons_append, List.nodup_cons] at hnd
  refine ⟨by simp, .inl ⟨D, w.putObj D (.deferred none), rfl, run_takeDeferred h2, ?_⟩⟩
  have ho : ∀ k, k ≠ D → (w.putObj D (.deferred none)).heap[k]? = w.heap[k]? := fun k hk => World.putObj_heap_other hk
  have hk : Keep (fun b => b = D) w (w.putObj D (.deferred none)) := ⟨rfl, rfl, rfl, by simp [World.putObj], fun k _ hk => ho k hk⟩
  have H : ∀ b, stF c σ β w b → stF c σ β (w.putObj D (.deferred none)) b ∧ (w.putObj D (.deferred none)).heap[b]? = w.heap[b]? := fun b hb => by
   have hne : b ≠ D := fun e => hb.2.2.2.1 _ (e ▸ h2)
   exact ⟨⟨Nat.lt_of_lt_of_le hb.1 hk.size, hb.2.1, hb.2.2.1, hb.2.2.2.same (ho b hne)⟩, ho b hne⟩
  have hm' : MarksOk c σ β (w.putObj D (.deferred none)) (Ds ++ c.M) := ⟨hnd.2, fun D' hD' => by
   obtain ⟨g1, g2, g3⟩ := hm.ok D' (by simp only [List.cons_append, List.mem_cons]; exact .inr hD')
   exact ⟨g1, (ho D' fun e => hnd.1 (e ▸ hD')).trans g2, g3⟩, fun y hy => by
   obtain ⟨g1, g2, g3⟩ := hm.lp y hy
   exact ⟨g1, (ho y.1 fun e => by rw [e, h2] at g2; cases g2).trans g2, g3⟩⟩
  exact marks_out hdf Ds (a := { a with defers := Ds.map markD }) (w := w.putObj D (.deferred none))
   ⟨hs.keep.trans hk (fun j e hj => by omega), hs.size, ⟨Ds, by rw [hdf]; simp, hm'⟩, c.hE H hs.ext, fun o x hx => (hs.obj o x hx).mono H fun b hb => ho b fun e => h3 o x hx (e ▸ hb), hs.blk, hs.dis, fun t => (hs.reg t).mono H, hs.env.mono H⟩
   rfl hm' hR
theorem holds_of {P : Program} {gl : Nat → Option (List D)} {f : FuncId} {fn : Func} {body : Code} {as : List A} {res : List Rv} (hm : P.follows .mixedOrders = true)
  (hf : P.funcs[f]? = some fn) (hb : fn.body = some body) (hname : (fn.name == "runtime.NumGoroutine") = false) (hd : dstOK fn.ntmps body = true) (hN : as.length ≤ fn.ntmps)
  (h : awp P gl body (postA P fn res) (S.init as)) : Holds P gl f as res := by
 refine ⟨⟨fn, hf, by rw [hb]; rfl, hname⟩, fun st w vs he hv => ?_⟩
 rw [← callsIn_wide (n := 0)]
 refine callsIn_of_wp_marks hf hb trivial ?_
 have hwf : Fence.wide = WF none := rfl
 rw [hwf]
 refine wpIn_mono (awp_sound (c := ctx P gl st w fn.ntmps) (β := fun _ => undef) (ρ := none) hm body hd (.inl rfl) h (init_sim he hv hN)) fun e a w' hq => ?_
 have fin : ∀ σ β a w', Sim (ctx P gl st w fn.ntmps) σ β a w' → aloneRs res → endRs P σ fn.results.toList res → ∃ v, (results fn a.tmps).run P w' = .ok v w' ∧ ∃ us : List Value, Ending.returned v = .returned (retV us) ∧ Keep (fun _ => False) w w' ∧
   F2 (RelV (newSt st w w' us res) w' w.heap.size) us res ∧
   (∀ (i j : Nat) (u u' : Value) (r r' : Rv) (b : Nat), us[i]? = some u → us[j]? = some u' → res[i]? = some r → res[j]? = some r' → r.isFresh = true → r'.isFresh = true → ownB u = some b → ownB u' = some b → i = j) := by
  intro σ β a w' hs hal hends
  obtain ⟨hlen, hat⟩ := endRs_at hends
  have hbig : ∀ v r, endR P σ v (σ.regs (rvTmp v)) r → (resG a.tmps v).run P w' = .ok (resV P a.tmps w' v) w' ∧ RelV (fun _ => True) w' w.heap.size (resV P a.tmps w' v) r := fun v r he =>
   endR_at hs he (fun _ _ => trivial) (fun _ _ _ _ _ _ _ => trivial) fun _ o y b ho hm hb => (hs.blk o y b hm hb).elim id fun hx => hx.1.elim
  let us : List Value := fn.results.toList.map (resV P a.tmps w')
  have husat : ∀ (i : Nat) (u : Value), us[i]? = some u → ∃ v, fn.results.toList[i]? = some v ∧ u = resV P a.tmps w' v := fun i u hu => by
   simp only [us, List.getElem?_map, Option.map_eq_some_iff] at hu
   obtain ⟨v, hv, rfl⟩ := hu
   exact ⟨v, hv, rfl⟩
  have hfr : ∀ b, freshB us res b → ∃ o y, σ.mem o = some y ∧ ownB (β o) = some b := fun b ⟨i, u, r, hu, hr, hfr, hob⟩ => by
   obtain ⟨v, hv, rfl⟩ := husat i u hu
   obtain ⟨t, o, e, z, ys, rfl, hreg, ho, hm⟩ := endR_fresh (hat i v r hv hr) hfr
   have hx := hs.reg t
   rw [hreg] at hx
   have hval : resV P a.tmps w' (.tmp t) = β o := by rw [resV_of (u := a.tmps.getD t undef) rfl]; exact hx.inv_own
   rw [hval] at hob
   exact ⟨o, _, hm, hob⟩
  have h1 : ∀ b, stF (ctx P gl st w fn.ntmps) σ β w' b → newSt st w w' us res b := fun b ⟨hlt, h0, hno, hndf⟩ => by
   by_cases hlt' : b < w.heap.size
   ·exact .inl ⟨h0 hlt', hlt'⟩
   ·exact .inr ⟨Nat.not_lt.1 hlt', hlt, fun hf => (let ⟨o, y, hm, hb⟩ := hfr b hf; hno o y hm hb), hndf⟩
  have hrel : ∀ (i : Nat) (u : Value) (r : Rv), us[i]? = some u → res[i]? = some r → RelV (newSt st w w' us res) w' w.heap.size u r := fun i u r hu hr => by
   obtain ⟨v, hv, rfl⟩ := husat i u hu
   have he := hat i v r hv hr
   have h3 : ∀ o y b, σ.mem o = some y → ownB (β o) = some b → w.heap.size ≤ b := fun o y b hm hb => (hs.blk o y b hm hb).elim id fun hx => hx.1.elim
   rcases hal with hal | ⟨hone, hall⟩
   ·have hnone : ∀ b, ¬ freshB us res b := fun b ⟨i, u, r, hu, hr, hfr, hob⟩ => by
     have := List.all_eq_true.1 hal r (List.mem_of_getElem? hr)
     rw [hfr] at this; cases this
    exact (endR_at hs he h1 (fun _ o y b hm hb hq => .inr ⟨h3 o y b hm hb, (hs.obj o y hm).lt hb, hnone b, hq⟩) fun _ o y b _ hm hb => h3 o y b hm hb).2
   ·cases hrf : r.isFresh with
    | true => exact (endR_at hs he h1 (fun hn => by rw [hrf] at hn; cases hn) fun _ o y b _ hm hb => h3 o y b hm hb).2
    | false =>
     have := List.all_eq_true.1 hall r (List.mem_of_getElem? hr)
     rw [hrf, Bool.false_or] at this
     exact Rv.flat_rel this (hbig v r he).2
  refine ⟨retV us, ?_, us, rfl, hs.keep, ⟨by simp [us, hlen], hrel⟩, fun i j u u' r r' b hu hu' hr hr' hfr' hfr'' _ _ => ?_⟩
  ·have hrun : (fn.results.mapM (resG a.tmps)).run P w' = .ok us.toArray w' := run_mapM_arr _ (resV P a.tmps w') fun v hv => by
    obtain ⟨i, hi⟩ := List.getElem?_of_mem hv
    obtain ⟨hlt, _⟩ := List.getElem?_eq_some_iff.1 hi
    exact (hbig v _ (hat i v _ hi (List.getElem?_eq_getElem (by rw [← hlen]; exact hlt)))).1
   have : results fn a.tmps = (do let vs ← fn.results.mapM (resG a.tmps); pure (if h : vs.size = 1 then vs[0] else .tuple vs)) := rfl
   rw [this, Sem.run_bind, hrun, Result.andThen_ok]
   show Result.ok _ _ = _
   congr 1
   match us with
   | [] => rfl
   | [_] => rfl
   | _ :: _ :: _ => simp [retV]
  ·rcases hal with hal | ⟨hone, _⟩
   ·have := List.all_eq_true.1 hal r (List.mem_of_getElem? hr)
    rw [hfr'] at this; cases this
   ·exact filter_one hone hr hr' hfr' hfr''
 cases e with
 | normal =>
  obtain ⟨σ, β, hs, hk⟩ := hq
  obtain ⟨Ds, hd, hm⟩ := hs.df
  rw [show (ctx P gl st w fn.ntmps).df = [] from rfl, List.append_nil] at hd
  show LeavesInM _ _ P fn a.tmps _ a.defers .returning w'
  rw [hd]
  exact marks_out rfl Ds hs hd hm fun a' w' _ _ hs' => fin σ β a' w' hs' hk.1 hk.2
 | ret =>
  obtain ⟨σ, β, hs, hk⟩ := hq
  obtain ⟨Ds, hd, hm⟩ := hs.df
  rw [show (ctx P gl st w fn.ntmps).df = [] from rfl, List.append_nil] at hd
  show LeavesInM _ _ P fn a.tmps _ a.defers .returning w'
  rw [hd]
  exact marks_out rfl Ds hs hd hm fun a' w' _ _ hs' => fin σ β a' w' hs' hk.1 hk.2
 | exit id => obtain ⟨σ, β, hs, hk⟩ := hq; exact hk.elim
 | goto l => exact hq.elim
 | panic ch => obtain ⟨_, _, _, _, _, _, _, _, hk⟩ := hq; exact hk.elim
 | outgrown => exact hq.elim
end
end Go.VC
end
section
set_option maxRecDepth 100000
namespace Go.VC
open Go.RowKit
def tick : Bool := true
theorem tick_eq : tick = true := by unfold tick; exact Eq.trans rfl rfl
def mat {α : Type} (x : Option α) (K : α → Prop) : Prop := match x with
 | some y => K y
 | none => False
theorem mat_congr {α : Type} {x x' : Option α} {K : α → Prop} {tk0 : Bool} (hT : tick = tk0) (h : x = x') : mat x K = mat x' K := by rw [h]
theorem mat_some {α : Type} {x : α} {K : α → Prop} : mat (some x) K = K x := rfl
theorem mat_none {α : Type} {K : α → Prop} : mat none K = False := rfl
theorem fc_go {r : R} {K : R → Prop} : fc r K = K r := rfl
theorem fc_congr {r r' : R} {K : R → Prop} {tk0 : Bool} (hT : tick = tk0) (h : r = r') : fc r K = fc r' K := by rw [h]
theorem brK_congr {b b' : Bool} {X Y : Prop} {tk0 : Bool} (hT : tick = tk0) (h : b = b') : brK b X Y = brK b' X Y := by rw [h]
theorem brK_true {X Y : Prop} : brK true X Y = X := by simp [brK]
theorem brK_false {X Y : Prop} : brK false X Y = Y := by simp [brK]
def spK (p : Prop) (K : Bool → Prop) : Prop := (p → K true) ∧ (¬ p → K false)
theorem spK_eq {p : Prop} [Decidable p] {K : Bool → Prop} : K (decide p) = spK p K := by
 by_cases h : p <;> simp [spK, h]
theorem spK_congr {p p' : Prop} {K : Bool → Prop} {tk0 : Bool} (hT : tick = tk0) (h : p = p') : spK p K = spK p' K := by rw [h]
theorem spK_true {K : Bool → Prop} : spK True K = K true := by simp [spK]
theorem spK_false {K : Bool → Prop} : spK False K = K false := by simp [spK]
theorem awp_congr {P : Program} {gl : Nat → Option (List D)} {c : Code} {Q : Ex → S → Prop} {σ : S} {tk0 : Bool} (hT : tick = tk0) : awp P gl c Q σ = awp P gl c Q σ := rfl
attribute [congr] spK_congr mat_congr fc_congr brK_congr awp_congr
def inG (q : Bool) (X Y : Prop) : Prop := cond q X Y
theorem inG_congr {q q' : Bool} {X Y : Prop} {tk0 : Bool} (hT : tick = tk0) (h : q = q') : inG q X Y = inG q' X Y := by rw [h]
attribute [congr] inG_congr
theorem in_t {X Y : Prop} : inG true X Y = X := rfl
theorem in_f {X Y : Prop} : inG false X Y = Y := rfl
section
variable {P : Program} {gl : Nat → Option (List D)} {σ : S} {Q : Ex → S → Prop} {K : S → Prop} {KR : R → Prop}
theorem w_skip : awp P gl .skip Q σ = Q .normal σ := rfl
theorem w_label {l : Nat} : awp P gl (.label l) Q σ = Q .normal σ := rfl
theorem w_exit {id : Nat} : awp P gl (.exit id) Q σ = Q (.exit id) σ := rfl
theorem w_ret : awp P gl .ret Q σ = Q .ret σ := rfl
theorem w_seq {a b : Code} : awp P gl (.seq a b) Q σ = awp P gl a (Ex.then (awp P gl b Q) Q) σ := rfl
def condK (r : R) (X Y : Prop) : Prop := match r with
 | .a (.d (.v (.bool b))) => brK b X Y
 | _ => False
theorem condK_congr {r r' : R} {X Y : Prop} {tk0 : Bool} (hT : tick = tk0) (h : r = r') : condK r X Y = condK r' X Y := by rw [h]
attribute [congr] condK_congr
theorem condK_bool {b : Bool} {X Y : Prop} : condK (.a (.d (.v (.bool b)))) X Y = brK b X Y := rfl
theorem w_cond {c : Operand} {x y : Code} : awp P gl (.cond c x y) Q σ = condK (σ.eval gl c) (awp P gl x Q σ) (awp P gl y Q σ) := by
 simp only [awp, condK]
 generalize σ.eval gl c = r
 rcases r with _ | ((v | _ | _ | _ | _) | _) | _ | _ | _ | _ | _ | _ | _ <;> try rfl
theorem w_block {id : Nat} {c : Code} : awp P gl (.block id c) Q σ = awp P gl c (Ex.inBlock id Q) σ := rfl
theorem w_scope {c : Code} : awp P gl (.scope c) Q σ = SemCode P gl (.scope c) Q σ := rfl
theorem w_region {id : Nat} {l : List Oper} : awp P gl (.region id l.toArray false) Q σ = opsA P gl l.toArray l σ (Q .normal) := rfl
def drawK (ops : Array Oper) (X Y : Prop) : Prop := (DrawOk ops ∧ X) ∨ Y
theorem draw_sem {ops : Array Oper} {X Y : Prop} (y : Y) : drawK ops X Y := .inr y
theorem drawK_congr {ops : Array Oper} {X Y : Prop} {tk0 : Bool} (hT : tick = tk0) : drawK ops X Y = drawK ops X Y := rfl
attribute [congr] drawK_congr
theorem w_draw {id : Nat} {l : List Oper} : awp P gl (.region id l.toArray true) Q σ = drawK l.toArray (opsQ P gl l.toArray l σ (Q .normal)) (SemCode P gl (.region id l.toArray true) Q σ) := rfl
theorem e_then_n {next : S → Prop} : Ex.then next Q .normal σ = next σ := rfl
theorem e_then_e {next : S → Prop} {id : Nat} : Ex.then next Q (.exit id) σ = Q (.exit id) σ := rfl
theorem e_then_r {next : S → Prop} : Ex.then next Q .ret σ = Q .ret σ := rfl
theorem e_blk_n {id : Nat} : Ex.inBlock id Q .normal σ = Q .normal σ := rfl
theorem e_blk_r {id : Nat} : Ex.inBlock id Q .ret σ = Q .ret σ := rfl
theorem e_blk_same {id : Nat} : Ex.inBlock id Q (.exit id) σ = Q .normal σ := by simp [Ex.inBlock]
theorem e_blk_ne {id id' : Nat} (h : (id' == id) = false) : Ex.inBlock id Q (.exit id') σ = Q (.exit id') σ := by
 have : id' ≠ id := by simpa using h
 simp [Ex.inBlock, this]
theorem r_put_eq {d : Nat} {r : R} : (S.put σ (some d) r).regs d = r := by simp [S.put, upd]
theorem r_put_ne {d t : Nat} {r : R} (h : (d == t) = false) : (S.put σ (some d) r).regs t = σ.regs t := by
 have : t ≠ d := fun e => by simp [e] at h
 simp [S.put, upd, this]
theorem r_put_none {r : R} : S.put σ none r = σ := rfl
theorem m_put {d : Option Nat} {r : R} {o : Nat} : (S.put σ d r).mem o = σ.mem o := by cases d <;> rfl
theorem r_new {o t : Nat} {x : Ob} : (S.newOb σ o x).regs t = (σ.regs t).kill o := rfl
theorem m_new_eq {o : Nat} {x : Ob} : (S.newOb σ o x).mem o = some x := by simp [S.newOb, upd]
theorem m_new_ne {o o' : Nat} {x : Ob} (h : (o == o') = false) : (S.newOb σ o x).mem o' = (σ.mem o').map (Ob.kill o) := by
 have : o' ≠ o := fun e => by simp [e] at h
 simp [S.newOb, upd, this]
theorem r_set {o t : Nat} {x : Ob} : (S.setOb σ o x).regs t = σ.regs t := rfl
theorem m_set_eq {o : Nat} {x : Ob} : (S.setOb σ o x).mem o = some x := by simp [S.setOb, upd]
theorem m_set_ne {o o' : Nat} {x : Ob} (h : (o == o') = false) : (S.setOb σ o x).mem o' = σ.mem o' := by
 have : o' ≠ o := fun e => by simp [e] at h
 simp [S.setOb, upd, this]
theorem r_frz {o t : Nat} {f : Nat → D} : (S.frz σ o f).regs t = (σ.regs t).frz o f := rfl
theorem m_frz_ne {o o' : Nat} {f : Nat → D} (h : (o == o') = false) : (S.frz σ o f).mem o' = (σ.mem o').map (Ob.frz o f) := by
 have : o' ≠ o := fun e => by simp [e] at h
 simp [S.frz, this]
theorem m_frz_eq {o : Nat} {f : Nat → D} : (S.frz σ o f).mem o = none := by simp [S.frz]
theorem r_init {as : List A} {t : Nat} : (S.init as).regs t = initR as t := rfl
theorem m_init {as : List A} {o : Nat} : (S.init as).mem o = none := rfl
theorem r_init_0 {x : A} {as : List A} : initR (x :: as) 0 = .a x := rfl
theorem r_init_s {x : A} {as : List A} {t : Nat} : initR (x :: as) (t + 1) = initR as t := rfl
theorem k_a {o : Nat} {x : A} : (R.a x).kill o = .a x := rfl
theorem k_any {o : Nat} : R.any.kill o = .any := rfl
theorem k_cs {o : Nat} {xs : List (List D)} : (R.cs xs).kill o = .cs xs := rfl
theorem k_ref_ne {o o' f : Nat} (h : (o' == o) = false) : (R.ref o' f).kill o = .ref o' f := by simp [R.kill, R.says, R.says0, h]
theorem k_ref_eq {o f : Nat} : (R.ref o f).kill o = .any := by simp [R.kill, R.says, R.says0]
theorem k_eref_ne {o o' i s f : Nat} (h : (o' == o) = false) : (R.eref o' i s f).kill o = .eref o' i s f := by simp [R.kill, R.says, R.says0, h]
theorem k_eref_eq {o i s f : Nat} : (R.eref o i s f).kill o = .any := by simp [R.kill, R.says, R.says0]
theorem k_own_ne {o o' : Nat} (h : (o' == o) = false) : (R.own o').kill o = .own o' := by simp [R.kill, R.says, R.says0, h]
theorem k_own_eq {o : Nat} : (R.own o).kill o = .any := by simp [R.kill, R.says, R.says0]
theorem k_omp_ne {o o' : Nat} (h : (o' == o) = false) : (R.omp o').kill o = .omp o' := by simp [R.kill, R.says, R.says0, h]
theorem k_omp_eq {o : Nat} : (R.omp o).kill o = .any := by simp [R.kill, R.says, R.says0]
theorem k_tp {o : Nat} {xs : List R} (h : xs.any (R.says0 o) = false) : (R.tp xs).kill o = .tp xs := by simp only [R.kill, R.says, h]; rfl
theorem f_tp {o : Nat} {f : Nat → D} {xs : List R} (h : xs.any (R.says0 o) = false) : (R.tp xs).frz o f = .tp xs := by simp only [R.frz, R.says, h]; rfl
theorem sy_a {o : Nat} {x : A} : (R.a x).says0 o = false := rfl
theorem sy_cs {o : Nat} {x : List (List D)} : (R.cs x).says0 o = false := rfl
theorem an_nil {p : R → Bool} : [].any p = false := rfl
theorem an_cons {p : R → Bool} {x : R} {xs : List R} : (x :: xs).any p = (p x || xs.any p) := rfl
theorem or_ff : (false || false) = false := rfl
theorem ok_box {o : Nat} {cs : List R} : (Ob.box cs).kill o = .box (cs.map (R.kill o)) := rfl
theorem ok_log {o : Nat} {e : TypeId} {z : Nat} {xs : List (List D)} : (Ob.log e z xs).kill o = .log e z xs := rfl
theorem ok_mpo {o : Nat} {kv : List (Int × D)} : (Ob.mpo kv).kill o = .mpo kv := rfl
theorem f_a {o : Nat} {f : Nat → D} {x : A} : (R.a x).frz o f = .a x := rfl
theorem f_any {o : Nat} {f : Nat → D} : R.any.frz o f = .any := rfl
theorem f_cs {o : Nat} {f : Nat → D} {xs : List (List D)} : (R.cs xs).frz o f = .cs xs := rfl
theorem f_own_eq {o : Nat} {f : Nat → D} : (R.own o).frz o f = .a (.d (f 0)) := by simp [R.frz]
theorem f_own_ne {o o' : Nat} {f : Nat → D} (h : (o' == o) = false) : (R.own o').frz o f = .own o' := by
 have : o' ≠ o := by simpa using h
 simp [R.frz, this]
theorem f_omp_eq {o : Nat} {f : Nat → D} : (R.omp o).frz o f = .a (.d (f 0)) := by simp [R.frz]
theorem f_omp_ne {o o' : Nat} {f : Nat → D} (h : (o' == o) = false) : (R.omp o').frz o f = .omp o' := by
 have : o' ≠ o := by simpa using h
 simp [R.frz, this]
theorem f_ref_eq {o g : Nat} {f : Nat → D} : (R.ref o g).frz o f = .a (.d (f g)) := by simp [R.frz]
theorem f_ref_ne {o o' g : Nat} {f : Nat → D} (h : (o' == o) = false) : (R.ref o' g).frz o f = .ref o' g := by
 have : o' ≠ o := by simpa using h
 simp [R.frz, this]
theorem f_eref_eq {o i s g : Nat} {f : Nat → D} : (R.eref o i s g).frz o f = .any := by simp [R.frz, R.says, R.says0]
theorem f_eref_ne {o o' i s g : Nat} {f : Nat → D} (h : (o' == o) = false) : (R.eref o' i s g).frz o f = .eref o' i s g := by
 simp [R.frz, R.says, R.says0, h]
theorem of_box {o : Nat} {f : Nat → D} {cs : List R} : (Ob.box cs).frz o f = .box (cs.map (R.frz o f)) := rfl
theorem of_log {o : Nat} {f : Nat → D} {e : TypeId} {z : Nat} {xs : List (List D)} : (Ob.log e z xs).frz o f = .log e z xs := rfl
theorem of_mpo {o : Nat} {f : Nat → D} {kv : List (Int × D)} : (Ob.mpo kv).frz o f = .mpo kv := rfl
def S.of (L : List (Nat × R)) (M : List (Nat × Ob)) (j : S) : S where
 regs t := match L.find? (fun p => p.1 == t) with
  | some p => p.2
  | none => j.regs t
 mem o := match M.find? (fun p => p.1 == o) with
  | some p => some p.2
  | none => j.mem o
theorem r_of_eq {t : Nat} {r : R} {L : List (Nat × R)} {M : List (Nat × Ob)} : (S.of ((t, r) :: L) M σ).regs t = r := by simp [S.of]
theorem r_of_ne {d t : Nat} {r : R} {L : List (Nat × R)} {M : List (Nat × Ob)} (h : (d == t) = false) : (S.of ((d, r) :: L) M σ).regs t = (S.of L M σ).regs t := by simp only [S.of, List.find?_cons, h]
theorem m_of_eq {o : Nat} {x : Ob} {L : List (Nat × R)} {M : List (Nat × Ob)} : (S.of L ((o, x) :: M) σ).mem o = some x := by simp [S.of]
theorem m_of_ne {o o' : Nat} {x : Ob} {L : List (Nat × R)} {M : List (Nat × Ob)} (h : (o == o') = false) : (S.of L ((o, x) :: M) σ).mem o' = (S.of L M σ).mem o' := by simp only [S.of, List.find?_cons, h]
def hasR (σ : S) : List (Nat × R) → Prop
 | [] => True
 | (t, r) :: L => σ.regs t = r ∧ hasR σ L
def hasM (σ : S) : List (Nat × Ob) → Prop
 | [] => True
 | (o, x) :: M => σ.mem o = some x ∧ hasM σ M
theorem S.of_self {L : List (Nat × R)} {M : List (Nat × Ob)} (h : hasR σ L) (k : hasM σ M) : σ = S.of L M σ := by
  have h1 : ∀ L, hasR σ L → ∀ t, (match L.find? (fun p => p.1 == t) with
    | some p => p.2
    | none => σ.regs t) = σ.regs t := by
    intro L
    induction L with
    | nil => intro _ t; rfl
    | cons p L ih =>
      intro h t
      obtain ⟨t', r⟩ := p
      simp only [List.find?_cons]
      cases e : t' == t with
      | true => obtain rfl : t' = t := by simpa using e
                exact h.1.symm
      | false => exact ih h.2 t
  have h2 : ∀ M, hasM σ M → ∀ o, (match M.find? (fun p => p.1 == o) with
    | some p => some p.2
    | none => σ.mem o) = σ.mem o := by
    intro M
    induction M with
    | nil => intro _ t; rfl
    | cons p M ih =>
      intro h t
      obtain ⟨t', r⟩ := p
      simp only [List.find?_cons]
      cases e : t' == t with
      | true => obtain rfl : t' = t := by simpa using e
                exact h.1.symm
      | false => exact ih h.2 t
  show σ = ⟨_, _⟩
  rw [show (fun t => match L.find? (fun p => p.1 == t) with
    | some p => p.2
    | none => σ.regs t) = σ.regs from funext (h1 L h), show (fun o => match M.find? (fun p => p.1 == o) with
    | some p => some p.2
    | none => σ.mem o) = σ.mem from funext (h2 M k)]
theorem v_tmp {t : Tmp} : σ.eval gl (.tmp t) = σ.regs t := rfl
theorem v_int {k : IntKind} {n : Int} : σ.eval gl (.const (.int k n)) = .a (.d (.v (.int k n))) := rfl
theorem v_bool {b : Bool} : σ.eval gl (.const (.bool b)) = .a (.d (.v (.bool b))) := rfl
theorem v_str {s : ByteArray} : σ.eval gl (.const (.string s)) = .a (.d (.v (.string s))) := rfl
theorem v_nil : σ.eval gl (.const (.slice none 0 0)) = .cs [] := rfl
theorem v_map : σ.eval gl (.const (.map none)) = .a (.d (.mp [])) := rfl
theorem v_ptr : σ.eval gl (.const (.pointer none)) = .a (.d (.v (.pointer none))) := rfl
theorem v_func {f : FuncId} : σ.eval gl (.func f) = .a (.d (.fn f [])) := rfl
section
variable {dst : Option Tmp} {ty : TypeId} {pos : String} {after : Array Edge} {g : Option (Nat × Bool)}
theorem opA_X {o : Oper} : opA P gl o σ K = inG (isX P o) (SemOp P gl o σ K) (opA0 P gl o σ K) := by
 unfold opA inG; cases isX P o <;> rfl
theorem y_move {x : Operand} : opA P gl ⟨dst, .move x, ty, pos, after, g⟩ σ K = fc (σ.eval gl x) fun r => K (σ.put dst r) := rfl
theorem y_assign_t {t : Tmp} : opA P gl ⟨dst, .assign (.tmp t), ty, pos, after, g⟩ σ K = fc (σ.regs t) fun r => K (σ.put dst r) := by cases dst <;> rfl
theorem y_assign_i {k : IntKind} {n : Int} : opA P gl ⟨dst, .assign (.const (.int k n)), ty, pos, after, g⟩ σ K = K (σ.put dst (.a (.d (.v (.int k n))))) := by cases dst <;> rfl
theorem y_assign_b {b : Bool} : opA P gl ⟨dst, .assign (.const (.bool b)), ty, pos, after, g⟩ σ K = K (σ.put dst (.a (.d (.v (.bool b))))) := by cases dst <;> rfl
theorem y_assign_s {s : ByteArray} : opA P gl ⟨dst, .assign (.const (.string s)), ty, pos, after, g⟩ σ K = K (σ.put dst (.a (.d (.v (.string s))))) := by cases dst <;> rfl
theorem y_assign_m : opA P gl ⟨dst, .assign (.const (.map none)), ty, pos, after, g⟩ σ K = K (σ.put dst (.a (.d (.mp [])))) := by cases dst <;> rfl
theorem y_assign_p : opA P gl ⟨dst, .assign (.const (.pointer none)), ty, pos, after, g⟩ σ K = K (σ.put dst (.a (.d (.v (.pointer none))))) := by cases dst <;> rfl
def tkSlice (P : Program) (t : TypeId) : Option TI := match tk P t with
 | .slice e => tinf P e
 | _ => none
def tkElem (P : Program) (t : TypeId) : Option (TypeId × TI) := match tk P t with
 | .slice e => (tinf P e).map fun ti => (e, ti)
 | _ => none
def tkStruct (P : Program) (t : TypeId) : Option (List (Nat × Nat × Bool)) := match tk P t with
 | .struct offs => some offs
 | _ => none
theorem y_assign_n {d : Tmp} : opA P gl ⟨some d, .assign (.const (.slice none 0 0)), ty, pos, after, g⟩ σ K = mat (tkElem P ty) fun e => K ((σ.newOb d (.log e.1 e.2.sz [])).put (some d) (.own d)) := by
 simp only [opA, isX, opA0, mat, tkElem]
 cases tk P ty <;> try rfl
 rename_i e; cases h : tinf P e <;> simp [h]
theorem y_pick {c a b : Operand} : opA P gl ⟨dst, .pick c a b, ty, pos, after, g⟩ σ K = condK (σ.eval gl c) (fc (σ.eval gl a) fun r => K (σ.put dst r)) (fc (σ.eval gl b) fun r => K (σ.put dst r)) := by
 simp only [opA, isX, opA0, opQ, condK]
 generalize σ.eval gl c = x
 rcases x with _ | ((v | _ | _ | _ | _) | _) | _ | _ | _ | _ | _ | _ | _ <;> try rfl
 cases v <;> try rfl
 rename_i b; cases b <;> simp [brK]
theorem y_load0 {t : TypeId} {p : Operand} : opA0 P gl ⟨dst, .load t p, ty, pos, after, g⟩ σ K = mat (loadR P σ t (σ.eval gl p)) fun r => K (σ.put dst r) := by
 simp only [opA0, opQ, mat, fc]
 cases loadR P σ t (σ.eval gl p) <;> rfl
theorem y_load {t : TypeId} {p : Operand} : opA P gl ⟨dst, .load t p, ty, pos, after, g⟩ σ K = inG (isXL P t pos) (SemOp P gl ⟨dst, .load t p, ty, pos, after, g⟩ σ K) (mat (loadR P σ t (σ.eval gl p)) fun r => K (σ.put dst r)) := by
 rw [opA_X, y_load0]; rfl
theorem y_store {t : TypeId} {p x : Operand} : opA P gl ⟨dst, .store t p x, ty, pos, after, g⟩ σ K = mat (storeR P σ t (σ.eval gl p) (σ.eval gl x)) fun σ' => K (σ'.put dst .any) := by
 simp only [opA, isX, opA0, mat]
 cases storeR P σ t (σ.eval gl p) (σ.eval gl x) <;> rfl
def zR (ti : TI) : Option (List R) := if ti.z.all Value.oneCell' then some (ti.z.map fun v => .a (.d (cellD v))) else none
theorem y_alloc {t : TypeId} {d : Tmp} : opA P gl ⟨some d, .alloc t, ty, pos, after, g⟩ σ K = mat ((tinf P t).bind zR) fun cs => K ((σ.newOb d (.box cs)).put (some d) (.ref d 0)) := by
 simp only [opA, isX, opA0, mat]
 cases tinf P t with
 | none => rfl
 | some ti =>
  simp only [Option.bind_some, zR]
  by_cases h : ti.z.all Value.oneCell' = true <;> simp [h]
theorem y_box {t : TypeId} {x : Operand} {d : Tmp} : opA P gl ⟨some d, .box t x, ty, pos, after, g⟩ σ K = mat (cellsR (σ.eval gl x)) fun cs => K ((σ.newOb d (.box (cs.map (R.kill d)))).put (some d) (.ref d 0)) := by
 simp only [opA, isX, opA0, mat]
 cases cellsR (σ.eval gl x) <;> rfl
def fieldG (f : Option (Nat × Nat × Bool)) (r : R) : Option R :=
 match f with
 | some (fo, 0, _) => none
 | some (fo, _ + 1, _) => match r with
   | .ref ob off => some (.ref ob (off + fo))
   | .a (.d (.pt cs)) => some (.a (.d (.pt (cs.drop fo))))
   | .eref ob i sz j => some (.eref ob i sz (j + fo))
   | _ => none
 | none => none
theorem fg_ref {fo n o off : Nat} {b : Bool} (h : (n == 0) = false) : fieldG (some (fo, n, b)) (.ref o off) = some (.ref o (off + fo)) := by
 cases n <;> first | rfl | simp at h
theorem fg_pt {fo n : Nat} {b : Bool} {cs : List D} (h : (n == 0) = false) : fieldG (some (fo, n, b)) (.a (.d (.pt cs))) = some (.a (.d (.pt (cs.drop fo)))) := by
 cases n <;> first | rfl | simp at h
theorem fg_eref {fo n o i z j : Nat} {b : Bool} (h : (n == 0) = false) : fieldG (some (fo, n, b)) (.eref o i z j) = some (.eref o i z (j + fo)) := by
 cases n <;> first | rfl | simp at h
def fieldT (P : Program) (t : TypeId) (f : Nat) : Option (Nat × Nat × Bool) := match tk P t with
 | .struct offs => offs[f]?
 | _ => none
theorem fieldG_congr {f f' : Option (Nat × Nat × Bool)} {r r' : R} {tk0 : Bool} (hT : tick = tk0) (h : f = f') (k : r = r') : fieldG f r = fieldG f' r' := by rw [h, k]
theorem z_field {t : TypeId} {p : Operand} {f : Nat} : opQ P gl ⟨dst, .fieldAddr t p f, ty, pos, after, g⟩ σ KR = mat (fieldG (fieldT P t f) (σ.eval gl p)) KR := by
 simp only [opQ, mat, fieldG, fieldT]
 cases tk P t <;> try rfl
 rename_i offs
 simp only []
 cases offs[f]? with
 | none => rfl
 | some x =>
  obtain ⟨fo, fs, b⟩ := x
  cases fs with
  | zero => simp
  | succ n =>
   simp only [ne_eq, Nat.add_one_ne_zero, not_false_eq_true, true_and]
   rcases σ.eval gl p with _ | ((v | _ | _ | _ | _) | _) | _ | _ | _ | _ | _ | _ | _ <;> rfl
inductive IK where
 | slice (sz : Nat)
 | arr (n sz : Nat)
def indexT (P : Program) (t : TypeId) : Option IK := match tk P t with
 | .slice e => (tinf P e).map fun ti => .slice ti.sz
 | .arr n e => (tinf P e).map fun ti => .arr n ti.sz
 | _ => none
def asInt : R → Option Int
 | .a (.d (.v (.int _ n))) => some n
 | _ => none
theorem ai_int {k : IntKind} {n : Int} : asInt (.a (.d (.v (.int k n)))) = some n := rfl
def indexG (σ : S) (k : Option IK) (x : R) (n : Option Int) (K : R → Prop) : Prop := match k, n with
 | some (.slice sz), some n => (match x with
  | .a (.d (.sl xs)) => idxK n xs sz fun c => K (.a (.d (.pt c)))
  | .cs xs => idxK n xs sz fun c => K (.a (.d (.pt c)))
  | .own ob => match σ.mem ob with
   | some (.log _ _ xs) => idxK n xs sz fun c => K (.eref ob n.toNat sz 0)
   | _ => False
  | _ => False)
 | some (.arr len sz), some n => 0 ≤ n ∧ n < len ∧ (match x with
  | .ref ob off => K (.ref ob (off + n.toNat * sz))
  | .a (.d (.pt cs)) => K (.a (.d (.pt (cs.drop (n.toNat * sz)))))
  | _ => False)
 | _, _ => False
theorem indexG_congr {k k' : Option IK} {x x' : R} {n n' : Option Int} {K : R → Prop} {tk0 : Bool} (hT : tick = tk0) (h : k = k') (h1 : x = x') (h2 : n = n') : indexG σ k x n K = indexG σ k' x' n' K := by rw [h, h1, h2]
theorem ig_sl {sz : Nat} {xs : List (List D)} {n : Int} : indexG σ (some (.slice sz)) (.a (.d (.sl xs))) (some n) KR = idxK n xs sz fun c => KR (.a (.d (.pt c))) := rfl
theorem ig_cs {sz : Nat} {xs : List (List D)} {n : Int} : indexG σ (some (.slice sz)) (.cs xs) (some n) KR = idxK n xs sz fun c => KR (.a (.d (.pt c))) := rfl
def logOf : Option Ob → Option (List (List D))
 | some (.log _ _ xs) => some xs
 | _ => none
theorem lo_log {e : TypeId} {z : Nat} {xs : List (List D)} : logOf (some (.log e z xs)) = some xs := rfl
theorem ig_own {sz o : Nat} {n : Int} : indexG σ (some (.slice sz)) (.own o) (some n) KR = mat (logOf (σ.mem o)) fun xs => idxK n xs sz fun c => KR (.eref o n.toNat sz 0) := by
 simp only [indexG, mat, logOf]
 rcases σ.mem o with _ | (_ | _ | _) <;> rfl
theorem ig_aref {len sz o off : Nat} {n : Int} : indexG σ (some (.arr len sz)) (.ref o off) (some n) KR = (0 ≤ n ∧ n < len ∧ KR (.ref o (off + n.toNat * sz))) := rfl
theorem ig_apt {len sz : Nat} {cs : List D} {n : Int} : indexG σ (some (.arr len sz)) (.a (.d (.pt cs))) (some n) KR = (0 ≤ n ∧ n < len ∧ KR (.a (.d (.pt (cs.drop (n.toNat * sz)))))) := rfl
theorem ig_none {k : Option IK} {x : R} {K : R → Prop} : indexG σ k x none K = False := by rcases k with _ | (_ | _) <;> rfl
theorem z_index {t : TypeId} {x i : Operand} : opQ P gl ⟨dst, .indexAddr t x i, ty, pos, after, g⟩ σ KR = indexG σ (indexT P t) (σ.eval gl x) (asInt (σ.eval gl i)) KR := by
 simp only [opQ]
 generalize σ.eval gl i = r
 have hi : (∃ k n, r = .a (.d (.v (.int k n)))) ∨ asInt r = none := by
  rcases r with _ | ((v | _ | _ | _ | _) | _) | _ | _ | _ | _ | _ | _ | _ <;> first | exact .inr rfl | skip
  cases v <;> first | exact .inr rfl | exact .inl ⟨_, _, rfl⟩
 rcases hi with ⟨k, n, rfl⟩ | hn
 ·simp only [asInt, indexG, indexT]
  cases tk P t <;> try rfl
  ·rename_i e; dsimp only; cases tinf P e <;> dsimp only [Option.map] <;> try rfl
  ·rename_i e; dsimp only; cases tinf P e <;> dsimp only [Option.map] <;> try rfl
 ·rw [hn, ig_none]
  rcases r with _ | ((v | _ | _ | _ | _) | _) | _ | _ | _ | _ | _ | _ | _ <;> try rfl
  cases v <;> first | rfl | simp [asInt] at hn
theorem idxK_congr {n n' : Int} {xs xs' : List (List D)} {sz : Nat} {K : List D → Prop} {tk0 : Bool} (hT : tick = tk0) (h : n = n') (k : xs = xs') : idxK n xs sz K = idxK n' xs' sz K := by rw [h, k]
theorem ix_go {n : Int} {xs : List (List D)} {sz : Nat} {K : List D → Prop} : idxK n xs sz K = (0 ≤ n ∧ mat (xs[n.toNat]?) fun c => c.length = sz ∧ K c) := by
 simp only [idxK, mat]; cases xs[n.toNat]? <;> rfl
attribute [congr] fieldG_congr indexG_congr idxK_congr
theorem z_nil {x : Operand} : opQ P gl ⟨dst, .nilCheck x, ty, pos, after, g⟩ σ KR = mat (match σ.eval gl x with
  | .ref ob off => some (.ref ob off)
  | .a (.d (.pt cs)) => some (.a (.d (.pt cs)))
  | .eref ob i sz j => some (.eref ob i sz j)
  | _ => none) KR := by
 simp only [opQ]
 rcases σ.eval gl x with _ | ((v | _ | _ | _ | _) | _) | _ | _ | _ | _ | _ | _ | _ <;> rfl
def binG (k : TK) (m : Option Nat) (op : BinOp) (x y : R) (K : R → Prop) : Prop := match x, y with
  | .a (.d (.v (.bool a))), .a (.d (.v (.bool b))) => (match k, op with
   | .bool, .eql => K (.a (.d (.v (.bool (a == b)))))
   | .bool, .neq => K (.a (.d (.v (.bool (a != b)))))
   | _, _ => False)
  | .a (.d (.v a)), .a (.d (.v b)) => (match binR op a b with
   | some (c, v) => c ∧ K (.a (.d (.v v)))
   | none => False)
  | .a (.ag xs), .a (.ag ys) => (match m, asInts xs, asInts ys with
   | some n, some a, some b => a.length = n ∧ b.length = n ∧ (match op with
    | .eql => K (.a (.d (.v (.bool (a == b)))))
    | .neq => K (.a (.d (.v (.bool (!(a == b))))))
    | _ => False)
   | _, _, _ => False)
  | _, _ => False
theorem binG_congr {k k' : TK} {m m' : Option Nat} {op : BinOp} {x x' y y' : R} {K : R → Prop} {tk0 : Bool} (hT : tick = tk0) (h0 : k = k') (h2 : m = m') (h : x = x') (h1 : y = y') : binG k m op x y K = binG k' m' op x' y' K := by rw [h0, h2, h, h1]
attribute [congr] binG_congr
theorem z_bin {op : BinOp} {t u : TypeId} {x y : Operand} : opQ P gl ⟨dst, .binOp op t x y u, ty, pos, after, g⟩ σ KR = binG (tk P t) (intsT P t) op (σ.eval gl x) (σ.eval gl y) KR := by
 simp only [opQ, binG]
 generalize σ.eval gl x = r
 generalize σ.eval gl y = r'
 rcases r with _ | ((v | _ | _ | _ | _) | _) | _ | _ | _ | _ | _ | _ | _ <;> try rfl
section
variable {k k' : IntKind} {a b : Int} {K : R → Prop} {T : TK} {Mi : Option Nat}
theorem b_add : binG T Mi .add (.a (.d (.v (.int k a)))) (.a (.d (.v (.int k b)))) K = K (.a (.d (.v (.int k (k.wrap (a + b)))))) := by simp [binG, binR]
theorem b_sub : binG T Mi .sub (.a (.d (.v (.int k a)))) (.a (.d (.v (.int k b)))) K = K (.a (.d (.v (.int k (k.wrap (a - b)))))) := by simp [binG, binR]
theorem b_mul : binG T Mi .mul (.a (.d (.v (.int k a)))) (.a (.d (.v (.int k b)))) K = K (.a (.d (.v (.int k (k.wrap (a * b)))))) := by simp [binG, binR]
theorem b_quo : binG T Mi .quo (.a (.d (.v (.int k a)))) (.a (.d (.v (.int k b)))) K = (b ≠ 0 ∧ K (.a (.d (.v (.int k (k.wrap (a.tdiv b))))))) := by simp [binG, binR]
theorem b_rem : binG T Mi .rem (.a (.d (.v (.int k a)))) (.a (.d (.v (.int k b)))) K = (b ≠ 0 ∧ K (.a (.d (.v (.int k (a.tmod b)))))) := by simp [binG, binR]
theorem b_eql : binG T Mi .eql (.a (.d (.v (.int k a)))) (.a (.d (.v (.int k b)))) K = spK (a = b) fun b => K (.a (.d (.v (.bool b)))) := by simp only [binG, binR, true_and]; exact spK_eq (K := fun b => K (.a (.d (.v (.bool b)))))
theorem b_neq : binG T Mi .neq (.a (.d (.v (.int k a)))) (.a (.d (.v (.int k b)))) K = spK (a = b) fun b => K (.a (.d (.v (.bool (!b))))) := by simp only [binG, binR, true_and]; exact spK_eq (K := fun b => K (.a (.d (.v (.bool (!b))))))
theorem b_lss : binG T Mi .lss (.a (.d (.v (.int k a)))) (.a (.d (.v (.int k b)))) K = spK (a < b) fun b => K (.a (.d (.v (.bool b)))) := by simp only [binG, binR, true_and]; exact spK_eq (K := fun b => K (.a (.d (.v (.bool b)))))
theorem b_leq : binG T Mi .leq (.a (.d (.v (.int k a)))) (.a (.d (.v (.int k b)))) K = spK (a ≤ b) fun b => K (.a (.d (.v (.bool b)))) := by simp only [binG, binR, true_and]; exact spK_eq (K := fun b => K (.a (.d (.v (.bool b)))))
theorem b_gtr : binG T Mi .gtr (.a (.d (.v (.int k a)))) (.a (.d (.v (.int k b)))) K = spK (a > b) fun b => K (.a (.d (.v (.bool b)))) := by simp only [binG, binR, true_and]; exact spK_eq (K := fun b => K (.a (.d (.v (.bool b)))))
theorem b_geq : binG T Mi .geq (.a (.d (.v (.int k a)))) (.a (.d (.v (.int k b)))) K = spK (a ≥ b) fun b => K (.a (.d (.v (.bool b)))) := by simp only [binG, binR, true_and]; exact spK_eq (K := fun b => K (.a (.d (.v (.bool b)))))
theorem b_shl : binG T Mi .shl (.a (.d (.v (.int k a)))) (.a (.d (.v (.int k' b)))) K = (0 ≤ b ∧ K (.a (.d (.v (.int k (k.wrap (a * 2 ^ (min b.toNat k.bits)))))))) := by simp [binG, binR]
theorem b_shr : binG T Mi .shr (.a (.d (.v (.int k a)))) (.a (.d (.v (.int k' b)))) K = (0 ≤ b ∧ K (.a (.d (.v (.int k (a.fdiv (2 ^ (min b.toNat k.bits)))))))) := by simp [binG, binR]
def andK (k : IntKind) (a b : Int) : Int := k.wrap (BitVec.ofInt k.bits a &&& BitVec.ofInt k.bits b).toNat
def orK (k : IntKind) (a b : Int) : Int := k.wrap (BitVec.ofInt k.bits a ||| BitVec.ofInt k.bits b).toNat
def xorK (k : IntKind) (a b : Int) : Int := k.wrap (BitVec.ofInt k.bits a ^^^ BitVec.ofInt k.bits b).toNat
def andnK (k : IntKind) (a b : Int) : Int := k.wrap (BitVec.ofInt k.bits a &&& ~~~BitVec.ofInt k.bits b).toNat
theorem b_and : binG T Mi .and (.a (.d (.v (.int k a)))) (.a (.d (.v (.int k b)))) K = K (.a (.d (.v (.int k (andK k a b))))) := by simp [binG, binR, andK]
theorem b_or : binG T Mi .or (.a (.d (.v (.int k a)))) (.a (.d (.v (.int k b)))) K = K (.a (.d (.v (.int k (orK k a b))))) := by simp [binG, binR, orK]
theorem b_xor : binG T Mi .xor (.a (.d (.v (.int k a)))) (.a (.d (.v (.int k b)))) K = K (.a (.d (.v (.int k (xorK k a b))))) := by simp [binG, binR, xorK]
theorem b_andn : binG T Mi .andNot (.a (.d (.v (.int k a)))) (.a (.d (.v (.int k b)))) K = K (.a (.d (.v (.int k (andnK k a b))))) := by simp [binG, binR, andnK]
theorem b_beq {a b : Bool} : binG .bool Mi .eql (.a (.d (.v (.bool a)))) (.a (.d (.v (.bool b)))) K = K (.a (.d (.v (.bool (a == b))))) := rfl
theorem b_bne {a b : Bool} : binG .bool Mi .neq (.a (.d (.v (.bool a)))) (.a (.d (.v (.bool b)))) K = K (.a (.d (.v (.bool (a != b))))) := rfl
theorem b_seq {a b : ByteArray} : binG T Mi .eql (.a (.d (.v (.string a)))) (.a (.d (.v (.string b)))) K = K (.a (.d (.v (.bool (a.toList == b.toList))))) := by simp [binG, binR]
theorem b_sne {a b : ByteArray} : binG T Mi .neq (.a (.d (.v (.string a)))) (.a (.d (.v (.string b)))) K = K (.a (.d (.v (.bool (!(a.toList == b.toList)))))) := by simp [binG, binR]
def agK (m : Option Nat) (xs ys : Option (List Int)) (K : Bool → Prop) : Prop := match m, xs, ys with
 | some n, some a, some b => a.length = n ∧ b.length = n ∧ K (a == b)
 | _, _, _ => False
theorem agK_congr {m m' : Option Nat} {xs xs' ys ys' : Option (List Int)} {K : Bool → Prop} {tk0 : Bool} (hT : tick = tk0) (h0 : m = m') (h : xs = xs') (h1 : ys = ys') : agK m xs ys K = agK m' xs' ys' K := by rw [h0, h, h1]
attribute [congr] agK_congr
theorem ag_go {n : Nat} {a b : List Int} {K : Bool → Prop} : agK (some n) (some a) (some b) K = (a.length = n ∧ b.length = n ∧ K (a == b)) := rfl
theorem b_age {xs ys : List D} : binG T Mi .eql (.a (.ag xs)) (.a (.ag ys)) K = agK Mi (asInts xs) (asInts ys) fun b => K (.a (.d (.v (.bool b)))) := by
 simp only [binG, agK]
theorem b_agn {xs ys : List D} : binG T Mi .neq (.a (.ag xs)) (.a (.ag ys)) K = agK Mi (asInts xs) (asInts ys) fun b => K (.a (.d (.v (.bool (!b))))) := by
 simp only [binG, agK]
theorem ai_nil : asInts [] = some [] := rfl
theorem ai_cons {n : Int} {ds : List D} : asInts (.v (.int .i64 n) :: ds) = (asInts ds).map (n :: ·) := rfl
end
def unG (op : UnOp) (x : R) : Option R := match x with
 | .a (.d (.v a)) => (unR op a).map fun v => .a (.d (.v v))
 | _ => none
theorem u_not {b : Bool} : unG .not (.a (.d (.v (.bool b)))) = some (.a (.d (.v (.bool !b)))) := rfl
theorem u_neg {k : IntKind} {n : Int} : unG .neg (.a (.d (.v (.int k n)))) = some (.a (.d (.v (.int k (k.wrap (0 - n)))))) := rfl
theorem z_un {op : UnOp} {t : TypeId} {x : Operand} : opQ P gl ⟨dst, .unOp op t x, ty, pos, after, g⟩ σ KR = mat (unG op (σ.eval gl x)) KR := by
 simp only [opQ, unG]
 rcases σ.eval gl x with _ | ((v | _ | _ | _ | _) | _) | _ | _ | _ | _ | _ | _ | _ <;> try rfl
 simp only []
 cases unR op v <;> rfl
def intK (P : Program) (t : TypeId) : Option IntKind := match tk P t with
 | .int k => some k
 | _ => none
def convG (s k : Option IntKind) (x : R) : Option R := match s, k, x with
 | some _, some k, .a (.d (.v (.int _ n))) => some (.a (.d (.v (.int k (k.wrap n)))))
 | _, _, _ => none
theorem c_int {s k k' : IntKind} {n : Int} : convG (some s) (some k) (.a (.d (.v (.int k' n)))) = some (.a (.d (.v (.int k (k.wrap n))))) := rfl
theorem z_conv {s t : TypeId} {x : Operand} : opQ P gl ⟨dst, .convert s t x, ty, pos, after, g⟩ σ KR = mat (convG (intK P s) (intK P t) (σ.eval gl x)) KR := by
 simp only [opQ, convG, intK]
 cases tk P s <;> try rfl
 cases tk P t <;> try rfl
 rcases σ.eval gl x with _ | ((v | _ | _ | _ | _) | _) | _ | _ | _ | _ | _ | _ | _ <;> try rfl
 cases v <;> rfl
def strG (k : Option Bool) (x : R) (n : Option Int) (K : R → Prop) : Prop := match k, x, n with
 | some true, .a (.d (.v (.string s))), some n => 0 ≤ n ∧ mat (s[n.toNat]?) fun b => K (.a (.d (.v (.int .u8 b.toNat))))
 | _, _, _ => False
theorem sg_go {s : ByteArray} {n : Int} {K : R → Prop} : strG (some true) (.a (.d (.v (.string s)))) (some n) K = (0 ≤ n ∧ mat (s[n.toNat]?) fun b => K (.a (.d (.v (.int .u8 b.toNat))))) := rfl
theorem strG_congr {k k' : Option Bool} {x x' : R} {n n' : Option Int} {K : R → Prop} {tk0 : Bool} (hT : tick = tk0) (h0 : k = k') (h : x = x') (h1 : n = n') : strG k x n K = strG k' x' n' K := by rw [h0, h, h1]
attribute [congr] strG_congr
def extG (x : R) (i : Nat) : Option R := match x with
 | .tp rs => rs[i]?
 | _ => none
theorem x_tp {rs : List R} {i : Nat} : extG (.tp rs) i = rs[i]? := rfl
theorem z_ext {x : Operand} {i : Nat} : opQ P gl ⟨dst, .extract x i, ty, pos, after, g⟩ σ KR = mat (extG (σ.eval gl x) i) KR := by
 simp only [opQ, extG]
 rcases σ.eval gl x with _ | ((v | _ | _ | _ | _) | _) | _ | _ | _ | _ | _ | _ | _ <;> try rfl
 simp only []
 rename_i rs; cases rs[i]? <;> rfl
theorem z_move {x : Operand} : opQ P gl ⟨dst, .move x, ty, pos, after, g⟩ σ KR = fc (σ.eval gl x) KR := rfl
theorem z_assign {x : Operand} : opQ P gl ⟨dst, .assign x, ty, pos, after, g⟩ σ KR = fc (σ.eval gl x) KR := rfl
theorem z_pick {c a b : Operand} : opQ P gl ⟨dst, .pick c a b, ty, pos, after, g⟩ σ KR = condK (σ.eval gl c) (fc (σ.eval gl a) KR) (fc (σ.eval gl b) KR) := by
 simp only [opQ, condK]
 rcases σ.eval gl c with _ | ((v | _ | _ | _ | _) | _) | _ | _ | _ | _ | _ | _ | _ <;> try rfl
 cases v <;> try rfl
 rename_i b; cases b <;> simp [brK]
theorem z_load {t : TypeId} {p : Operand} : opQ P gl ⟨dst, .load t p, ty, pos, after, g⟩ σ KR = mat (loadR P σ t (σ.eval gl p)) KR := by
 simp only [opQ, fc]
 cases loadR P σ t (σ.eval gl p) <;> rfl
def lenT (P : Program) (t : TypeId) : Option Bool := match tk P t with
 | .slice _ => some false
 | .str => some true
 | _ => none
def lenH (k : Option Bool) (r : Option (Bool × Int)) : Option R := match k, r with
 | some false, some (false, n) => some (.a (.d (.v (.int .i64 n))))
 | some true, some (true, n) => some (.a (.d (.v (.int .i64 n))))
 | _, _ => none
theorem lh_sl {n : Int} : lenH (some false) (some (false, n)) = some (.a (.d (.v (.int .i64 n)))) := rfl
theorem lh_str {n : Int} : lenH (some true) (some (true, n)) = some (.a (.d (.v (.int .i64 n)))) := rfl
theorem lr_sl {xs : List (List D)} : lenR σ (.a (.d (.sl xs))) = some (false, (xs.length : Int)) := rfl
theorem lr_cs {xs : List (List D)} : lenR σ (.cs xs) = some (false, (xs.length : Int)) := rfl
theorem lr_str {s : ByteArray} : lenR σ (.a (.d (.v (.string s)))) = some (true, (s.size : Int)) := rfl
theorem lr_own {o : Nat} : lenR σ (.own o) = (logOf (σ.mem o)).map fun xs => (false, (xs.length : Int)) := by
 simp only [lenR, logOf]
 rcases σ.mem o with _ | (_ | _ | _) <;> rfl
theorem z_len {x : Operand} {t : TypeId} : opQ P gl ⟨dst, .call ⟨.builtin .len, #[x], #[t]⟩, ty, pos, after, g⟩ σ KR = mat (lenH (lenT P t) (lenR σ (σ.eval gl x))) KR := by
 simp only [opQ, lenH, lenT]
 rcases lenR σ (σ.eval gl x) with _ | ⟨s, n⟩
 ·cases tk P t <;> rfl
 ·cases tk P t <;> cases s <;> rfl
theorem z_sidx {t : TypeId} {x i : Operand} : opQ P gl ⟨dst, .index t x i, ty, pos, after, g⟩ σ KR = strG (lenT P t) (σ.eval gl x) (asInt (σ.eval gl i)) KR := by
 simp only [opQ, lenT]
 generalize σ.eval gl x = r
 generalize σ.eval gl i = r'
 cases tk P t <;> try rfl
 all_goals (rcases r with _ | ((v | _ | _ | _ | _) | _) | _ | _ | _ | _ | _ | _ | _ <;> try rfl)
 all_goals (rcases r' with _ | ((v' | _ | _ | _ | _) | _) | _ | _ | _ | _ | _ | _ | _ <;> try (cases v <;> rfl))
 all_goals (cases v <;> cases v' <;> first | rfl | (simp only [strG, asInt, mat]; done) | (simp only [strG, asInt, mat]; congr 1; apply propext; split <;> rename_i h <;> rw [h]))
def minG (x y : R) : Option R := match x, y with
 | .a (.d (.v (.int k a))), .a (.d (.v (.int _ b))) => some (.a (.d (.v (.int k (if b < a then b else a)))))
 | _, _ => none
def maxG (x y : R) : Option R := match x, y with
 | .a (.d (.v (.int k a))), .a (.d (.v (.int _ b))) => some (.a (.d (.v (.int k (if b > a then b else a)))))
 | _, _ => none
theorem mg_min {k k' : IntKind} {a b : Int} : minG (.a (.d (.v (.int k a)))) (.a (.d (.v (.int k' b)))) = some (.a (.d (.v (.int k (min a b))))) := by
 have : (if b < a then b else a) = min a b := by split <;> omega
 simp [minG, this]
theorem mg_max {k k' : IntKind} {a b : Int} : maxG (.a (.d (.v (.int k a)))) (.a (.d (.v (.int k' b)))) = some (.a (.d (.v (.int k (max a b))))) := by
 have : (if b > a then b else a) = max a b := by split <;> omega
 simp [maxG, this]
theorem z_min {x y : Operand} {ts : Array TypeId} : opQ P gl ⟨dst, .call ⟨.builtin .min, #[x, y], ts⟩, ty, pos, after, g⟩ σ KR = mat (minG (σ.eval gl x) (σ.eval gl y)) KR := by
 simp only [opQ, minG]
 generalize σ.eval gl x = r
 generalize σ.eval gl y = r'
 rcases r with _ | ((v | _ | _ | _ | _) | _) | _ | _ | _ | _ | _ | _ | _ <;> try rfl
 cases v <;> try rfl
 rcases r' with _ | ((v' | _ | _ | _ | _) | _) | _ | _ | _ | _ | _ | _ | _ <;> try rfl
 cases v' <;> rfl
theorem z_max {x y : Operand} {ts : Array TypeId} : opQ P gl ⟨dst, .call ⟨.builtin .max, #[x, y], ts⟩, ty, pos, after, g⟩ σ KR = mat (maxG (σ.eval gl x) (σ.eval gl y)) KR := by
 simp only [opQ, maxG]
 generalize σ.eval gl x = r
 generalize σ.eval gl y = r'
 rcases r with _ | ((v | _ | _ | _ | _) | _) | _ | _ | _ | _ | _ | _ | _ <;> try rfl
 cases v <;> try rfl
 rcases r' with _ | ((v' | _ | _ | _ | _) | _) | _ | _ | _ | _ | _ | _ | _ <;> try rfl
 cases v' <;> rfl
def evs (gl : Nat → Option (List D)) (σ : S) : List Operand → List R
 | [] => []
 | x :: xs => σ.eval gl x :: evs gl σ xs
theorem evs_nil : evs gl σ [] = [] := rfl
theorem evs_cons {x : Operand} {xs : List Operand} : evs gl σ (x :: xs) = σ.eval gl x :: evs gl σ xs := rfl
theorem evs_map : ∀ (l : List Operand), l.map (σ.eval gl) = evs gl σ l
 | [] => rfl
 | x :: l => by simp [evs, evs_map l]
def fnR : R → Option (FuncId × List D)
 | .a (.d (.fn f caps)) => some (f, caps)
 | _ => none
theorem fn_f {f : FuncId} {caps : List D} : fnR (.a (.d (.fn f caps))) = some (f, caps) := rfl
def capR : List D → List R
 | [] => []
 | d :: ds => .a (.d d) :: capR ds
theorem cr_nil : capR [] = [] := rfl
theorem cr_cons {d : D} {ds : List D} : capR (d :: ds) = .a (.d d) :: capR ds := rfl
theorem capR_eq : ∀ (l : List D), (l.map fun d => R.a (.d d)) = capR l
 | [] => rfl
 | x :: l => by simp [capR, capR_eq l]
def callV (P : Program) (gl : Nat → Option (List D)) (f : FuncId) (rs : List R) (dst : Option Tmp) (σ : S) (K : S → Prop) : Prop := callK P gl f rs dst σ K
def callC (P : Program) (gl : Nat → Option (List D)) (f : FuncId) (rs : List R) (dst : Option Tmp) (σ : S) (K : S → Prop) : Prop := Inl P gl f rs σ fun σ' rs' => K (σ'.put dst (one rs'))
def refR : List (Nat × Nat) → List R
 | [] => []
 | c :: cs => .ref c.1 c.2 :: refR cs
theorem rf_nil : refR [] = [] := rfl
theorem rf_cons {c : Nat × Nat} {cs : List (Nat × Nat)} : refR (c :: cs) = .ref c.1 c.2 :: refR cs := rfl
theorem refR_eq : ∀ (l : List (Nat × Nat)), (l.map fun x => R.ref x.1 x.2) = refR l
 | [] => rfl
 | x :: l => by simp [refR, refR_eq l]
def callF (P : Program) (gl : Nat → Option (List D)) (o : Oper) (f : R) (rs : List R) (dst : Option Tmp) (σ : S) (K : S → Prop) : Prop := match f with
 | .a (.d (.fn f caps)) => callV P gl f (rs ++ capR caps) dst σ K
 | .clo f caps => callC P gl f (rs ++ refR caps) dst σ K
 | .sem _ _ => SemOp P gl o σ K
 | .a (.d (.v _)) => SemOp P gl o σ K
 | _ => False
theorem callF_congr {o : Oper} {f f' : R} {rs : List R} {K : S → Prop} {tk0 : Bool} (hT : tick = tk0) (h : f = f') : callF P gl o f rs dst σ K = callF P gl o f' rs dst σ K := by rw [h]
theorem cf_some {o : Oper} {f : FuncId} {caps : List D} {rs : List R} : callF P gl o (.a (.d (.fn f caps))) rs dst σ K = callV P gl f (rs ++ capR caps) dst σ K := rfl
theorem cf_clo {o : Oper} {f : FuncId} {caps : List (Nat × Nat)} {rs : List R} : callF P gl o (.clo f caps) rs dst σ K = callC P gl f (rs ++ refR caps) dst σ K := rfl
theorem cf_sem {o : Oper} {os : List Nat} {p : (Nat → Value) → Value → Prop} {rs : List R} : callF P gl o (.sem os p) rs dst σ K = SemOp P gl o σ K := rfl
theorem cf_v {o : Oper} {v : Value} {rs : List R} : callF P gl o (.a (.d (.v v))) rs dst σ K = SemOp P gl o σ K := rfl
theorem callC_congr {f : FuncId} {rs rs' : List R} {K : S → Prop} {tk0 : Bool} (hT : tick = tk0) (h : rs = rs') : callC P gl f rs dst σ K = callC P gl f rs' dst σ K := by rw [h]
theorem callV_congr {f : FuncId} {rs rs' : List R} {K : S → Prop} {tk0 : Bool} (hT : tick = tk0) (h : rs = rs') : callV P gl f rs dst σ K = callV P gl f rs' dst σ K := by rw [h]
theorem z_call {f : Operand} {l : List Operand} {ts : Array TypeId} : opA P gl ⟨dst, .call ⟨.value f, l.toArray, ts⟩, ty, pos, after, g⟩ σ K = callF P gl ⟨dst, .call ⟨.value f, l.toArray, ts⟩, ty, pos, after, g⟩ (σ.eval gl f) (evs gl σ l) dst σ K := by
 simp only [opA, isX, opA0, callF, ← evs_map]
 rcases σ.eval gl f with _ | ((v | _ | _ | _ | _) | _) | _ | _ | _ | _ | _ | _ | _ <;> try rfl
 ·simp [callV, capR_eq]
 ·simp [callC, refR_eq]
def callVQ (P : Program) (gl : Nat → Option (List D)) (f : FuncId) (rs : List R) (σ : S) (K : R → Prop) : Prop := callQ P gl f rs σ K
def callFQ (P : Program) (gl : Nat → Option (List D)) (f : Option (FuncId × List D)) (rs : List R) (σ : S) (K : R → Prop) : Prop := match f with
 | some (f, caps) => callVQ P gl f (rs ++ capR caps) σ K
 | none => False
theorem callFQ_congr {f f' : Option (FuncId × List D)} {rs : List R} {K : R → Prop} {tk0 : Bool} (hT : tick = tk0) (h : f = f') : callFQ P gl f rs σ K = callFQ P gl f' rs σ K := by rw [h]
theorem callVQ_congr {f : FuncId} {rs rs' : List R} {K : R → Prop} {tk0 : Bool} (hT : tick = tk0) (h : rs = rs') : callVQ P gl f rs σ K = callVQ P gl f rs' σ K := by rw [h]
theorem cf_someQ {f : FuncId} {caps : List D} {rs : List R} : callFQ P gl (some (f, caps)) rs σ KR = callVQ P gl f (rs ++ capR caps) σ KR := rfl
theorem z_callQ {f : Operand} {l : List Operand} {ts : Array TypeId} : opQ P gl ⟨dst, .call ⟨.value f, l.toArray, ts⟩, ty, pos, after, g⟩ σ KR = callFQ P gl (fnR (σ.eval gl f)) (evs gl σ l) σ KR := by
 simp only [opQ, callFQ, ← evs_map]
 rcases σ.eval gl f with _ | ((v | _ | _ | _ | _) | _) | _ | _ | _ | _ | _ | _ | _ <;> try rfl
 simp [fnR, callVQ, capR_eq]
attribute [congr] callF_congr callV_congr callC_congr callFQ_congr callVQ_congr
theorem y_field {t : TypeId} {p : Operand} {f : Nat} : opA P gl ⟨dst, .fieldAddr t p f, ty, pos, after, g⟩ σ K = mat (fieldG (fieldT P t f) (σ.eval gl p)) fun r => K (σ.put dst r) := Eq.trans (b := opQ P gl ⟨dst, .fieldAddr t p f, ty, pos, after, g⟩ σ fun r => K (σ.put dst r)) rfl z_field
theorem y_index {t : TypeId} {x i : Operand} : opA P gl ⟨dst, .indexAddr t x i, ty, pos, after, g⟩ σ K = inG (isXT P t) (SemOp P gl ⟨dst, .indexAddr t x i, ty, pos, after, g⟩ σ K) (indexG σ (indexT P t) (σ.eval gl x) (asInt (σ.eval gl i)) fun r => K (σ.put dst r)) := by
 refine (opA_X).trans (Eq.trans (b := inG (isXT P t) (SemOp P gl ⟨dst, .indexAddr t x i, ty, pos, after, g⟩ σ K) (opQ P gl ⟨dst, .indexAddr t x i, ty, pos, after, g⟩ σ fun r => K (σ.put dst r))) rfl ?_)
 rw [z_index]
theorem y_bin_t {op : BinOp} {t u : TypeId} {x : Operand} {y : Tmp} : opA P gl ⟨dst, .binOp op t x (.tmp y) u, ty, pos, after, g⟩ σ K = binG (tk P t) (intsT P t) op (σ.eval gl x) (σ.eval gl (.tmp y)) fun r => K (σ.put dst r) := Eq.trans (b := opQ P gl ⟨dst, .binOp op t x (.tmp y) u, ty, pos, after, g⟩ σ fun r => K (σ.put dst r)) rfl z_bin
theorem y_bin_i {op : BinOp} {t u : TypeId} {x : Operand} {ik : IntKind} {im : Int} : opA P gl ⟨dst, .binOp op t x (.const (.int ik im)) u, ty, pos, after, g⟩ σ K = binG (tk P t) (intsT P t) op (σ.eval gl x) (σ.eval gl (.const (.int ik im))) fun r => K (σ.put dst r) := Eq.trans (b := opQ P gl ⟨dst, .binOp op t x (.const (.int ik im)) u, ty, pos, after, g⟩ σ fun r => K (σ.put dst r)) rfl z_bin
theorem y_bin_b {op : BinOp} {t u : TypeId} {x : Operand} {ib : Bool} : opA P gl ⟨dst, .binOp op t x (.const (.bool ib)) u, ty, pos, after, g⟩ σ K = binG (tk P t) (intsT P t) op (σ.eval gl x) (σ.eval gl (.const (.bool ib))) fun r => K (σ.put dst r) := Eq.trans (b := opQ P gl ⟨dst, .binOp op t x (.const (.bool ib)) u, ty, pos, after, g⟩ σ fun r => K (σ.put dst r)) rfl z_bin
theorem y_bin_s {op : BinOp} {t u : TypeId} {x : Operand} {is : ByteArray} : opA P gl ⟨dst, .binOp op t x (.const (.string is)) u, ty, pos, after, g⟩ σ K = binG (tk P t) (intsT P t) op (σ.eval gl x) (σ.eval gl (.const (.string is))) fun r => K (σ.put dst r) := Eq.trans (b := opQ P gl ⟨dst, .binOp op t x (.const (.string is)) u, ty, pos, after, g⟩ σ fun r => K (σ.put dst r)) rfl z_bin
theorem y_bin_ns {op : BinOp} {t u : TypeId} {x : Operand} : opA P gl ⟨dst, .binOp op t x (.const (.slice none 0 0)) u, ty, pos, after, g⟩ σ K = SemOp P gl ⟨dst, .binOp op t x (.const (.slice none 0 0)) u, ty, pos, after, g⟩ σ K := rfl
theorem y_bin_np {op : BinOp} {t u : TypeId} {x : Operand} : opA P gl ⟨dst, .binOp op t x (.const (.pointer none)) u, ty, pos, after, g⟩ σ K = SemOp P gl ⟨dst, .binOp op t x (.const (.pointer none)) u, ty, pos, after, g⟩ σ K := rfl
theorem y_bin_nm {op : BinOp} {t u : TypeId} {x : Operand} : opA P gl ⟨dst, .binOp op t x (.const (.map none)) u, ty, pos, after, g⟩ σ K = SemOp P gl ⟨dst, .binOp op t x (.const (.map none)) u, ty, pos, after, g⟩ σ K := rfl
theorem y_bin_nf {op : BinOp} {t u : TypeId} {x : Operand} : opA P gl ⟨dst, .binOp op t x (.const .nilFunc) u, ty, pos, after, g⟩ σ K = SemOp P gl ⟨dst, .binOp op t x (.const .nilFunc) u, ty, pos, after, g⟩ σ K := rfl
theorem y_bin_ni {op : BinOp} {t u : TypeId} {x : Operand} : opA P gl ⟨dst, .binOp op t x (.const .nilIface) u, ty, pos, after, g⟩ σ K = SemOp P gl ⟨dst, .binOp op t x (.const .nilIface) u, ty, pos, after, g⟩ σ K := rfl
theorem y_un {op : UnOp} {t : TypeId} {x : Operand} : opA P gl ⟨dst, .unOp op t x, ty, pos, after, g⟩ σ K = mat (unG op (σ.eval gl x)) fun r => K (σ.put dst r) := Eq.trans (b := opQ P gl ⟨dst, .unOp op t x, ty, pos, after, g⟩ σ fun r => K (σ.put dst r)) rfl z_un
theorem y_sidx {t : TypeId} {x i : Operand} : opA P gl ⟨dst, .index t x i, ty, pos, after, g⟩ σ K = strG (lenT P t) (σ.eval gl x) (asInt (σ.eval gl i)) fun r => K (σ.put dst r) := Eq.trans (b := opQ P gl ⟨dst, .index t x i, ty, pos, after, g⟩ σ fun r => K (σ.put dst r)) rfl z_sidx
theorem y_conv {s t : TypeId} {x : Operand} : opA P gl ⟨dst, .convert s t x, ty, pos, after, g⟩ σ K = mat (convG (intK P s) (intK P t) (σ.eval gl x)) fun r => K (σ.put dst r) := Eq.trans (b := opQ P gl ⟨dst, .convert s t x, ty, pos, after, g⟩ σ fun r => K (σ.put dst r)) rfl z_conv
theorem y_ext {x : Operand} {i : Nat} : opA P gl ⟨dst, .extract x i, ty, pos, after, g⟩ σ K = mat (extG (σ.eval gl x) i) fun r => K (σ.put dst r) := Eq.trans (b := opQ P gl ⟨dst, .extract x i, ty, pos, after, g⟩ σ fun r => K (σ.put dst r)) rfl z_ext
theorem y_len {x : Operand} {t : TypeId} : opA P gl ⟨dst, .call ⟨.builtin .len, #[x], #[t]⟩, ty, pos, after, g⟩ σ K = mat (lenH (lenT P t) (lenR σ (σ.eval gl x))) fun r => K (σ.put dst r) := Eq.trans (b := opQ P gl ⟨dst, .call ⟨.builtin .len, #[x], #[t]⟩, ty, pos, after, g⟩ σ fun r => K (σ.put dst r)) rfl z_len
theorem y_min {x y : Operand} {ts : Array TypeId} : opA P gl ⟨dst, .call ⟨.builtin .min, #[x, y], ts⟩, ty, pos, after, g⟩ σ K = mat (minG (σ.eval gl x) (σ.eval gl y)) fun r => K (σ.put dst r) := Eq.trans (b := opQ P gl ⟨dst, .call ⟨.builtin .min, #[x, y], ts⟩, ty, pos, after, g⟩ σ fun r => K (σ.put dst r)) rfl z_min
theorem y_max {x y : Operand} {ts : Array TypeId} : opA P gl ⟨dst, .call ⟨.builtin .max, #[x, y], ts⟩, ty, pos, after, g⟩ σ K = mat (maxG (σ.eval gl x) (σ.eval gl y)) fun r => K (σ.put dst r) := Eq.trans (b := opQ P gl ⟨dst, .call ⟨.builtin .max, #[x, y], ts⟩, ty, pos, after, g⟩ σ fun r => K (σ.put dst r)) rfl z_max
theorem y_nil {x : Operand} : opA P gl ⟨dst, .nilCheck x, ty, pos, after, g⟩ σ K = mat (match σ.eval gl x with
  | .ref ob off => some (.ref ob off)
  | .a (.d (.pt cs)) => some (.a (.d (.pt cs)))
  | .eref ob i sz j => some (.eref ob i sz j)
  | _ => none) fun r => K (σ.put dst r) := Eq.trans (b := opQ P gl ⟨dst, .nilCheck x, ty, pos, after, g⟩ σ fun r => K (σ.put dst r)) rfl z_nil
end
def gdK (o : Option (Option Bool)) (want : Bool) (X Y : Prop) : Prop := match o with
 | some (some b) => gK b want X Y
 | some none => Y
 | none => False
theorem gdK_congr {o o' : Option (Option Bool)} {want : Bool} {X Y : Prop} {tk0 : Bool} (hT : tick = tk0) (h : o = o') : gdK o want X Y = gdK o' want X Y := by rw [h]
attribute [congr] gdK_congr
theorem gd_t {b : Bool} {X Y : Prop} : gdK (some (some b)) true X Y = brK b X Y := rfl
theorem gd_f {b : Bool} {X Y : Prop} : gdK (some (some b)) false X Y = brK b Y X := rfl
theorem gd_n {want : Bool} {X Y : Prop} : gdK (some none) want X Y = Y := rfl
def boolR : R → Option (Option Bool)
 | .a (.d (.v (.bool b))) => some (some b)
 | .tp [] => some none
 | _ => none
theorem br_b {b : Bool} : boolR (.a (.d (.v (.bool b)))) = some (some b) := rfl
theorem br_n : boolR (.tp []) = some none := rfl
theorem l_nil {ops : Array Oper} : opsA P gl ops [] σ K = K σ := rfl
theorem l_cons {ops : Array Oper} {rest : List Oper} {d : Option Tmp} {op : Op} {ty : TypeId} {pos : String} {after : Array Edge} :
  opsA P gl ops (⟨d, op, ty, pos, after, none⟩ :: rest) σ K = opA P gl ⟨d, op, ty, pos, after, none⟩ σ fun σ' => opsA P gl ops rest σ' K := rfl
def dstAt (l : List Oper) (j : Nat) : Option Tmp := (l[j]?).bind Oper.dst
def regAt (σ : S) (d : Option Tmp) : Option (Option Bool) := match d with
 | some d => boolR (σ.regs d)
 | none => none
theorem ra_some {d : Tmp} : regAt σ (some d) = boolR (σ.regs d) := rfl
theorem da_0 {d : Option Tmp} {op : Op} {ty : TypeId} {pos : String} {after : Array Edge} {g : Option (Nat × Bool)} {l : List Oper} : dstAt (⟨d, op, ty, pos, after, g⟩ :: l) 0 = d := rfl
theorem da_s {o : Oper} {l : List Oper} {j : Nat} : dstAt (o :: l) (j + 1) = dstAt l j := rfl
theorem guardR_eq {l : List Oper} {j : Nat} : guardR l.toArray σ j = regAt σ (dstAt l j) := by
 simp only [guardR, regAt, dstAt, List.getElem?_toArray]
 cases (l[j]?).bind Oper.dst with
 | none => rfl
 | some d =>
  simp only [Option.map_some, boolR]
  rcases σ.regs d with _ | ((v | _ | _ | _ | _) | _) | _ | _ | _ | _ | _ | _ | _ <;> try rfl
  ·cases v <;> rfl
  ·rename_i xs; cases xs <;> rfl
theorem l_guard {l : List Oper} {rest : List Oper} {d : Option Tmp} {op : Op} {ty : TypeId} {pos : String} {after : Array Edge} {j : Nat} {want : Bool} :
  opsA P gl l.toArray (⟨d, op, ty, pos, after, some (j, want)⟩ :: rest) σ K =
  gdK (regAt σ (dstAt l j)) want (opA P gl ⟨d, op, ty, pos, after, some (j, want)⟩ σ fun σ' => opsA P gl l.toArray rest σ' K) (opsA P gl l.toArray rest (σ.put d (.tp [])) K) := by
 simp only [opsA, guardR_eq, gdK]
 rcases regAt σ (dstAt l j) with _ | _ | _ <;> rfl
theorem d_nil {ops : Array Oper} : opsQ P gl ops [] σ K = K σ := rfl
theorem d_cons {ops : Array Oper} {rest : List Oper} {d : Option Tmp} {op : Op} {ty : TypeId} {pos : String} {after : Array Edge} :
  opsQ P gl ops (⟨d, op, ty, pos, after, none⟩ :: rest) σ K = inD P gl ⟨d, op, ty, pos, after, none⟩ σ fun σ' => opsQ P gl ops rest σ' K := rfl
theorem d_guard {l : List Oper} {rest : List Oper} {d : Option Tmp} {op : Op} {ty : TypeId} {pos : String} {after : Array Edge} {j : Nat} {want : Bool} :
  opsQ P gl l.toArray (⟨d, op, ty, pos, after, some (j, want)⟩ :: rest) σ K =
  gdK (regAt σ (dstAt l j)) want (inD P gl ⟨d, op, ty, pos, after, some (j, want)⟩ σ fun σ' => opsQ P gl l.toArray rest σ' K) (opsQ P gl l.toArray rest (σ.put d (.tp [])) K) := by
 simp only [opsQ, guardR_eq, gdK]
 rcases regAt σ (dstAt l j) with _ | _ | _ <;> rfl
theorem in_D {o : Oper} : inD P gl o σ K = inG (quietO o) (opQ P gl o σ fun r => K (σ.put o.dst r)) (opA P gl o σ K) := by
 simp only [inD, inG]
 cases quietO o <;> rfl
theorem dst_mk {d : Option Tmp} {op : Op} {ty : TypeId} {pos : String} {after : Array Edge} {g : Option (Nat × Bool)} : (Oper.mk d op ty pos after g).dst = d := rfl
def ldB (ti : Option TI) (m : Option Ob) (off : Nat) : Option R := match ti, m with
 | some ⟨_, _, false, _⟩, some (.box cs) => cs[off]?
 | some ⟨sz, _, true, _⟩, some (.box cs) => cond (decide (off + sz ≤ cs.length)) ((allD ((cs.drop off).take sz)).map fun ds => .a (.ag ds)) none
 | _, _ => none
def ldP (ti : Option TI) (cs : List D) : Option R := match ti with
 | some ⟨_, _, false, _⟩ => (cs[0]?).map fun d => .a (.d d)
 | some ⟨sz, _, true, _⟩ => cond (decide (sz ≤ cs.length)) (some (.a (.ag (cs.take sz)))) none
 | _ => none
def ldE (ti : Option TI) (m : Option (List D)) (sz j : Nat) : Option R := match ti, m with
 | some ⟨_, _, false, _⟩, some x => cond (decide (x.length = sz)) ((x[j]?).map fun d => .a (.d d)) none
 | some ⟨s, _, true, _⟩, some x => cond (decide (x.length = sz)) (cond (decide (j + s ≤ x.length)) (some (.a (.ag ((x.drop j).take s)))) none) none
 | _, _ => none
theorem ld_ref {t : TypeId} {o off : Nat} : loadR P σ t (.ref o off) = ldB (tinf P t) (σ.mem o) off := by
 simp only [loadR, ldB]
 rcases tinf P t with _ | ⟨_, _, ag, _⟩
 ·rcases σ.mem o with _ | (_ | _ | _) <;> rfl
 ·rcases σ.mem o with _ | (_ | _ | _) <;> cases ag <;> try rfl
  simp only []
  split <;> simp [*]
theorem ld_pt {t : TypeId} {cs : List D} : loadR P σ t (.a (.d (.pt cs))) = ldP (tinf P t) cs := by
 simp only [loadR, ldP]
 rcases tinf P t with _ | ⟨_, _, ag, _⟩
 ·rfl
 ·cases ag <;> try rfl
  simp only []
  split <;> simp [*]
theorem ld_eref {t : TypeId} {o i sz j : Nat} : loadR P σ t (.eref o i sz j) = ldE (tinf P t) ((logOf (σ.mem o)).bind (·[i]?)) sz j := by
 simp only [loadR, ldE, logOf]
 rcases tinf P t with _ | ⟨_, _, ag, _⟩
 ·rcases σ.mem o with _ | (_ | ⟨e, z, xs⟩ | _) <;> try rfl
 ·rcases σ.mem o with _ | (_ | ⟨e, z, xs⟩ | _) <;> cases ag <;> try rfl
  ·simp only [Option.bind_some]
   cases xs[i]? with
   | none => rfl
   | some x => simp only []; split <;> simp [*]
  ·simp only [Option.bind_some]
   cases xs[i]? with
   | none => rfl
   | some x =>
    simp only []
    by_cases h1 : x.length = sz
    ·subst h1; simp
    ·simp [h1]
theorem lb_one {sz bs off : Nat} {z : List Value} {cs : List R} : ldB (some ⟨sz, bs, false, z⟩) (some (.box cs)) off = cs[off]? := rfl
theorem lb_ag {sz bs off : Nat} {z : List Value} {cs : List R} : ldB (some ⟨sz, bs, true, z⟩) (some (.box cs)) off = cond (decide (off + sz ≤ cs.length)) ((allD ((cs.drop off).take sz)).map fun ds => .a (.ag ds)) none := rfl
theorem lp_one {sz bs : Nat} {z : List Value} {cs : List D} : ldP (some ⟨sz, bs, false, z⟩) cs = (cs[0]?).map fun d => .a (.d d) := rfl
theorem lp_ag {sz bs : Nat} {z : List Value} {cs : List D} : ldP (some ⟨sz, bs, true, z⟩) cs = cond (decide (sz ≤ cs.length)) (some (.a (.ag (cs.take sz)))) none := rfl
theorem le_one {s bs sz j : Nat} {z : List Value} {x : List D} : ldE (some ⟨s, bs, false, z⟩) (some x) sz j = cond (decide (x.length = sz)) ((x[j]?).map fun d => .a (.d d)) none := rfl
theorem le_ag {s bs sz j : Nat} {z : List Value} {x : List D} : ldE (some ⟨s, bs, true, z⟩) (some x) sz j = cond (decide (x.length = sz)) (cond (decide (j + s ≤ x.length)) (some (.a (.ag ((x.drop j).take s)))) none) none := rfl
theorem ad_nil : allD [] = some [] := rfl
theorem ad_cons {x : D} {rs : List R} : allD (.a (.d x) :: rs) = (allD rs).map (x :: ·) := rfl
theorem cl_ag {ds : List D} : cellsR (.a (.ag ds)) = some (ds.map fun d => .a (.d d)) := rfl
theorem cl_d {x : D} : cellsR (.a (.d x)) = some [.a (.d x)] := rfl
theorem cl_cs {xs : List (List D)} : cellsR (.cs xs) = some [.a (.d (.sl xs))] := rfl
theorem cl_own {o : Nat} : cellsR (.own o) = some [.own o] := rfl
theorem cl_ref {o f : Nat} : cellsR (.ref o f) = some [.ref o f] := rfl
theorem cl_agr {xs : List R} : cellsR (.agr xs) = some xs := rfl
theorem k_agr {o : Nat} {xs : List R} (h : (xs.any (R.says0 o)) = false) : (R.agr xs).kill o = .agr xs := by
 unfold R.kill
 rw [show (R.agr xs).says o = false from h]; rfl
theorem cl_omp {o : Nat} : cellsR (.omp o) = some [.omp o] := rfl
def spl (cs new : List R) (off : Nat) : Option (List R) := cond (decide (off + new.length ≤ cs.length)) (some (match new with
 | [r] => cs.set off r
 | _ => cs.take off ++ new ++ cs.drop (off + new.length))) none
def stB (σ : S) (ti : Option TI) (new : Option (List R)) (o off : Nat) (m : Option Ob) : Option S := match ti, new, m with
 | some ti, some new, some (.box cs) => cond (decide (new.length = ti.sz)) ((spl cs new off).map fun cs => σ.setOb o (.box cs)) none
 | _, _, _ => none
theorem stB_congr {ti ti' : Option TI} {new new' : Option (List R)} {o off : Nat} {m m' : Option Ob} {tk0 : Bool} (hT : tick = tk0) (h : ti = ti') (h1 : new = new') (h2 : m = m') : stB σ ti new o off m = stB σ ti' new' o off m' := by rw [h, h1, h2]
attribute [congr] stB_congr
theorem st_ref {t : TypeId} {o off : Nat} {x : R} : storeR P σ t (.ref o off) x = stB σ (tinf P t) (cellsR x) o off (σ.mem o) := by
 simp only [storeR, stB, spl]
 rcases tinf P t with _ | ti <;> rcases cellsR x with _ | new <;> try rfl
 rcases σ.mem o with _ | (cs | _ | _) <;> simp only [ite_self]
 by_cases h1 : new.length = ti.sz
 ·simp only [h1]
  by_cases h2 : off + ti.sz ≤ cs.length
  ·simp only [h2, decide_true, cond_true, if_true, Option.map_some]; rfl
  ·simp [h2]
 ·simp [h1]
theorem sb_one {sz bs o off : Nat} {ag : Bool} {z : List Value} {r : R} {cs : List R} (h : (sz == 1) = true) (h' : off + 1 ≤ cs.length) : stB σ (some ⟨sz, bs, ag, z⟩) (some [r]) o off (some (.box cs)) = some (σ.setOb o (.box (cs.set off r))) := by
 have : sz = 1 := by simpa using h
 subst this
 simp [stB, spl, h']
theorem sb_ag {sz bs o off : Nat} {z : List Value} {new : List R} {cs : List R} : stB σ (some ⟨sz, bs, true, z⟩) (some new) o off (some (.box cs)) = cond (decide (new.length = sz)) ((spl cs new off).map fun cs => σ.setOb o (.box cs)) none := rfl
theorem t_a {d : Tmp} {x : A} (h : decide (d + 1 ≤ 1000000000) = true) : S.ret σ (some d) [.a x] K = K (σ.put (some d) (.a x)) := by
 have : d + 1 ≤ 1000000000 := by simpa using h
 simp [S.ret, baseId, Rv.isFresh, freshOf, regsOf, one, this]
theorem t_c {d : Tmp} {xs : List (List D)} (h : decide (d + 1 ≤ 1000000000) = true) : S.ret σ (some d) [.clip xs] K = K (σ.put (some d) (.cs xs)) := by
 have : d + 1 ≤ 1000000000 := by simpa using h
 simp [S.ret, baseId, Rv.isFresh, freshOf, regsOf, one, this]
theorem t_f {d : Tmp} {e : TypeId} {z : Nat} {xs : List (List D)} (h : decide (d + 1 ≤ 1000000000) = true) : S.ret σ (some d) [.fresh e z xs] K = K ((σ.newOb d (.log e z xs)).put (some d) (.own d)) := by
 have : d + 1 ≤ 1000000000 := by simpa using h
 simp [S.ret, baseId, Rv.isFresh, freshOf, regsOf, one, this, List.filter]
theorem t_aa {d : Tmp} {x y : A} (h : decide (1000 + 16 * d + 2 ≤ 1000000000) = true) : S.ret σ (some d) [.a x, .a y] K = K (σ.put (some d) (.tp [.a x, .a y])) := by
 have : 1000 + 16 * d + 2 ≤ 1000000000 := by simpa using h
 simp [S.ret, baseId, Rv.isFresh, freshOf, regsOf, one, this]
theorem t_aaa {d : Tmp} {x y z : A} (h : decide (1000 + 16 * d + 3 ≤ 1000000000) = true) : S.ret σ (some d) [.a x, .a y, .a z] K = K (σ.put (some d) (.tp [.a x, .a y, .a z])) := by
 have : 1000 + 16 * d + 3 ≤ 1000000000 := by simpa using h
 simp [S.ret, baseId, Rv.isFresh, freshOf, regsOf, one, this]
def datR : List A → List R
 | [] => []
 | x :: xs => .a x :: datR xs
theorem datR_eq : ∀ (as : List A), datR as = as.map R.a
 | [] => rfl
 | x :: as => by simp [datR, datR_eq as]
theorem argsA_dat : ∀ (as : List A), argsA σ (datR as) = some as
 | [] => rfl
 | x :: as => by simp [datR, argsA, argA, argsA_dat as]
theorem rest_dat {KS : S → List A → Prop} : ∀ (as acc : List A), S.rest σ (datR as) acc KS = KS σ (acc.reverse ++ as)
 | [], acc => by simp [datR, S.rest]
 | x :: as, acc => by
  simp only [datR, S.rest, argA, R.low, S.rest1, true_and]
  rw [rest_dat as]; simp
theorem call_dat {f : FuncId} {as : List A} {res : List Rv} {dst : Option Tmp} (h : Holds P gl f as res) (k : S.ret σ dst res K) : callV P gl f (datR as) dst σ K :=
 .inr (.inl ⟨res, by rw [rest_dat]; simpa using ⟨h, k⟩⟩)
theorem call_inl {f : FuncId} {rs : List R} {dst : Option Tmp} (h : Inl P gl f rs σ fun σ' rs' => K (σ'.put dst (one rs'))) : callV P gl f rs dst σ K := .inr (.inr h)
theorem call_flat {f : FuncId} {rs : List R} {as : List A} {res : List Rv} {dst : Option Tmp} (ha : argsA σ rs = some as) (h : Holds P gl f as res) (hf : res.all Rv.flat = true) (k : S.ret σ dst res K) : callV P gl f rs dst σ K :=
 .inl ⟨as, res, ha, h, hf, k⟩
theorem callQ_flat {f : FuncId} {rs : List R} {as res : List A} {KR : R → Prop} (h : Holds P gl f as (res.map Rv.a)) (ha : argsA σ rs = some as) (hf : res.all A.flat = true) (k : KR (retR res)) : callVQ P gl f rs σ KR :=
 ⟨as, res, ha, h, .inl hf, k⟩
theorem callQ_dat {f : FuncId} {as res : List A} {KR : R → Prop} (h : Holds P gl f as (res.map Rv.a)) (k : KR (retR res)) : callVQ P gl f (datR as) σ KR :=
 ⟨as, res, argsA_dat as, h, .inr (datR_eq as), k⟩
def postR (P : Program) (vs : List ResultVar) (res : List Rv) : Ex → S → Prop
 | .normal, σ | .ret, σ => aloneRs res ∧ endRs P σ vs res
 | _, _ => False
theorem p_ret {vs : List ResultVar} {res : List Rv} : postR P vs res .ret σ = (aloneRs res ∧ endRs P σ vs res) := rfl
theorem p_normal {vs : List ResultVar} {res : List Rv} : postR P vs res .normal σ = (aloneRs res ∧ endRs P σ vs res) := rfl
theorem al_a {x : A} : aloneRs [.a x] = True := by simp [aloneRs, Rv.isFresh]
theorem al_c {xs : List (List D)} : aloneRs [.clip xs] = True := by simp [aloneRs, Rv.isFresh]
theorem al_f {e : TypeId} {z : Nat} {xs : List (List D)} : aloneRs [.fresh e z xs] = True := by simp [aloneRs, Rv.isFresh, List.filter]
theorem al_aa {x y : A} : aloneRs [.a x, .a y] = True := by simp [aloneRs, Rv.isFresh]
theorem al_aaa {x y z : A} : aloneRs [.a x, .a y, .a z] = True := by simp [aloneRs, Rv.isFresh]
theorem er_nil : endRs P σ [] [] = True := rfl
theorem er_cons {v : ResultVar} {vs : List ResultVar} {r : Rv} {rs : List Rv} : endRs P σ (v :: vs) (r :: rs) = (endR P σ v (σ.regs (rvTmp v)) r ∧ endRs P σ vs rs) := rfl
theorem rv_t {t : Tmp} : rvTmp (.tmp t) = t := rfl
theorem rv_c {t : Tmp} {u : TypeId} : rvTmp (.cell t u) = t := rfl
theorem en_d {t : Tmp} {r : R} {x : D} : endR P σ (.tmp t) r (.a (.d x)) = (endD σ r = some x) := rfl
theorem en_ag {t : Tmp} {xs ys : List D} : endR P σ (.tmp t) (.a (.ag ys)) (.a (.ag xs)) = (ys = xs) := by simp [endR]
theorem en_c {t : Tmp} {xs ys : List (List D)} : endR P σ (.tmp t) (.cs xs) (.clip ys) = (xs = ys) := rfl
theorem en_f {t : Tmp} {o : Nat} {e : TypeId} {z : Nat} {ys : List (List D)} : endR P σ (.tmp t) (.own o) (.fresh e z ys) = (o < 1000000000 ∧ σ.mem o = some (.log e z ys)) := rfl
theorem ed_a {x : D} : endD σ (.a (.d x)) = some x := rfl
theorem ed_c {xs : List (List D)} : endD σ (.cs xs) = some (.sl xs) := rfl
theorem ed_own {o : Nat} : endD σ (.own o) = (logOf (σ.mem o)).map .sl := by
 simp only [endD, logOf]
 rcases σ.mem o with _ | (_ | _ | _) <;> rfl
theorem fn_holds {gl : Nat → Option (List D)} {f : FuncId} {fn : Func} {body : Code} {as : List A} {res : List Rv} {vs : List ResultVar} (hm : P.follows .mixedOrders = true)
  (hf : P.funcs[f]? = some fn) (hb : fn.body = some body) (hr : fn.results.toList = vs) (hname : (fn.name == "runtime.NumGoroutine") = false) (hd : dstOK fn.ntmps body = true) (hN : (decide (as.length ≤ fn.ntmps)) = true)
  (h : awp P gl body (postR P vs res) (S.init as)) : Holds P gl f as res :=
 holds_of hm hf hb hname hd (by simpa using hN) (awp_mono body (fun e σ he => by subst hr; cases e <;> exact he) h)
theorem hr_nil : hasR σ [] = True := rfl
theorem hr_cons {t : Nat} {r : R} {L : List (Nat × R)} : hasR σ ((t, r) :: L) = (σ.regs t = r ∧ hasR σ L) := rfl
theorem hm_nil : hasM σ [] = True := rfl
theorem hm_cons {o : Nat} {x : Ob} {M : List (Nat × Ob)} : hasM σ ((o, x) :: M) = (σ.mem o = some x ∧ hasM σ M) := rfl
def nextR {α : Type} (I : α → List (Nat × R)) (M : α → List (Nat × Ob)) (ok : α → Prop) (m : α → Nat) (a : α) (σ : S) : Prop :=
 ∃ a', hasR σ (I a') ∧ hasM σ (M a') ∧ ok a' ∧ m a' < m a
theorem awp_loopA {α : Type} (I : α → List (Nat × R)) (M : α → List (Nat × Ob)) (ok : α → Prop) (m : α → Nat) {c : Code} (a0 : α) (h0 : hasR σ (I a0)) (h1 : hasM σ (M a0)) (h2 : ok a0)
  (h : ∀ a j, ok a → awp P gl c (Ex.then (nextR I M ok m a) Q) (S.of (I a) (M a) j)) : awp P gl (.loop c) Q σ := by
 refine awp_loop (fun n σ => ∃ a, hasR σ (I a) ∧ hasM σ (M a) ∧ ok a ∧ m a = n) (m a0) ⟨a0, h0, h1, h2, rfl⟩ fun n σ ⟨a, hr, hm, hok, hn⟩ => ?_
 rw [S.of_self hr hm]
 refine awp_mono c (fun e σ he => ?_) (h a σ hok)
 cases e with
 | normal => obtain ⟨a', k1, k2, k3, k4⟩ := he; exact ⟨m a', by omega, a', k1, k2, k3, rfl⟩
 | exit id => exact he
 | ret => exact he
 | panic t r => exact he
def IsD (x : D) : Prop := ∃ st w v, Rd st w v x
def IsA : A → Prop
 | .d x => IsD x
 | .ag xs => ∀ x ∈ xs, IsD x
theorem IsD.len {xs : List (List D)} (h : IsD (.sl xs)) : xs.length ≤ maxLen := by
 obtain ⟨st, w, v, h⟩ := h
 cases h with
 | nil => exact Nat.zero_le _
 | sl _ _ hn hcap hm _ _ _ => omega
theorem IsD.sub {xs : List (List D)} {x : List D} {d : D} (h : IsD (.sl xs)) (hx : x ∈ xs) (hd : d ∈ x) : IsD d := by
 obtain ⟨st, w, v, h⟩ := h
 cases h with
 | nil => cases hx
 | sl _ _ _ _ _ _ _ h =>
  obtain ⟨i, hi⟩ := List.getElem?_of_mem hx
  obtain ⟨j, hj⟩ := List.getElem?_of_mem hd
  exact ⟨_, _, _, h i x j d hi hj⟩
theorem IsA.of {st : Nat → Prop} {w : World} {v : Value} {x : A} (h : RelA st w v x) : IsA x := by
 cases x with
 | d x => exact ⟨_, _, _, h⟩
 | ag xs =>
  obtain ⟨cs, _, hf⟩ := h
  intro d hd
  obtain ⟨j, hj⟩ := List.getElem?_of_mem hd
  obtain ⟨v, _, hr⟩ := hf.get hj
  exact ⟨_, _, _, hr⟩
def IsAs : List A → Prop
 | [] => True
 | x :: xs => IsA x ∧ IsAs xs
theorem IsAs.of {st : Nat → Prop} {w : World} : ∀ {vs : List Value} {as : List A}, F2 (RelA st w) vs as → IsAs as
 | _, [], _ => trivial
 | _, x :: as, h => by
  obtain ⟨v, vs, rfl, h0, h1⟩ := h.of_cons
  exact ⟨IsA.of h0, IsAs.of h1⟩
theorem fn_holds_is {gl : Nat → Option (List D)} {f : FuncId} {fn : Func} {body : Code} {as : List A} {res : List Rv} {vs : List ResultVar} (hm : P.follows .mixedOrders = true)
  (hf : P.funcs[f]? = some fn) (hb : fn.body = some body) (hr : fn.results.toList = vs) (hname : (fn.name == "runtime.NumGoroutine") = false) (hd : dstOK fn.ntmps body = true) (hN : (decide (as.length ≤ fn.ntmps)) = true)
  (h : IsAs as → awp P gl body (postR P vs res) (S.init as)) : Holds P gl f as res :=
 ⟨⟨fn, hf, by rw [hb]; rfl, hname⟩, fun st w vs he hv => (fn_holds hm hf hb hr hname hd hN (h (IsAs.of hv))).2 st w vs he hv⟩
end
theorem rg1 : List.range 1 = [0] := rfl
theorem rg2 : List.range 2 = [0, 1] := rfl
theorem rg3 : List.range 3 = [0, 1, 2] := rfl
theorem rg4 : List.range 4 = [0, 1, 2, 3] := rfl
theorem rg5 : List.range 5 = [0, 1, 2, 3, 4] := rfl
theorem rp1 {x : List D} : List.replicate 1 x = [x] := rfl
theorem rp2 {x : List D} : List.replicate 2 x = [x, x] := rfl
theorem rp3 {x : List D} : List.replicate 3 x = [x, x, x] := rfl
theorem rp4 {x : List D} : List.replicate 4 x = [x, x, x, x] := rfl
theorem rp5 {x : List D} : List.replicate 5 x = [x, x, x, x, x] := rfl
theorem fl_nil : ([] : List (List D)).flatten = [] := rfl
theorem fl_cons {x : List D} {l : List (List D)} : (x :: l).flatten = x ++ l.flatten := by simp
theorem all_nil {p : Value → Bool} : [].all p = true := rfl
theorem all_cons {p : Value → Bool} {x : Value} {xs : List Value} : (x :: xs).all p = (p x && xs.all p) := rfl
theorem oa_nil {p : Nat × Nat × Bool → Bool} : [].all p = true := rfl
theorem oa_cons {p : Nat × Nat × Bool → Bool} {x : Nat × Nat × Bool} {xs : List (Nat × Nat × Bool)} : (x :: xs).all p = (p x && xs.all p) := rfl
theorem oc_i {k : IntKind} {n : Int} : Value.oneCell' (.int k n) = true := rfl
theorem oc_b {b : Bool} : Value.oneCell' (.bool b) = true := rfl
theorem oc_s {b : ByteArray} : Value.oneCell' (.string b) = true := rfl
theorem oc_l : Value.oneCell' (.slice none 0 0) = true := rfl
theorem oc_m : Value.oneCell' (.map none) = true := rfl
theorem oc_p : Value.oneCell' (.pointer none) = true := rfl
theorem cd_i {k : IntKind} {n : Int} : cellD (.int k n) = .v (.int k n) := rfl
theorem cd_b {b : Bool} : cellD (.bool b) = .v (.bool b) := rfl
theorem cd_s {b : ByteArray} : cellD (.string b) = .v (.string b) := rfl
theorem cd_l : cellD (.slice none 0 0) = .sl [] := rfl
theorem cd_m : cellD (.map none) = .mp [] := rfl
theorem cd_p : cellD (.pointer none) = .v (.pointer none) := rfl
theorem fa_nil {p : List D → Prop} : (∀ c ∈ ([] : List (List D)), p c) = True := by simp
theorem fa_cons {p : List D → Prop} {x : List D} {l : List (List D)} : (∀ c ∈ x :: l, p c) = (p x ∧ ∀ c ∈ l, p c) := by simp
theorem and_tt : (true && true) = true := rfl
section
variable {dst : Option Tmp} {ty : TypeId} {pos : String} {after : Array Edge} {g : Option (Nat × Bool)}
theorem qt_move {x : Operand} : quietO ⟨dst, .move x, ty, pos, after, g⟩ = true := rfl
theorem qt_asg_t {t : Tmp} : quietO ⟨dst, .assign (.tmp t), ty, pos, after, g⟩ = true := rfl
theorem qt_asg_i {k : IntKind} {n : Int} : quietO ⟨dst, .assign (.const (.int k n)), ty, pos, after, g⟩ = true := rfl
theorem qt_asg_b {b : Bool} : quietO ⟨dst, .assign (.const (.bool b)), ty, pos, after, g⟩ = true := rfl
theorem qt_pick {x y z : Operand} : quietO ⟨dst, .pick x y z, ty, pos, after, g⟩ = true := rfl
theorem qt_load {t : TypeId} {p : Operand} : quietO ⟨dst, .load t p, ty, pos, after, g⟩ = true := rfl
theorem qt_fld {t : TypeId} {p : Operand} {f : Nat} : quietO ⟨dst, .fieldAddr t p f, ty, pos, after, g⟩ = true := rfl
theorem qt_idx {t : TypeId} {p f : Operand} : quietO ⟨dst, .indexAddr t p f, ty, pos, after, g⟩ = true := rfl
theorem qt_nil {p : Operand} : quietO ⟨dst, .nilCheck p, ty, pos, after, g⟩ = true := rfl
theorem qt_bin {op : BinOp} {t u : TypeId} {x y : Operand} : quietO ⟨dst, .binOp op t x y u, ty, pos, after, g⟩ = true := rfl
theorem qt_un {op : UnOp} {t : TypeId} {x : Operand} : quietO ⟨dst, .unOp op t x, ty, pos, after, g⟩ = true := rfl
theorem qt_sidx {t : TypeId} {x i : Operand} : quietO ⟨dst, .index t x i, ty, pos, after, g⟩ = true := rfl
theorem qt_cv {t u : TypeId} {x : Operand} : quietO ⟨dst, .convert t u x, ty, pos, after, g⟩ = true := rfl
theorem qt_ext {x : Operand} {i : Nat} : quietO ⟨dst, .extract x i, ty, pos, after, g⟩ = true := rfl
theorem qt_sli {t : TypeId} {x : Operand} {l h m : Option Operand} : quietO ⟨dst, .slice t x l h m, ty, pos, after, g⟩ = true := rfl
theorem qt_lk {t : TypeId} {x i : Operand} {ok : Bool} : quietO ⟨dst, .lookup t x i ok, ty, pos, after, g⟩ = true := rfl
theorem qt_len {l : Array Operand} {ts : Array TypeId} : quietO ⟨dst, .call ⟨.builtin .len, l, ts⟩, ty, pos, after, g⟩ = true := rfl
theorem qt_min {l : Array Operand} {ts : Array TypeId} : quietO ⟨dst, .call ⟨.builtin .min, l, ts⟩, ty, pos, after, g⟩ = true := rfl
theorem qt_max {l : Array Operand} {ts : Array TypeId} : quietO ⟨dst, .call ⟨.builtin .max, l, ts⟩, ty, pos, after, g⟩ = true := rfl
theorem qt_cal {f : Operand} {l : Array Operand} {ts : Array TypeId} : quietO ⟨dst, .call ⟨.value f, l, ts⟩, ty, pos, after, g⟩ = true := rfl
theorem qt_app {l : Array Operand} {ts : Array TypeId} : quietO ⟨dst, .call ⟨.builtin .append, l, ts⟩, ty, pos, after, g⟩ = false := rfl
theorem qt_sto {t : TypeId} {p x : Operand} : quietO ⟨dst, .store t p x, ty, pos, after, g⟩ = false := rfl
theorem qt_alc {t : TypeId} : quietO ⟨dst, .alloc t, ty, pos, after, g⟩ = false := rfl
theorem qt_box {t : TypeId} {x : Operand} : quietO ⟨dst, .box t x, ty, pos, after, g⟩ = false := rfl
theorem qt_bld {t : TypeId} {l : Array (Nat × Operand)} : quietO ⟨dst, .build t l, ty, pos, after, g⟩ = true := rfl
theorem qt_bsl {t : TypeId} {n : Nat} {l : Array (Nat × Operand)} : quietO ⟨dst, .buildSlice t n l, ty, pos, after, g⟩ = (n == 0) := rfl
theorem qt_mkm {t : TypeId} {r : Option Operand} : quietO ⟨dst, .makeMap t r, ty, pos, after, g⟩ = false := rfl
theorem qt_mku {t : TypeId} {m k v : Operand} : quietO ⟨dst, .mapUpdate t m k v, ty, pos, after, g⟩ = false := rfl
theorem qt_ins {t : TypeId} {m k v : Operand} : quietO ⟨dst, .insert t m k v, ty, pos, after, g⟩ = false := rfl
end
theorem rt_1 {x : A} : retR [x] = .a x := rfl
theorem rt_2 {x y : A} : retR [x, y] = .tp [.a x, .a y] := rfl
section
variable {P : Program} {gl : Nat → Option (List D)} {σ : S} {K : S → Prop} {dst : Option Tmp} {ty : TypeId} {pos : String} {after : Array Edge} {g : Option (Nat × Bool)}
def isMapT (P : Program) (t : TypeId) : Bool := match tk P t with
 | .map _ _ => true
 | _ => false
def kvR : R → Option (List (Int × D))
 | .a (.d (.mp kv)) => some kv
 | _ => none
theorem kv_mp {kv : List (Int × D)} : kvR (.a (.d (.mp kv))) = some kv := rfl
theorem y_range {t : TypeId} {x : Operand} {d : Tmp} : opA P gl ⟨some d, .range t x, ty, pos, after, g⟩ σ K = inG (isMapT P t) (mat (kvR (σ.eval gl x)) fun kv => K ((σ.newOb d (.iter kv [])).put (some d) (.ref d 0))) False := by
 simp only [opA, isX, opA0, rangeK, isMapT, inG]
 cases tk P t <;> try rfl
 rcases σ.eval gl x with _ | ((v | _ | _ | _ | _) | _) | _ | _ | _ | _ | _ | _ | _ <;> rfl
def stepG (σ : S) (x : R) (dst : Option Tmp) (K : S → Prop) : Prop := nextK σ x dst K
theorem stepG_congr {x x' : R} {tk0 : Bool} (hT : tick = tk0) (h : x = x') : stepG σ x dst K = stepG σ x' dst K := by rw [h]
theorem y_next {x : Operand} : opA P gl ⟨dst, .next x false, ty, pos, after, g⟩ σ K = stepG σ (σ.eval gl x) dst K := rfl
def itOf : Option Ob → Option (Int × D)
 | some (.iter kv seen) => seen.getLast?.bind (kv[·]?)
 | _ => none
theorem it_o {kv : List (Int × D)} {seen : List Nat} {i : Nat} : itOf (some (.iter kv (seen ++ [i]))) = kv[i]? := by simp [itOf]
def entG (σ : S) (x : R) (K : R → Prop) : Prop := match x with
 | .ref ob 0 => mat (itOf (σ.mem ob)) fun p => K (.tp [.a (.d (.v (.int .i64 p.1))), .a (.d p.2)])
 | _ => False
theorem entG_congr {x x' : R} {K : R → Prop} {tk0 : Bool} (hT : tick = tk0) (h : x = x') : entG σ x K = entG σ x' K := by rw [h]
theorem eg_ref {ob : Nat} {K : R → Prop} : entG σ (.ref ob 0) K = mat (itOf (σ.mem ob)) fun p => K (.tp [.a (.d (.v (.int .i64 p.1))), .a (.d p.2)]) := rfl
theorem y_entry {x : Operand} : opA P gl ⟨dst, .entry x, ty, pos, after, g⟩ σ K = entG σ (σ.eval gl x) fun r => K (σ.put dst r) := by
 simp only [opA, isX, opA0, entryK, entG, mat, itOf]
 rcases σ.eval gl x with _ | ((v | _ | _ | _ | _) | _) | _ | ⟨ob, off⟩ | _ | _ | _ | _ | _ <;> try rfl
 cases off <;> try rfl
 rcases hm : σ.mem ob with _ | (_ | _ | _ | ⟨kv, seen⟩)
 all_goals simp only [hm]
 cases seen.getLast?.bind fun x => kv[x]? <;> rfl
theorem qt_rng {t : TypeId} {x : Operand} : quietO ⟨dst, .range t x, ty, pos, after, g⟩ = false := rfl
theorem qt_nxt {b : Bool} {x : Operand} : quietO ⟨dst, .next x b, ty, pos, after, g⟩ = false := rfl
theorem qt_ent {x : Operand} : quietO ⟨dst, .entry x, ty, pos, after, g⟩ = false := rfl
theorem ok_iter {o : Nat} {kv : List (Int × D)} {seen : List Nat} : (Ob.iter kv seen).kill o = .iter kv seen := rfl
theorem of_iter {o : Nat} {f : Nat → D} {kv : List (Int × D)} {seen : List Nat} : (Ob.iter kv seen).frz o f = .iter kv seen := rfl
attribute [congr] stepG_congr entG_congr
end
def zL : List Value → Option (List R)
 | [] => some []
 | v :: vs => if v.oneCell' then (zL vs).map (.a (.d (cellD v)) :: ·) else none
theorem zR_eq {sz bs : Nat} {ag : Bool} {z : List Value} : zR ⟨sz, bs, ag, z⟩ = zL z := by
 simp only [zR]
 induction z with
 | nil => rfl
 | cons v z ih =>
  simp only [zL, List.all_cons, List.map_cons, ← ih]
  by_cases h : v.oneCell' = true <;> by_cases h' : z.all Value.oneCell' = true <;> simp [h, h']
theorem zl_nil : zL [] = some [] := rfl
theorem zl_i {k : IntKind} {n : Int} {z : List Value} : zL (.int k n :: z) = (zL z).map (.a (.d (.v (.int k n))) :: ·) := rfl
theorem zl_b {b : Bool} {z : List Value} : zL (.bool b :: z) = (zL z).map (.a (.d (.v (.bool b))) :: ·) := rfl
theorem zl_s {b : ByteArray} {z : List Value} : zL (.string b :: z) = (zL z).map (.a (.d (.v (.string b))) :: ·) := rfl
theorem zl_sl {z : List Value} : zL (.slice none 0 0 :: z) = (zL z).map (.a (.d (.sl [])) :: ·) := rfl
theorem zl_m {z : List Value} : zL (.map none :: z) = (zL z).map (.a (.d (.mp [])) :: ·) := rfl
theorem zl_p {z : List Value} : zL (.pointer none :: z) = (zL z).map (.a (.d (.v (.pointer none))) :: ·) := rfl
theorem spl_2 {cs new : List R} {r1 r2 : R} {off : Nat} : spl cs (r1 :: r2 :: new) off = cond (decide (off + (r1 :: r2 :: new).length ≤ cs.length)) (some (cs.take off ++ (r1 :: r2 :: new) ++ cs.drop (off + (r1 :: r2 :: new).length))) none := rfl
theorem spl_1 {cs : List R} {r1 : R} {off : Nat} : spl cs [r1] off = cond (decide (off + [r1].length ≤ cs.length)) (some (cs.set off r1)) none := rfl
section
variable {P : Program} {gl : Nat → Option (List D)} {σ : S} {K : S → Prop} {KR : R → Prop} {KA : S → List A → Prop} {dst : Option Tmp} {ty : TypeId} {pos : String} {after : Array Edge} {g : Option (Nat × Bool)}
def mpoOf : Option Ob → Option (List (Int × D))
 | some (.mpo kv) => some kv
 | _ => none
def boxOf : Option Ob → Option (List R)
 | some (.box cs) => some cs
 | _ => none
theorem mp_o {kv : List (Int × D)} : mpoOf (some (.mpo kv)) = some kv := rfl
theorem bx_o {cs : List R} : boxOf (some (.box cs)) = some cs := rfl
theorem rest_congr {rs rs' : List R} {acc : List A} {tk0 : Bool} (hT : tick = tk0) (h : rs = rs') : S.rest σ rs acc KA = S.rest σ rs' acc KA := by rw [h]
theorem rs_nil {acc : List A} : S.rest σ [] acc KA = KA σ acc.reverse := rfl
theorem rs_a {x : A} {rs : List R} {acc : List A} : S.rest σ (.a x :: rs) acc KA = S.rest σ rs (x :: acc) KA := by simp [S.rest, argA, R.low, S.rest1]
theorem rs_cs {xs : List (List D)} {rs : List R} {acc : List A} : S.rest σ (.cs xs :: rs) acc KA = S.rest σ rs (.d (.sl xs) :: acc) KA := by simp [S.rest, argA, R.low, S.rest1]
theorem rs_own {o : Nat} {rs : List R} {acc : List A} : S.rest σ (.own o :: rs) acc KA = mat (logOf (σ.mem o)) fun xs => (decide (o < 1000000000) = true ∧ S.rest (σ.frz o fun _ => .sl xs) rs (.d (.sl xs) :: acc) KA) := by
 simp only [S.rest, argA, R.low, S.rest1, mat, logOf]
 rcases σ.mem o with _ | (_ | _ | _) <;> simp
theorem rs_omp {o : Nat} {rs : List R} {acc : List A} : S.rest σ (.omp o :: rs) acc KA = mat (mpoOf (σ.mem o)) fun kv => (decide (o < 1000000000) = true ∧ S.rest (σ.frz o fun _ => .mp kv) rs (.d (.mp kv) :: acc) KA) := by
 simp only [S.rest, argA, R.low, S.rest1, mat, mpoOf]
 rcases σ.mem o with _ | (_ | _ | _) <;> simp
theorem rs_ref {o off : Nat} {rs : List R} {acc : List A} : S.rest σ (.ref o off :: rs) acc KA = mat ((boxOf (σ.mem o)).bind allD) fun ds => (decide (o < 1000000000) = true ∧ S.rest (σ.frz o fun off => .pt (ds.drop off)) rs (.d (.pt (ds.drop off)) :: acc) KA) := by
 simp only [S.rest, argA, R.low, S.rest1, mat, boxOf]
 rcases σ.mem o with _ | (cs | _ | _) <;> simp
 cases allD cs <;> simp
theorem mo_d {kv : List (Int × D)} : mapOf σ (.a (.d (.mp kv))) = some kv := rfl
theorem mo_o {o : Nat} : mapOf σ (.omp o) = mpoOf (σ.mem o) := by
 simp only [mapOf, mpoOf]
 rcases σ.mem o with _ | (_ | _ | _) <;> rfl
def lookG (z : Option D) (kv : Option (List (Int × D))) (n : Option Int) (ok : Bool) : Option R := match z, kv, n with
 | some z, some kv, some n => match ok with
  | true => some (.tp [.a (.d ((kvGet kv n).getD z)), .a (.d (.v (.bool (kvGet kv n).isSome)))])
  | false => some (.a (.d ((kvGet kv n).getD z)))
 | _, _, _ => none
theorem lg_t {z : D} {kv : List (Int × D)} {n : Int} : lookG (some z) (some kv) (some n) true = some (.tp [.a (.d ((kvGet kv n).getD z)), .a (.d (.v (.bool (kvGet kv n).isSome)))]) := rfl
theorem lg_f {z : D} {kv : List (Int × D)} {n : Int} : lookG (some z) (some kv) (some n) false = some (.a (.d ((kvGet kv n).getD z))) := rfl
def as64 : R → Option Int
 | .a (.d (.v (.int .i64 n))) => some n
 | _ => none
theorem a64 {n : Int} : as64 (.a (.d (.v (.int .i64 n)))) = some n := rfl
theorem look_eq {t : TypeId} {x i : R} {ok : Bool} : lookR P σ t x i ok = lookG (mapT P t) (mapOf σ x) (as64 i) ok := by
 simp only [lookR, lookG, as64]
 cases mapT P t <;> try rfl
 cases mapOf σ x <;> try rfl
 rcases i with _ | ((v | _ | _ | _ | _) | _) | _ | _ | _ | _ | _ | _ | _ <;> try rfl
 cases v <;> try rfl
 rename_i k n; cases k <;> rfl
theorem z_look {t : TypeId} {x i : Operand} {ok : Bool} : opQ P gl ⟨dst, .lookup t x i ok, ty, pos, after, g⟩ σ KR = mat (lookG (mapT P t) (mapOf σ (σ.eval gl x)) (as64 (σ.eval gl i)) ok) KR := by
 simp only [opQ, look_eq, mat, fc]
 cases lookG (mapT P t) (mapOf σ (σ.eval gl x)) (as64 (σ.eval gl i)) ok <;> rfl
theorem y_look {t : TypeId} {x i : Operand} {ok : Bool} : opA P gl ⟨dst, .lookup t x i ok, ty, pos, after, g⟩ σ K = inG (isXT P t) (SemOp P gl ⟨dst, .lookup t x i ok, ty, pos, after, g⟩ σ K) (mat (lookG (mapT P t) (mapOf σ (σ.eval gl x)) (as64 (σ.eval gl i)) ok) fun r => K (σ.put dst r)) := by
 refine (opA_X).trans (Eq.trans (b := inG (isXT P t) (SemOp P gl ⟨dst, .lookup t x i ok, ty, pos, after, g⟩ σ K) (opQ P gl ⟨dst, .lookup t x i ok, ty, pos, after, g⟩ σ fun r => K (σ.put dst r))) rfl ?_)
 rw [z_look]
theorem y_mk0 {t : TypeId} {d : Tmp} : opA0 P gl ⟨some d, .makeMap t none, ty, pos, after, g⟩ σ K = mat (mapT P t) fun _ => K ((σ.newOb d (.mpo [])).put (some d) (.omp d)) := by
 simp only [opA0, mat]
 cases mapT P t <;> rfl
theorem y_mk {t : TypeId} {d : Tmp} : opA P gl ⟨some d, .makeMap t none, ty, pos, after, g⟩ σ K = inG (isXT P t) (SemOp P gl ⟨some d, .makeMap t none, ty, pos, after, g⟩ σ K) (mat (mapT P t) fun _ => K ((σ.newOb d (.mpo [])).put (some d) (.omp d))) := by
 rw [opA_X, y_mk0]; rfl
def updF (σ : S) (as : List A) (ob : Nat) (n : Int) (K : S → Prop) : Prop := match as with
 | [.d x] => mat (mpoOf (σ.mem ob)) fun kv => K (σ.setOb ob (.mpo (kvSet kv n x)))
 | _ => False
theorem uf_1 {x : D} {ob : Nat} {n : Int} : updF σ [.d x] ob n K = mat (mpoOf (σ.mem ob)) fun kv => K (σ.setOb ob (.mpo (kvSet kv n x))) := rfl
def updG (σ : S) (m k : R) (z : Option D) (v : R) (K : S → Prop) : Prop := match m, as64 k, z with
 | .omp ob, some n, some _ => S.rest σ [v] [] fun σ' as => updF σ' as ob n K
 | _, _, _ => False
theorem updG_congr {m m' k k' v v' : R} {z z' : Option D} {tk0 : Bool} (hT : tick = tk0) (h : m = m') (h1 : k = k') (h2 : z = z') (h3 : v = v') : updG σ m k z v K = updG σ m' k' z' v' K := by rw [h, h1, h2, h3]
theorem ug_o {ob : Nat} {n : Int} {z : D} {v : R} : updG σ (.omp ob) (.a (.d (.v (.int .i64 n)))) (some z) v K = S.rest σ [v] [] fun σ' as => updF σ' as ob n K := rfl
theorem upd_eq {t : TypeId} {m k v : Operand} : updK P gl σ t m k v K = updG σ (σ.eval gl m) (σ.eval gl k) (mapT P t) (σ.eval gl v) K := by
 simp only [updK, updG]
 generalize σ.eval gl m = m'
 generalize σ.eval gl k = k'
 rcases m' with _ | ((_ | _ | _ | _ | _) | _) | _ | _ | _ | _ | _ | _ | _ <;> try rfl
 rcases k' with _ | ((v' | _ | _ | _ | _) | _) | _ | _ | _ | _ | _ | _ | _ <;> try rfl
 cases v' <;> try rfl
 rename_i kk n; cases kk <;> try rfl
 cases mapT P t <;> try rfl
 simp only [as64]
 congr 1
 funext σ' as
 simp only [updF, mat, mpoOf]
 rcases as with _ | ⟨(_ | _), _ | ⟨_, _⟩⟩ <;> try rfl
 rcases σ'.mem _ with _ | (_ | _ | _) <;> rfl
theorem y_upd {t : TypeId} {m k v : Operand} : opA P gl ⟨dst, .mapUpdate t m k v, ty, pos, after, g⟩ σ K = inG (isXT P t) (SemOp P gl ⟨dst, .mapUpdate t m k v, ty, pos, after, g⟩ σ K) (updG σ (σ.eval gl m) (σ.eval gl k) (mapT P t) (σ.eval gl v) fun σ' => K (σ'.put dst .any)) := by
 rw [opA_X]; exact congrArg (inG (isXT P t) _) (upd_eq (K := fun σ' => K (σ'.put dst .any)))
theorem y_ins {t : TypeId} {m k v : Operand} : opA P gl ⟨dst, .insert t m k v, ty, pos, after, g⟩ σ K = inG (isXT P t) (SemOp P gl ⟨dst, .insert t m k v, ty, pos, after, g⟩ σ K) (updG σ (σ.eval gl m) (σ.eval gl k) (mapT P t) (σ.eval gl v) fun σ' => K (σ'.put dst .any)) := by
 rw [opA_X]; exact congrArg (inG (isXT P t) _) (upd_eq (K := fun σ' => K (σ'.put dst .any)))
theorem ks_nil {n : Int} {y : D} : kvSet [] n y = [(n, y)] := rfl
theorem ks_eq {n : Int} {x y : D} {kv : List (Int × D)} : kvSet ((n, x) :: kv) n y = (n, y) :: kv := by simp [kvSet]
theorem ks_ne {k n : Int} {x y : D} {kv : List (Int × D)} (h : (k == n) = false) : kvSet ((k, x) :: kv) n y = (k, x) :: kvSet kv n y := by
 have : k ≠ n := by simpa using h
 simp [kvSet, this]
theorem ed_omp {o : Nat} : endD σ (.omp o) = (mpoOf (σ.mem o)).map .mp := by
 simp only [endD, mpoOf]
 rcases σ.mem o with _ | (_ | _ | _) <;> rfl
theorem bn_n {d : Int} : bnd σ gl d none = some d := rfl
theorem bn_s {d : Int} {x : Operand} : bnd σ gl d (some x) = asInt (σ.eval gl x) := by
 simp only [bnd, asInt]
 rcases σ.eval gl x with _ | ((v | _ | _ | _ | _) | _) | _ | _ | _ | _ | _ | _ | _ <;> try rfl
theorem sk_n {xs : List (List D)} {sz : Nat} {l h : Int} : sliceK xs sz (some l) (some h) none KR = (0 ≤ l ∧ l ≤ h ∧ h ≤ xs.length ∧ (∀ c ∈ xs, c.length = sz) ∧ KR (.a (.d (.sl ((xs.take h.toNat).drop l.toNat))))) := rfl
theorem sk_s {xs : List (List D)} {sz : Nat} {l h m : Int} : sliceK xs sz (some l) (some h) (some (some m)) KR = (0 ≤ l ∧ l ≤ h ∧ h ≤ xs.length ∧ (∀ c ∈ xs, c.length = sz) ∧ m = h ∧ KR (.cs ((xs.take h.toNat).drop l.toNat))) := rfl
def rowD : R → Option (List (List D))
 | .a (.d (.sl xs)) => some xs
 | .cs xs => some xs
 | _ => none
theorem rd_sl {xs : List (List D)} : rowD (.a (.d (.sl xs))) = some xs := rfl
theorem rd_cs {xs : List (List D)} : rowD (.cs xs) = some xs := rfl
def slK (ti : Option TI) (xs : Option (List (List D))) (K : List (List D) → Nat → Prop) : Prop := match ti, xs with
 | some ti, some xs => K xs ti.sz
 | _, _ => False
theorem slK_congr {ti ti' : Option TI} {xs xs' : Option (List (List D))} {K : List (List D) → Nat → Prop} {tk0 : Bool} (hT : tick = tk0) (h : ti = ti') (k : xs = xs') : slK ti xs K = slK ti' xs' K := by rw [h, k]
theorem slk_s {sz bs : Nat} {ag : Bool} {z : List Value} {xs : List (List D)} {K : List (List D) → Nat → Prop} : slK (some ⟨sz, bs, ag, z⟩) (some xs) K = K xs sz := rfl
theorem tkSlice_eq {t : TypeId} : tkSlice P t = (tkElem P t).map (·.2) := by
 simp only [tkSlice, tkElem]
 cases tk P t <;> try rfl
 rename_i e; dsimp only; cases tinf P e <;> rfl
theorem z_slice {t : TypeId} {x : Operand} {l h m : Option Operand} : opQ P gl ⟨dst, .slice t x l h m, ty, pos, after, g⟩ σ KR = slK ((tkElem P t).map (·.2)) (rowD (σ.eval gl x)) fun xs sz => ((m.isSome = true → h.isSome = true) ∧ sliceK xs sz (bnd σ gl 0 l) (bnd σ gl xs.length h) (m.map fun y => bnd σ gl 0 (some y)) KR) := by
 rw [← tkSlice_eq]
 simp only [opQ, slK, tkSlice]
 cases tk P t <;> try rfl
 rename_i e
 dsimp only
 cases tinf P e <;> try rfl
 rcases σ.eval gl x with _ | ((v | _ | _ | _ | _) | _) | _ | _ | _ | _ | _ | _ | _ <;> rfl
theorem imp_n {h : Option Operand} : ((none : Option Operand).isSome = true → h.isSome = true) = True := by simp
theorem imp_s {m : Option Operand} {h : Operand} : (m.isSome = true → (some h).isSome = true) = True := by simp
def slA (σ : S) (ti : Option TI) (x : R) (dst : Option Tmp) (K : S → Prop) (body : List (List D) → Nat → (R → Prop) → Prop) : Prop := match ti, x with
 | some ti, .own ob => mat (logOf (σ.mem ob)) fun xs => decide (ob < 1000000000) = true ∧ body xs ti.sz fun r => K ((σ.frz ob fun _ => .sl xs).put dst r)
 | some ti, .a (.d (.sl xs)) => body xs ti.sz fun r => K (σ.put dst r)
 | some ti, .cs xs => body xs ti.sz fun r => K (σ.put dst r)
 | _, _ => False
theorem slA_congr {ti ti' : Option TI} {x x' : R} {body : List (List D) → Nat → (R → Prop) → Prop} {tk0 : Bool} (hT : tick = tk0) (h : ti = ti') (k : x = x') : slA σ ti x dst K body = slA σ ti' x' dst K body := by rw [h, k]
theorem sla_own {sz bs ob : Nat} {ag : Bool} {z : List Value} {body : List (List D) → Nat → (R → Prop) → Prop} : slA σ (some ⟨sz, bs, ag, z⟩) (.own ob) dst K body = mat (logOf (σ.mem ob)) fun xs => decide (ob < 1000000000) = true ∧ body xs sz fun r => K ((σ.frz ob fun _ => .sl xs).put dst r) := rfl
theorem sla_sl {sz bs : Nat} {ag : Bool} {z : List Value} {xs : List (List D)} {body : List (List D) → Nat → (R → Prop) → Prop} : slA σ (some ⟨sz, bs, ag, z⟩) (.a (.d (.sl xs))) dst K body = body xs sz fun r => K (σ.put dst r) := rfl
theorem sla_cs {sz bs : Nat} {ag : Bool} {z : List Value} {xs : List (List D)} {body : List (List D) → Nat → (R → Prop) → Prop} : slA σ (some ⟨sz, bs, ag, z⟩) (.cs xs) dst K body = body xs sz fun r => K (σ.put dst r) := rfl
theorem y_slice0 {t : TypeId} {x : Operand} {l h m : Option Operand} : opA0 P gl ⟨dst, .slice t x l h m, ty, pos, after, g⟩ σ K = slA σ ((tkElem P t).map (·.2)) (σ.eval gl x) dst K fun xs sz K' => ((m.isSome = true → h.isSome = true) ∧ sliceK xs sz (bnd σ gl 0 l) (bnd σ gl xs.length h) (m.map fun y => bnd σ gl 0 (some y)) K') := by
 rw [← tkSlice_eq]
 simp only [opA0, opQ, slA, tkSlice, mat, logOf]
 rcases σ.eval gl x with _ | ((v | _ | _ | _ | _) | _) | _ | _ | _ | ob | _ | _ | _
 case own =>
  dsimp only
  cases tk P t with
  | slice e =>
   dsimp only
   cases h3 : tinf P e <;> rcases h4 : σ.mem ob with _ | (_ | _ | _) <;> simp [h3, h4]
  | _ => rcases σ.mem ob with _ | (_ | _ | _) <;> rfl
 all_goals (cases tk P t <;> try rfl)
 all_goals (rename_i e; dsimp only; cases tinf P e <;> rfl)
theorem y_slice_n {t : TypeId} {x : Operand} {h m : Option Operand} : opA P gl ⟨dst, .slice t x none h m, ty, pos, after, g⟩ σ K = slA σ ((tkElem P t).map (·.2)) (σ.eval gl x) dst K fun xs sz K' => ((m.isSome = true → (h : Option Operand).isSome = true) ∧ sliceK xs sz (bnd σ gl 0 none) (bnd σ gl xs.length h) (m.map fun y => bnd σ gl 0 (some y)) K') := by
 rw [opA_X, y_slice0]; rfl
theorem y_slice_h {t : TypeId} {x : Operand} {l h : Operand} {m : Option Operand} : opA P gl ⟨dst, .slice t x (some l) (some h) m, ty, pos, after, g⟩ σ K = slA σ ((tkElem P t).map (·.2)) (σ.eval gl x) dst K fun xs sz K' => ((m.isSome = true → ((some h) : Option Operand).isSome = true) ∧ sliceK xs sz (bnd σ gl 0 (some l)) (bnd σ gl xs.length (some h)) (m.map fun y => bnd σ gl 0 (some y)) K') := by
 rw [opA_X, y_slice0]; rfl
theorem y_slice_l {t : TypeId} {x : Operand} {l : Operand} : opA P gl ⟨dst, .slice t x (some l) none none, ty, pos, after, g⟩ σ K = inG (pos == "slices.go:253") (SemOp P gl ⟨dst, .slice t x (some l) none none, ty, pos, after, g⟩ σ K) (slA σ ((tkElem P t).map (·.2)) (σ.eval gl x) dst K fun xs sz K' => (((none : Option Operand).isSome = true → (none : Option Operand).isSome = true) ∧ sliceK xs sz (bnd σ gl 0 (some l)) (bnd σ gl xs.length none) ((none : Option Operand).map fun y => bnd σ gl 0 (some y)) K')) := by
 rw [opA_X, y_slice0]; rfl
def appG (σ : S) (t : Option (TypeId × TI)) (x : R) (ys : Option (List (List D))) (d : Tmp) (K : S → Prop) : Prop := match t, ys with
 | some (e, ti), some ys => ti.z.length = ti.sz ∧ 0 < ti.sz ∧ 0 < ti.bs ∧ (∀ c ∈ ys, c.length = ti.sz) ∧ (match x with
   | .own o => match σ.mem o with
    | some (.log e' z xs) => e' = e ∧ z = ti.sz ∧ (xs.length + ys.length) * ti.bs ≤ 140737488355328 ∧
     K ((σ.newOb o (.log e z (xs ++ ys))).put (some d) (.own o))
    | _ => False
   | .cs xs => ys ≠ [] ∧ (∀ c ∈ xs, c.length = ti.sz) ∧ (xs.length + ys.length) * ti.bs ≤ 140737488355328 ∧ K ((σ.newOb d (.log e ti.sz (xs ++ ys))).put (some d) (.own d))
   | _ => False)
 | _, _ => False
theorem appG_congr {t t' : Option (TypeId × TI)} {x x' : R} {ys ys' : Option (List (List D))} {d : Tmp} {tk0 : Bool} (hT : tick = tk0) (h : t = t') (h1 : x = x') (h2 : ys = ys') : appG σ t x ys d K = appG σ t' x' ys' d K := by rw [h, h1, h2]
def logZ : Option Ob → Option (TypeId × Nat × List (List D))
 | some (.log e z xs) => some (e, z, xs)
 | _ => none
theorem lz_o {e : TypeId} {z : Nat} {xs : List (List D)} : logZ (some (.log e z xs)) = some (e, z, xs) := rfl
theorem ag_own {e : TypeId} {sz bs o : Nat} {ag : Bool} {z : List Value} {ys : List (List D)} {d : Tmp} : appG σ (some (e, ⟨sz, bs, ag, z⟩)) (.own o) (some ys) d K =
  (z.length = sz ∧ 0 < sz ∧ 0 < bs ∧ (∀ c ∈ ys, c.length = sz) ∧ mat (logZ (σ.mem o)) fun l => l.1 = e ∧ l.2.1 = sz ∧ (l.2.2.length + ys.length) * bs ≤ 140737488355328 ∧ K ((σ.newOb o (.log e l.2.1 (l.2.2 ++ ys))).put (some d) (.own o))) := by
 simp only [appG, mat, logZ]
 rcases σ.mem o with _ | (_ | _ | _) <;> rfl
theorem ag_cs {e : TypeId} {sz bs : Nat} {ag : Bool} {z : List Value} {xs ys : List (List D)} {d : Tmp} : appG σ (some (e, ⟨sz, bs, ag, z⟩)) (.cs xs) (some ys) d K =
  (z.length = sz ∧ 0 < sz ∧ 0 < bs ∧ (∀ c ∈ ys, c.length = sz) ∧ ys ≠ [] ∧ (∀ c ∈ xs, c.length = sz) ∧ (xs.length + ys.length) * bs ≤ 140737488355328 ∧ K ((σ.newOb d (.log e sz (xs ++ ys))).put (some d) (.own d))) := rfl
theorem rr_sl {xs : List (List D)} : rowsR σ (.a (.d (.sl xs))) = some xs := rfl
theorem rr_cs {xs : List (List D)} : rowsR σ (.cs xs) = some xs := rfl
theorem rr_own {o : Nat} : rowsR σ (.own o) = logOf (σ.mem o) := by
 simp only [rowsR, logOf]
 rcases σ.mem o with _ | (_ | _ | _) <;> rfl
theorem y_app0 {x y : Operand} {t u : TypeId} {d : Tmp} : opA0 P gl ⟨some d, .call ⟨.builtin .append, #[x, y], #[t, u]⟩, ty, pos, after, g⟩ σ K = (u = t ∧ appG σ (tkElem P t) (σ.eval gl x) (rowsR σ (σ.eval gl y)) d K) := by
 simp only [opA0, appK, appG, tkElem]
 congr 1
 cases tk P t <;> try rfl
 rename_i e
 dsimp only
 cases rowsR σ (σ.eval gl y) <;> cases h3 : tinf P e <;> simp only [h3] <;> rfl
theorem y_app {x y : Operand} {t : TypeId} {d : Tmp} : opA P gl ⟨some d, .call ⟨.builtin .append, #[x, y], #[t, t]⟩, ty, pos, after, g⟩ σ K = inG (isXT P t) (SemOp P gl ⟨some d, .call ⟨.builtin .append, #[x, y], #[t, t]⟩, ty, pos, after, g⟩ σ K) (appG σ (tkElem P t) (σ.eval gl x) (rowsR σ (σ.eval gl y)) d K) := by
 rw [opA_X, y_app0]; simp only [isX, bne_self_eq_false, Bool.false_or, true_and]
theorem y_appx {x y : Operand} {t u : TypeId} {d : Tmp} (h : (u == t) = false) : opA P gl ⟨some d, .call ⟨.builtin .append, #[x, y], #[t, u]⟩, ty, pos, after, g⟩ σ K = SemOp P gl ⟨some d, .call ⟨.builtin .append, #[x, y], #[t, u]⟩, ty, pos, after, g⟩ σ K := by
 rw [opA_X]; simp only [isX, bne, h, Bool.not_false, Bool.true_or]; rfl
def rowG (σ : S) (gl : Nat → Option (List D)) (r : R) (i : Nat) (rest : List (Nat × Operand)) (acc : List (Nat × A)) (K : S → List (Nat × A) → Prop) : Prop := S.rest σ [r] [] fun σ' as => match as with
 | [y] => rowK σ' gl rest ((i, y) :: acc) K
 | _ => False
theorem rowG_congr {r r' : R} {i : Nat} {rest : List (Nat × Operand)} {acc : List (Nat × A)} {K : S → List (Nat × A) → Prop} {tk0 : Bool} (hT : tick = tk0) (h : r = r') : rowG σ gl r i rest acc K = rowG σ gl r' i rest acc K := by rw [h]
theorem rk_nil {acc : List (Nat × A)} {K : S → List (Nat × A) → Prop} : rowK σ gl [] acc K = K σ acc.reverse := rfl
theorem rk_cons {i : Nat} {x : Operand} {rest : List (Nat × Operand)} {acc : List (Nat × A)} {K : S → List (Nat × A) → Prop} : rowK σ gl ((i, x) :: rest) acc K = rowG σ gl (σ.eval gl x) i rest acc K := by
 simp only [rowK, rowG, S.rest]
 cases argA σ (σ.eval gl x) <;> rfl
theorem rg_a {y : A} {i : Nat} {rest : List (Nat × Operand)} {acc : List (Nat × A)} {K : S → List (Nat × A) → Prop} : rowG σ gl (.a y) i rest acc K = rowK σ gl rest ((i, y) :: acc) K := by
 simp [rowG, rs_a, rs_nil]
theorem rg_cs {xs : List (List D)} {i : Nat} {rest : List (Nat × Operand)} {acc : List (Nat × A)} {K : S → List (Nat × A) → Prop} : rowG σ gl (.cs xs) i rest acc K = rowK σ gl rest ((i, .d (.sl xs)) :: acc) K := by
 simp [rowG, rs_cs, rs_nil]
theorem rg_own {o : Nat} {i : Nat} {rest : List (Nat × Operand)} {acc : List (Nat × A)} {K : S → List (Nat × A) → Prop} : rowG σ gl (.own o) i rest acc K = mat (logOf (σ.mem o)) fun xs => (decide (o < 1000000000) = true ∧ rowK (σ.frz o fun _ => .sl xs) gl rest ((i, .d (.sl xs)) :: acc) K) := by
 simp [rowG, rs_own, rs_nil]
def buildG (ti : Option TI) (offs : Option (List (Nat × Nat × Bool))) (ps : List (Nat × A)) (K : R → Prop) : Prop := match ti, offs with
 | some ti, some offs => ti.z.all Value.oneCell' = true ∧ (offs.all fun x => x.2.1 != 0) = true ∧ mat (fillD (fun i => (offs[i]?).map fun x => (x.1, x.2.1)) (ti.z.map cellD) ps) fun ds => K (.a (.ag ds))
 | _, _ => False
theorem buildG_congr {ti ti' : Option TI} {offs offs' : Option (List (Nat × Nat × Bool))} {ps : List (Nat × A)} {tk0 : Bool} (hT : tick = tk0) (h : ti = ti') (h1 : offs = offs') : buildG ti offs ps KR = buildG ti' offs' ps KR := by rw [h, h1]
theorem bg_s {sz bs : Nat} {ag : Bool} {z : List Value} {offs : List (Nat × Nat × Bool)} {ps : List (Nat × A)} : buildG (some ⟨sz, bs, ag, z⟩) (some offs) ps KR = (z.all Value.oneCell' = true ∧ (offs.all fun x => x.2.1 != 0) = true ∧ mat (fillD (fun i => (offs[i]?).map fun x => (x.1, x.2.1)) (z.map cellD) ps) fun ds => KR (.a (.ag ds))) := rfl
def rowQ (σ : S) (gl : Nat → Option (List D)) : List (Nat × Operand) → List (Nat × A) → (List (Nat × A) → Prop) → Prop
 | [], acc, K => K acc.reverse
 | (i, x) :: rest, acc, K => mat (dataA (σ.eval gl x)) fun y => rowQ σ gl rest ((i, y) :: acc) K
theorem rq_nil {acc : List (Nat × A)} {K : List (Nat × A) → Prop} : rowQ σ gl [] acc K = K acc.reverse := rfl
theorem rq_cons {i : Nat} {x : Operand} {rest : List (Nat × Operand)} {acc : List (Nat × A)} {K : List (Nat × A) → Prop} : rowQ σ gl ((i, x) :: rest) acc K = mat (dataA (σ.eval gl x)) fun y => rowQ σ gl rest ((i, y) :: acc) K := rfl
theorem dt_a {x : A} : dataA (.a x) = some x := rfl
theorem dt_cs {xs : List (List D)} : dataA (.cs xs) = some (.d (.sl xs)) := rfl
theorem rowQ_eq (K : List (Nat × A) → Prop) : ∀ (l : List (Nat × Operand)) (acc : List (Nat × A)), rowQ σ gl l acc K = mat (partsD σ gl l) fun ps => K (acc.reverse ++ ps)
 | [], acc => by simp [rowQ, partsD, mat]
 | (i, x) :: rest, acc => by
  simp only [rowQ, partsD]
  cases dataA (σ.eval gl x) with
  | none => rfl
  | some y =>
   simp only [mat]
   rw [rowQ_eq K rest]
   cases partsD σ gl rest with
   | none => rfl
   | some ps => simp [mat]
theorem z_build {t : TypeId} {l : List (Nat × Operand)} : opQ P gl ⟨dst, .build t l.toArray, ty, pos, after, g⟩ σ KR = rowQ σ gl l [] fun ps => buildG (tinf P t) (tkStruct P t) ps KR := by
 rw [rowQ_eq]
 simp only [opQ, mat]
 cases partsD σ gl l with
 | none => rfl
 | some ps =>
  simp only [Option.bind_some, List.reverse_nil, List.nil_append, buildD, buildG, tkStruct, mat]
  cases tinf P t <;> try rfl
  cases tk P t <;> try rfl
  dsimp only
  rename_i ti offs
  by_cases h1 : ti.z.all Value.oneCell' = true
  ·by_cases h2 : (offs.all fun x => x.2.1 != 0) = true
   ·rw [if_pos ⟨h1, h2⟩]
    simp only [h1, h2, true_and]
    split <;> simp_all
   ·rw [if_neg fun h => h2 h.2]
    simp [h2]
  ·rw [if_neg fun h => h1 h.1]
   simp [h1]
theorem z_bs0 {t : TypeId} : opQ P gl ⟨dst, .buildSlice t 0 #[], ty, pos, after, g⟩ σ KR = mat (tkElem P t) fun _ => KR (.a (.d (.sl []))) := by
 simp only [opQ, mat, tkElem, true_and, if_true]
 cases tk P t <;> try rfl
 rename_i e; cases h : tinf P e <;> simp [h]
theorem y_build0 {t : TypeId} {l : List (Nat × Operand)} : opA0 P gl ⟨dst, .build t l.toArray, ty, pos, after, g⟩ σ K = rowK σ gl l [] fun σ' ps => buildG (tinf P t) (tkStruct P t) ps fun r => K (σ'.put dst r) := by
 simp only [opA0]
 congr 1
 funext σ' ps
 simp only [buildG, tkStruct, mat]
 cases tinf P t <;> try rfl
 cases tk P t <;> try rfl
 dsimp only
 congr 2
 split <;> simp_all
theorem y_build {t : TypeId} {l : List (Nat × Operand)} : opA P gl ⟨dst, .build t l.toArray, ty, pos, after, g⟩ σ K = inG (isXB P t) (SemOp P gl ⟨dst, .build t l.toArray, ty, pos, after, g⟩ σ K) (rowK σ gl l [] fun σ' ps => buildG (tinf P t) (tkStruct P t) ps fun r => K (σ'.put dst r)) := by
 rw [opA_X, y_build0]; rfl
theorem fd_nil {place : Nat → Option (Nat × Nat)} {cells : List D} : fillD place cells [] = some cells := rfl
theorem fd_one {place : Nat → Option (Nat × Nat)} {cells : List D} {i : Nat} {x : D} {rest : List (Nat × A)} : fillD place cells ((i, .d x) :: rest) = (place i).bind fun p => cond (decide (1 = p.2) && decide (p.1 + p.2 ≤ cells.length)) (fillD place (cells.set p.1 x) rest) none := by
 conv => lhs; unfold fillD
 cases place i with
 | none => rfl
 | some p =>
  obtain ⟨off, sz⟩ := p
  simp only [Option.bind_some]
  split
  ·rename_i h
   have h1 : 1 = sz := h.1
   simp [← h1, A.cells] at h ⊢
   simp [h]
  ·rename_i h
   have h' : ¬ (1 = sz ∧ off + sz ≤ cells.length) := h
   cases h1 : decide (1 = sz) <;> cases h2 : decide (off + sz ≤ cells.length) <;> try rfl
   exact absurd ⟨of_decide_eq_true h1, of_decide_eq_true h2⟩ h'
theorem fd_ag {place : Nat → Option (Nat × Nat)} {cells : List D} {i : Nat} {x y : D} {xs : List D} {rest : List (Nat × A)} : fillD place cells ((i, .ag (x :: y :: xs)) :: rest) = (place i).bind fun p => cond (decide ((x :: y :: xs).length = p.2) && decide (p.1 + p.2 ≤ cells.length)) (fillD place (cells.take p.1 ++ (x :: y :: xs) ++ cells.drop (p.1 + p.2)) rest) none := by
 conv => lhs; unfold fillD
 cases place i with
 | none => rfl
 | some p =>
  obtain ⟨off, sz⟩ := p
  simp only [Option.bind_some]
  split
  ·rename_i h
   have h1 : decide ((x :: y :: xs).length = sz) = true := decide_eq_true h.1
   have h2 : decide (off + sz ≤ cells.length) = true := decide_eq_true h.2
   rw [h1, h2]; rfl
  ·rename_i h
   cases h1 : decide ((x :: y :: xs).length = sz) <;> cases h2 : decide (off + sz ≤ cells.length) <;> try rfl
   exact absurd ⟨of_decide_eq_true h1, of_decide_eq_true h2⟩ h
def bslG (σ : S) (t : Option (TypeId × TI)) (len : Nat) (ps : List (Nat × A)) (d : Tmp) (K : S → Prop) : Prop := match t with
  | some (e, ti) => ti.z.all Value.oneCell' = true ∧ 0 < ti.sz ∧ ti.z.length = ti.sz ∧ len * ti.sz ≤ 2 ^ 24 ∧ len ≠ 0 ∧
        mat (fillD (fun i => some (i * ti.sz, ti.sz)) (List.replicate len (ti.z.map cellD)).flatten ps) fun ds => K ((σ.newOb d (.log e ti.sz ((List.range len).map fun i => (ds.drop (i * ti.sz)).take ti.sz))).put (some d) (.own d))
  | none => False
theorem bslG_congr {t t' : Option (TypeId × TI)} {len : Nat} {ps : List (Nat × A)} {d : Tmp} {tk0 : Bool} (hT : tick = tk0) (h : t = t') : bslG σ t len ps d K = bslG σ t' len ps d K := by rw [h]
theorem bs_s {e : TypeId} {sz bs : Nat} {ag : Bool} {z : List Value} {len : Nat} {ps : List (Nat × A)} {d : Tmp} : bslG σ (some (e, ⟨sz, bs, ag, z⟩)) len ps d K = (z.all Value.oneCell' = true ∧ 0 < sz ∧ z.length = sz ∧ len * sz ≤ 2 ^ 24 ∧ len ≠ 0 ∧
        mat (fillD (fun i => some (i * sz, sz)) (List.replicate len (z.map cellD)).flatten ps) fun ds => K ((σ.newOb d (.log e sz ((List.range len).map fun i => (ds.drop (i * sz)).take sz))).put (some d) (.own d))) := rfl
theorem y_bs00 {t : TypeId} {d : Tmp} : opA0 P gl ⟨some d, .buildSlice t 0 #[], ty, pos, after, g⟩ σ K = mat (tkElem P t) fun e => K ((σ.newOb d (.log e.1 e.2.sz [])).put (some d) (.own d)) := by
 simp only [opA0, mat, tkElem, if_true, true_and]
 cases tk P t <;> try rfl
 rename_i e; cases h : tinf P e <;> simp [h]
theorem y_bs0 {t : TypeId} {d : Tmp} : opA P gl ⟨some d, .buildSlice t 0 #[], ty, pos, after, g⟩ σ K = inG (isXT P t) (SemOp P gl ⟨some d, .buildSlice t 0 #[], ty, pos, after, g⟩ σ K) (mat (tkElem P t) fun e => K ((σ.newOb d (.log e.1 e.2.sz [])).put (some d) (.own d))) := by
 rw [opA_X, y_bs00]
 have : isX P ⟨some d, .buildSlice t 0 #[], ty, pos, after, g⟩ = isXT P t := by
  show (isXT P t || ((0 == 5) && pos == "law.go:19")) = _
  cases isXT P t <;> rfl
 rw [this]
theorem y_bsl0 {t : TypeId} {len : Nat} {l : List (Nat × Operand)} {d : Tmp} (hlen : (len == 0) = false) : opA0 P gl ⟨some d, .buildSlice t len l.toArray, ty, pos, after, g⟩ σ K = rowK σ gl l [] fun σ' ps => bslG σ' (tkElem P t) len ps d K := by
 have hlen : len ≠ 0 := by simpa using hlen
 simp only [opA0, if_neg hlen]
 congr 1
 funext σ' ps
 simp only [bslG, tkElem, mat]
 cases tk P t <;> try rfl
 rename_i e
 dsimp only
 cases tinf P e <;> try rfl
 dsimp only [Option.map]
 congr 5
 split <;> simp_all
theorem y_bsl {t : TypeId} {len : Nat} {l : List (Nat × Operand)} {d : Tmp} (hlen : (len == 0) = false) (h5 : (len == 5) = false) : opA P gl ⟨some d, .buildSlice t len l.toArray, ty, pos, after, g⟩ σ K = inG (isXT P t) (SemOp P gl ⟨some d, .buildSlice t len l.toArray, ty, pos, after, g⟩ σ K) (rowK σ gl l [] fun σ' ps => bslG σ' (tkElem P t) len ps d K) := by
 rw [opA_X, y_bsl0 hlen]
 have : isX P ⟨some d, .buildSlice t len l.toArray, ty, pos, after, g⟩ = isXT P t := by
  show (isXT P t || ((len == 5) && pos == "law.go:19")) = _
  rw [h5]; cases isXT P t <;> rfl
 rw [this]
theorem y_bsl5 {t : TypeId} {l : List (Nat × Operand)} {d : Tmp} : opA P gl ⟨some d, .buildSlice t 5 l.toArray, ty, pos, after, g⟩ σ K = inG (pos == "law.go:19") (SemOp P gl ⟨some d, .buildSlice t 5 l.toArray, ty, pos, after, g⟩ σ K) (inG (isXT P t) (SemOp P gl ⟨some d, .buildSlice t 5 l.toArray, ty, pos, after, g⟩ σ K) (rowK σ gl l [] fun σ' ps => bslG σ' (tkElem P t) 5 ps d K)) := by
 rw [opA_X, y_bsl0 rfl]
 have : isX P ⟨some d, .buildSlice t 5 l.toArray, ty, pos, after, g⟩ = (isXT P t || (pos == "law.go:19")) := rfl
 rw [this]
 cases isXT P t <;> cases (pos == "law.go:19") <;> rfl
def mkfK (as : List A) (f : FuncId) (K : R → Prop) : Prop := mat (allDA as) fun ds => K (.a (.d (.fn f ds)))
theorem da_nil : allDA [] = some [] := rfl
theorem da_c {x : D} {as : List A} : allDA (.d x :: as) = (allDA as).map (x :: ·) := rfl
theorem y_mkf0 {f : FuncId} {l : List Operand} : opA0 P gl ⟨dst, .makeFunc (.func f) #[] l.toArray, ty, pos, after, g⟩ σ K = S.rest σ (evs gl σ l) [] fun σ' as => mkfK as f fun r => K (σ'.put dst r) := by
 simp only [opA0, evs_map]
 congr 1
 funext σ' as
 simp only [mkfK, mat]
 cases allDA as <;> rfl
theorem y_mkf {f : FuncId} {l : List Operand} : opA P gl ⟨dst, .makeFunc (.func f) #[] l.toArray, ty, pos, after, g⟩ σ K = inG (pos == "law.go:47" || pos == "law.go:50" || pos == "graph.go:120" || pos == "text.go:142" || pos == "word.go:21" || pos == "report.go:73") (SemOp P gl ⟨dst, .makeFunc (.func f) #[] l.toArray, ty, pos, after, g⟩ σ K) (S.rest σ (evs gl σ l) [] fun σ' as => mkfK as f fun r => K (σ'.put dst r)) := by
 rw [opA_X, y_mkf0]; rfl
theorem mk_go {as : List A} {f : FuncId} : mkfK as f KR = mat (allDA as) fun ds => KR (.a (.d (.fn f ds))) := rfl
attribute [congr] rest_congr updG_congr slK_congr slA_congr appG_congr rowG_congr buildG_congr bslG_congr
end
def PR :=
 And.intro (@w_skip) <| And.intro (@w_label) <| And.intro (@w_exit) <| And.intro (@w_ret) <| And.intro (@w_seq) <| And.intro (@w_cond) <| And.intro (@w_block) <| And.intro (@w_scope) <| And.intro (@w_region) <| And.intro (@w_draw) <| And.intro (@e_then_n) <| And.intro (@e_then_e) <| And.intro (@e_then_r) <| And.intro (@e_blk_n) <| And.intro (@e_blk_r) <| And.intro (@e_blk_same) <| And.intro (@e_blk_ne) <| And.intro (@r_put_eq) <| And.intro (@r_put_ne) <| And.intro (@r_put_none) <| And.intro (@m_put) <| And.intro (@r_new) <| And.intro (@m_new_eq) <| And.intro (@m_new_ne) <| And.intro (@r_set) <| And.intro (@m_set_eq) <| And.intro (@m_set_ne) <| And.intro (@r_frz) <| And.intro (@m_frz_ne) <| And.intro (@m_frz_eq) <| And.intro (@r_init) <| And.intro (@m_init) <| And.intro (@r_init_0) <| And.intro (@r_init_s) <| And.intro (@r_of_eq) <| And.intro (@r_of_ne) <| And.intro (@m_of_eq) <| And.intro (@m_of_ne) <| And.intro (@v_tmp) <| And.intro (@v_int) <| And.intro (@v_bool) <| And.intro (@v_str) <| And.intro (@v_nil) <| And.intro (@v_func) <| And.intro (@y_move) <| And.intro (@y_assign_t) <| And.intro (@y_assign_i) <| And.intro (@y_assign_b) <| And.intro (@y_assign_s) <| And.intro (@y_assign_m) <| And.intro (@y_assign_p) <| And.intro (@v_map) <| And.intro (@v_ptr) <| And.intro (@y_assign_n) <| And.intro (@y_pick) <| And.intro (@y_load) <| And.intro (@y_store) <| And.intro (@y_alloc) <| And.intro (@y_box) <| And.intro (@y_field) <| And.intro (@y_index) <| And.intro (@y_bin_t) <| And.intro (@y_bin_i) <| And.intro (@y_bin_b) <| And.intro (@y_bin_s) <| And.intro (@y_bin_ns) <| And.intro (@y_bin_np) <| And.intro (@y_bin_nm) <| And.intro (@y_bin_nf) <| And.intro (@y_bin_ni) <| And.intro (@y_un) <| And.intro (@y_conv) <| And.intro (@y_ext) <| And.intro (@y_len) <| And.intro (@y_min) <| And.intro (@y_max) <| And.intro (@y_nil) <| And.intro (@z_call) <| And.intro (@z_field) <| And.intro (@z_index) <| And.intro (@z_bin) <| And.intro (@z_un) <| And.intro (@z_conv) <| And.intro (@z_ext) <| And.intro (@z_len) <| And.intro (@z_min) <| And.intro (@z_max) <| And.intro (@z_nil) <| And.intro (@z_callQ) <| And.intro (@z_move) <| And.intro (@z_assign) <| And.intro (@z_pick) <| And.intro (@z_load) <| And.intro (@z_look) <| And.intro (@y_look) <| And.intro (@y_mk) <| And.intro (@y_upd) <| And.intro (@y_ins) <| And.intro (@z_slice) <| And.intro (@z_build) <| And.intro (@z_bs0) <| And.intro (@rq_nil) <| And.intro (@rq_cons) <| And.intro (@dt_a) <| And.intro (@dt_cs) <| And.intro (@y_slice_n) <| And.intro (@y_slice_h) <| And.intro (@y_slice_l) <| And.intro (@y_app) <| And.intro (@y_appx) <| And.intro (@y_build) <| And.intro (@y_bs0) <| And.intro (@y_bsl) <| And.intro (@y_bsl5) <| And.intro (@y_mkf) <| And.intro (@rk_nil) <| And.intro (@rk_cons) <| And.intro (@qt_move) <| And.intro (@qt_asg_t) <| And.intro (@qt_asg_i) <| And.intro (@qt_asg_b) <| And.intro (@qt_pick) <| And.intro (@qt_load) <| And.intro (@qt_fld) <| And.intro (@qt_idx) <| And.intro (@qt_nil) <| And.intro (@qt_bin) <| And.intro (@qt_un) <| And.intro (@qt_cv) <| And.intro (@qt_sidx) <| And.intro (@qt_ext) <| And.intro (@qt_sli) <| And.intro (@qt_lk) <| And.intro (@qt_len) <| And.intro (@qt_min) <| And.intro (@qt_max) <| And.intro (@qt_cal) <| And.intro (@qt_app) <| And.intro (@qt_sto) <| And.intro (@qt_alc) <| And.intro (@qt_box) <| And.intro (@qt_bld) <| And.intro (@qt_bsl) <| And.intro (@qt_mkm) <| And.intro (@qt_mku) <| And.intro (@qt_ins) <| And.intro (@y_range) <| And.intro (@y_next) <| And.intro (@y_entry) <| And.intro (@qt_rng) <| And.intro (@qt_nxt) <| And.intro (@qt_ent) <| And.intro (@l_nil) <| And.intro (@l_cons) <| And.intro (@l_guard) <| And.intro (@d_nil) <| And.intro (@d_cons) <| And.intro (@d_guard) <| And.intro (@in_D) <| And.intro (@p_ret) <| @p_normal
attribute [go_sem ↓] PR
def PO :=
 And.intro (@tick_eq) <| And.intro (@rg1) <| And.intro (@rg2) <| And.intro (@rg3) <| And.intro (@rg4) <| And.intro (@rg5) <| And.intro (@rp1) <| And.intro (@rp2) <| And.intro (@rp3) <| And.intro (@rp4) <| And.intro (@rp5) <| And.intro (@fl_nil) <| And.intro (@fl_cons) <| And.intro (@all_nil) <| And.intro (@all_cons) <| And.intro (@oa_nil) <| And.intro (@oa_cons) <| And.intro (@oc_i) <| And.intro (@oc_b) <| And.intro (@oc_s) <| And.intro (@oc_l) <| And.intro (@oc_m) <| And.intro (@oc_p) <| And.intro (@cd_i) <| And.intro (@cd_b) <| And.intro (@cd_s) <| And.intro (@cd_l) <| And.intro (@cd_m) <| And.intro (@cd_p) <| And.intro (@fa_nil) <| And.intro (@fa_cons) <| And.intro (@and_tt) <| And.intro (@rt_1) <| And.intro (@rt_2) <| And.intro (@kv_mp) <| And.intro (@it_o) <| And.intro (@eg_ref) <| And.intro (@ok_iter) <| And.intro (@of_iter) <| And.intro (@zR_eq) <| And.intro (@zl_nil) <| And.intro (@zl_i) <| And.intro (@zl_b) <| And.intro (@zl_s) <| And.intro (@zl_sl) <| And.intro (@zl_m) <| And.intro (@zl_p) <| And.intro (@spl_2) <| And.intro (@spl_1) <| And.intro (@mp_o) <| And.intro (@bx_o) <| And.intro (@rs_nil) <| And.intro (@rs_a) <| And.intro (@rs_cs) <| And.intro (@rs_own) <| And.intro (@rs_omp) <| And.intro (@rs_ref) <| And.intro (@mo_d) <| And.intro (@mo_o) <| And.intro (@lg_t) <| And.intro (@lg_f) <| And.intro (@a64) <| And.intro (@uf_1) <| And.intro (@ug_o) <| And.intro (@ks_nil) <| And.intro (@ks_eq) <| And.intro (@ks_ne) <| And.intro (@ed_omp) <| And.intro (@bn_n) <| And.intro (@bn_s) <| And.intro (@sk_n) <| And.intro (@sk_s) <| And.intro (@rd_sl) <| And.intro (@rd_cs) <| And.intro (@slk_s) <| And.intro (@imp_n) <| And.intro (@imp_s) <| And.intro (@sla_own) <| And.intro (@sla_sl) <| And.intro (@sla_cs) <| And.intro (@lz_o) <| And.intro (@ag_own) <| And.intro (@ag_cs) <| And.intro (@rr_sl) <| And.intro (@rr_cs) <| And.intro (@rr_own) <| And.intro (@rg_a) <| And.intro (@rg_cs) <| And.intro (@rg_own) <| And.intro (@bg_s) <| And.intro (@fd_nil) <| And.intro (@fd_one) <| And.intro (@fd_ag) <| And.intro (@bs_s) <| And.intro (@da_nil) <| And.intro (@da_c) <| And.intro (@mk_go) <| And.intro (@fc_go) <| And.intro (@mat_some) <| And.intro (@mat_none) <| And.intro (@condK_bool) <| And.intro (@spK_true) <| And.intro (@spK_false) <| And.intro (@ix_go) <| And.intro (@brK_true) <| And.intro (@brK_false) <| And.intro (@k_a) <| And.intro (@k_any) <| And.intro (@k_cs) <| And.intro (@k_ref_ne) <| And.intro (@k_ref_eq) <| And.intro (@k_eref_ne) <| And.intro (@k_eref_eq) <| And.intro (@k_own_ne) <| And.intro (@k_own_eq) <| And.intro (@k_omp_ne) <| And.intro (@k_omp_eq) <| And.intro (@ok_box) <| And.intro (@ok_log) <| And.intro (@ok_mpo) <| And.intro (@f_a) <| And.intro (@f_any) <| And.intro (@f_cs) <| And.intro (@f_own_eq) <| And.intro (@f_own_ne) <| And.intro (@f_omp_eq) <| And.intro (@f_omp_ne) <| And.intro (@f_ref_eq) <| And.intro (@f_ref_ne) <| And.intro (@f_eref_eq) <| And.intro (@f_eref_ne) <| And.intro (@of_box) <| And.intro (@of_log) <| And.intro (@of_mpo) <| And.intro (@fg_ref) <| And.intro (@fg_pt) <| And.intro (@fg_eref) <| And.intro (@ai_int) <| And.intro (@ig_sl) <| And.intro (@ig_cs) <| And.intro (@ig_own) <| And.intro (@lo_log) <| And.intro (@ig_aref) <| And.intro (@ig_apt) <| And.intro (@b_add) <| And.intro (@b_sub) <| And.intro (@b_mul) <| And.intro (@b_quo) <| And.intro (@b_rem) <| And.intro (@b_eql) <| And.intro (@b_neq) <| And.intro (@b_lss) <| And.intro (@b_leq) <| And.intro (@b_gtr) <| And.intro (@b_geq) <| And.intro (@b_shl) <| And.intro (@b_shr) <| And.intro (@b_and) <| And.intro (@b_or) <| And.intro (@b_xor) <| And.intro (@b_andn) <| And.intro (@b_beq) <| And.intro (@b_bne) <| And.intro (@b_seq) <| And.intro (@b_sne) <| And.intro (@b_age) <| And.intro (@b_agn) <| And.intro (@ag_go) <| And.intro (@ai_nil) <| And.intro (@ai_cons) <| And.intro (@z_sidx) <| And.intro (@y_sidx) <| And.intro (@sg_go) <| And.intro (@u_not) <| And.intro (@u_neg) <| And.intro (@c_int) <| And.intro (@x_tp) <| And.intro (@lh_sl) <| And.intro (@lh_str) <| And.intro (@lr_sl) <| And.intro (@lr_cs) <| And.intro (@lr_str) <| And.intro (@lr_own) <| And.intro (@mg_min) <| And.intro (@mg_max) <| And.intro (@evs_nil) <| And.intro (@evs_cons) <| And.intro (@fn_f) <| And.intro (@cr_nil) <| And.intro (@cr_cons) <| And.intro (@cf_some) <| And.intro (@cf_clo) <| And.intro (@cf_sem) <| And.intro (@cf_v) <| And.intro (@rf_nil) <| And.intro (@rf_cons) <| And.intro (@cf_someQ) <| And.intro (@gd_t) <| And.intro (@gd_f) <| And.intro (@br_b) <| And.intro (@br_n) <| And.intro (@gd_n) <| And.intro (@k_tp) <| And.intro (@f_tp) <| And.intro (@sy_a) <| And.intro (@sy_cs) <| And.intro (@an_nil) <| And.intro (@an_cons) <| And.intro (@or_ff) <| And.intro (@ra_some) <| And.intro (@da_0) <| And.intro (@da_s) <| And.intro (@in_t) <| And.intro (@in_f) <| And.intro (@dst_mk) <| And.intro (@ld_ref) <| And.intro (@ld_pt) <| And.intro (@ld_eref) <| And.intro (@lb_one) <| And.intro (@lb_ag) <| And.intro (@lp_one) <| And.intro (@lp_ag) <| And.intro (@le_one) <| And.intro (@le_ag) <| And.intro (@ad_nil) <| And.intro (@ad_cons) <| And.intro (@cl_ag) <| And.intro (@cl_d) <| And.intro (@cl_cs) <| And.intro (@cl_own) <| And.intro (@cl_ref) <| And.intro (@cl_omp) <| And.intro (@cl_agr) <| And.intro (@k_agr) <| And.intro (@st_ref) <| And.intro (@sb_one) <| And.intro (@sb_ag) <| And.intro (@hr_nil) <| And.intro (@hr_cons) <| And.intro (@hm_nil) <| And.intro (@hm_cons) <| And.intro (@t_a) <| And.intro (@t_c) <| And.intro (@t_f) <| And.intro (@t_aa) <| And.intro (@t_aaa) <| And.intro (@al_a) <| And.intro (@al_c) <| And.intro (@al_f) <| And.intro (@al_aa) <| And.intro (@al_aaa) <| And.intro (@er_nil) <| And.intro (@er_cons) <| And.intro (@rv_t) <| And.intro (@rv_c) <| And.intro (@en_d) <| And.intro (@en_ag) <| And.intro (@en_c) <| And.intro (@en_f) <| And.intro (@ed_a) <| And.intro (@ed_c) <| @ed_own
attribute [go_sem] PO
def PC :=
 And.intro (@List.getElem?_cons_zero.{0}) <| And.intro (@List.getElem?_cons_succ.{0}) <| And.intro (@List.getElem?_nil.{0}) <| And.intro (@List.drop_zero.{0}) <| And.intro (@List.drop_succ_cons.{0}) <| And.intro (@List.drop_nil.{0}) <| And.intro (@List.take_zero.{0}) <| And.intro (@List.take_succ_cons.{0}) <| And.intro (@List.take_nil.{0}) <| And.intro (@List.set_cons_zero.{0}) <| And.intro (@List.set_cons_succ.{0}) <| And.intro (@List.length_cons.{0}) <| And.intro (@List.length_nil.{0}) <| And.intro (@List.append_nil.{0}) <| And.intro (@List.nil_append.{0}) <| And.intro (@List.cons_append.{0}) <| And.intro (@Option.some.injEq.{0}) <| And.intro (@List.map_cons.{0, 0}) <| And.intro (@List.map_nil.{0, 0}) <| And.intro (@Option.map_some.{0, 0}) <| And.intro (@Option.map_none.{0, 0}) <| And.intro (@Option.bind_some.{0, 0}) <| And.intro (@Option.bind_none.{0, 0}) <| And.intro (@List.getElem?_map.{0, 0}) <| And.intro (@cond_true.{1}) <| And.intro (@cond_false.{1}) <| And.intro (@Bool.not_true) <| And.intro (@Bool.not_false) <| And.intro (@true_and) <| And.intro (@and_true) <| And.intro (@Int.natCast_nonneg) <| And.intro (@decide_true) <| And.intro (@decide_false) <| And.intro (@R.a.injEq) <| And.intro (@A.d.injEq) <| And.intro (@D.v.injEq) <| And.intro (@Value.int.injEq) <| And.intro (@Value.bool.injEq) <| @D.sl.injEq
attribute [go_sem] PC List.range_zero
end Go.VC
end
