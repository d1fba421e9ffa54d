/- Rows and maps of pointers to objects, structs whose parts are rows: told by what the operations do. -/
import Derived.Test.YtjmbgnncokeliaaDoorVF
set_option maxRecDepth 100000
set_option linter.unusedSimpArgs false
set_option linter.unusedVariables false
set_option linter.defProp false
namespace Go.VC
open Go.RowKit Go.Proofs
/-! ### States told otherwise -/
section
variable {c : Cx} {σ : S} {β : Nat → Value} {a : Act} {w : World}
theorem stF_setOb {o : Nat} {x y : Ob} (hm : σ.mem o = some y) {b : Nat} (h : stF c σ β w b) : stF c (σ.setOb o x) β w b := ⟨h.1, h.2.1, fun o' z hz => by
  by_cases e : o' = o
  · subst e; exact h.2.2.1 o' _ hm
  · simp only [S.setOb, upd, if_neg e] at hz; exact h.2.2.1 o' z hz, h.2.2.2⟩
/-- An object is told otherwise. -/
theorem Sim.tell (h : Sim c σ β a w) {o : Nat} {x y : Ob} (hm : σ.mem o = some y) (hx : ∀ st, (∀ b, stF c σ β w b → st b) → ObRel β st w (β o) x) : Sim c (σ.setOb o x) β a w :=
  h.setOb hm (Keep.refl _ _) (hx _ fun b hb => stF_setOb hm hb)
/-- A register is told otherwise. -/
theorem Sim.reg_set (h : Sim c σ β a w) (t : Nat) {r : R} (hr : RelR β (stF c σ β w) w (a.tmps.getD t undef) r) : Sim c { σ with regs := upd σ.regs t r } β a w :=
  ⟨h.keep, h.size, h.dfs (fun _ _ => rfl) (fun o x hx => .inl ⟨o, x, hx, rfl⟩), h.ext, h.obj, h.blk, h.dis, fun t' => by
    simp only [upd]
    split
    · rename_i e; subst e; exact hr
    · exact h.reg t', h.env⟩
end
theorem Ghost.refl (σ : S) : Ghost σ σ := fun _ β _ _ h => ⟨β, h⟩
theorem Ghost.trans {σ σ' σ'' : S} (h : Ghost σ σ') (k : Ghost σ' σ'') : Ghost σ σ'' := fun c β a w hs => let ⟨β', h'⟩ := h c β a w hs; k c β' a w h'
/-- An operation, by the rules for others of its kind. -/
theorem SemOp.old {P : Program} {gl : Nat → Option (List D)} {o : Oper} {σ : S} {K : S → Prop} (h : opA0 P gl o σ K) : SemOp P gl o σ K := fun c β a w hP hgl hs hd => by
  subst hP; subst hgl; exact opA0_sound hs hd h

/-! ### Rows and maps of pointers -/
theorem logV_dep {β β' : Nat → Value} {st st' : Nat → Prop} {w : World} {e : TypeId} {ids : List Nat} {bv : Value} (h : ∀ o ∈ ids, β' o = β o) (k : ObRel β st w bv (.log e 1 (ids.map fun i => [.v (β i)]))) : ObRel β' st' w bv (.log e 1 (ids.map fun i => [.v (β' i)])) := by
  have e1 : (ids.map fun i => [D.v (β' i)]) = ids.map fun i => [.v (β i)] := List.map_congr_left fun i hi => by rw [h i hi]
  rw [e1]
  obtain ⟨cells, hr, hf, hl⟩ := k
  refine ⟨cells, hr, ⟨hf.1, fun i u d hu hd => ?_⟩, hl⟩
  have h1 := hf.2 i u d hu hd
  have hmem := List.mem_of_getElem? hd
  obtain ⟨l, hl', hdl⟩ := List.mem_flatten.1 hmem
  obtain ⟨j, _, rfl⟩ := List.mem_map.1 hl'
  simp at hdl; subst hdl
  cases h1 with | v h => exact .v h
theorem mpV_dep {β β' : Nat → Value} {st st' : Nat → Prop} {w : World} {kv : List (Int × Nat)} {bv : Value} (h : ∀ o ∈ kv.map (·.2), β' o = β o) (k : ObRel β st w bv (.mpo (kv.map fun p => (p.1, .v (β p.2))))) : ObRel β' st' w bv (.mpo (kv.map fun p => (p.1, .v (β' p.2)))) := by
  have e1 : (kv.map fun p => (p.1, D.v (β' p.2))) = kv.map fun p => (p.1, .v (β p.2)) := List.map_congr_left fun i hi => by rw [h i.2 (List.mem_map.2 ⟨i, hi, rfl⟩)]
  rw [e1]
  obtain ⟨r, clock, es, vs, hb, hh, hl, hs, hk, hd⟩ := k
  refine ⟨r, clock, es, vs, hb, hh, hl, hs, hk, fun i p hp => ?_⟩
  have h1 := hd i p hp
  simp only [List.getElem?_map, Option.map_eq_some_iff] at hp
  obtain ⟨q, _, rfl⟩ := hp
  simp only at h1 ⊢
  generalize vs i = u at h1 ⊢
  cases h1 with | v h => exact .v h
/-- A row of pointers to the objects 'ids'. -/
def rrow (e : TypeId) (ids : List Nat) : SemOb where
  os := ids
  p := fun β st w bv => ObRel β (fun _ => False) w bv (.log e 1 (ids.map fun i => [.v (β i)]))
  lt := fun h b hb => ObRel.lt h hb
  mono := fun H h k => ObRel.mono (fun b hb => hb.elim) h k
  dep := fun h k => logV_dep h k
/-- A map of pointers to objects. -/
def rmp (kv : List (Int × Nat)) : SemOb where
  os := kv.map (·.2)
  p := fun β st w bv => ObRel β (fun _ => False) w bv (.mpo (kv.map fun p => (p.1, .v (β p.2))))
  lt := fun h b hb => ObRel.lt h hb
  mono := fun H h k => ObRel.mono (fun b hb => hb.elim) h k
  dep := fun h k => mpV_dep h k
section
variable {σ : S}
theorem g_row_nil {o : Nat} {e : TypeId} (hm : σ.mem o = some (.log e 1 [])) : Ghost σ (σ.setOb o (.sem (rrow e []))) := fun c β a w hs => ⟨β, hs.tell hm fun st hst => logV_dep (ids := []) (fun o ho => by simp at ho) (hs.obj o _ hm)⟩
theorem g_map_nil {o : Nat} (hm : σ.mem o = some (.mpo [])) : Ghost σ (σ.setOb o (.sem (rmp []))) := fun c β a w hs => ⟨β, hs.tell hm fun st hst => mpV_dep (kv := []) (fun o ho => by simp at ho) (hs.obj o _ hm)⟩
end
section
variable {P : Program} {gl : Nat → Option (List D)} {σ : S} {K : S → Prop} {dst : Option Tmp} {ty : TypeId} {pos : String} {after : Array Edge} {g : Option (Nat × Bool)}
theorem run_equalIn_ptr {P : Program} {w : World} (d : Nat) {t e : TypeId} (ht : P.underlying t = some (.pointer e)) (p : Option Addr) (hsp : ∀ ad, p = some ad → ad.spot = none) : (Op.equalIn (d + 1) t (.pointer p) (.pointer none)).run P w = .ok p.isNone w := by
  cases p <;> simp [Op.equalIn, run_underlying ht]
theorem run_ptr_nil {P : Program} {w : World} {op : BinOp} {neg : Bool} (hop : (op = .eql ∧ neg = false) ∨ (op = .neq ∧ neg = true)) {t e : TypeId} (ht : P.underlying t = some (.pointer e)) {x : Operand} {p : Option Addr} (hsp : ∀ ad, p = some ad → ad.spot = none) :
    (do eqGuard op t x (.const (.pointer none)) (.pointer p) (.pointer none); binOp op t (.pointer p) (.pointer none) : Sem Value).run P w = .ok (.bool (p.isNone != neg)) w := by
  have h := run_equalIn_ptr (P := P) (w := w) 9999 ht p hsp
  rcases hop with ⟨rfl, rfl⟩ | ⟨rfl, rfl⟩
  · simp only [Sem.run_bind, eqGuard, Result.andThen_ok, binOp, Op.equal, Op.maxDepth]
    simp [h]
  · simp only [Sem.run_bind, eqGuard, Result.andThen_ok, binOp, Op.equal, Op.maxDepth]
    simp [h]
/-- A pointer is held against nil. -/
theorem sem_ptr_nil {op : BinOp} {neg : Bool} (hop : (op = .eql ∧ neg = false) ∨ (op = .neq ∧ neg = true)) {t e u : TypeId} (ht : P.underlying t = some (.pointer e)) {x : Operand} {b : Bool}
    (hx : (σ.eval gl x = .a (.d (.v (.pointer none))) ∧ b = true) ∨ (∃ q off, σ.eval gl x = .ref q off ∧ b = false))
    (hk : K (σ.put dst (.a (B (b != neg))))) : SemOp P gl ⟨dst, .binOp op t x (.const (.pointer none)) u, ty, pos, after, g⟩ σ K := by
  intro c β a w hP hgl hs hd
  subst hP; subst hgl
  have hv := hs.eval x
  obtain ⟨p, hp, hb⟩ : ∃ p : Option Addr, a.eval x = .pointer p ∧ p.isNone = b ∧ (∀ ad, p = some ad → ad.spot = none) := by
    rcases hx with ⟨hx, rfl⟩ | ⟨q, off, hx, rfl⟩
    · rw [hx] at hv; exact ⟨none, hv.inv_v, rfl, fun ad h => by cases h⟩
    · rw [hx] at hv
      obtain ⟨bl, _, e⟩ := hv.inv_ref
      exact ⟨_, e, rfl, fun ad h => by cases h; rfl⟩
  refine Run.val (v := .bool (b != neg)) (w' := w) (fun _ e => by cases e) ?_ ⟨_, β, hk, hs.put hd (.a (x := B (b != neg)) (.v rfl))⟩
  have he : a.eval (.const (.pointer none)) = .pointer none := rfl
  obtain ⟨hb, hsp⟩ := hb
  subst hb
  have hr := run_ptr_nil (P := c.P) (w := w) hop ht (x := x) (p := p) hsp
  simp only [execOp, hp, he, Sem.run_bind] at hr ⊢
  rw [hr]; rfl
def kvN : List (Int × Nat) → Int → Option Nat
  | [], _ => none
  | (k, x) :: kv, n => if k = n then some x else kvN kv n
theorem kvN_map (f : Nat → D) (n : Int) : ∀ kv : List (Int × Nat), kvGet (kv.map fun p => (p.1, f p.2)) n = (kvN kv n).map f
  | [] => rfl
  | (k, x) :: kv => by
    simp only [List.map_cons, kvGet, kvN]
    split
    · rfl
    · exact kvN_map f n kv
theorem kvN_mem {n : Int} {q : Nat} : ∀ {kv : List (Int × Nat)}, kvN kv n = some q → (n, q) ∈ kv
  | (k, x) :: kv, h => by
    simp only [kvN] at h
    split at h
    · rename_i e; cases h; subst e; simp
    · exact List.mem_cons_of_mem _ (kvN_mem h)
theorem kvN_new (f : Nat → D) {n : Int} {q : Nat} : ∀ {kv : List (Int × Nat)}, kvN kv n = none → kvSet (kv.map fun p => (p.1, f p.2)) n (f q) = (kv ++ [(n, q)]).map fun p => (p.1, f p.2)
  | [], _ => rfl
  | (k, x) :: kv, h => by
    simp only [kvN] at h
    split at h
    · cases h
    · rename_i e
      simp only [List.map_cons, List.cons_append, kvSet, if_neg e, kvN_new f h]
theorem box_ptr {c : Cx} {β : Nat → Value} {a : Act} {w : World} (hs : Sim c σ β a w) {q : Nat} {cs : List R} (hm : σ.mem q = some (.box cs)) : ∃ b, β q = .pointer (some ⟨b, 0, none⟩) := by
  obtain ⟨b, _, _, hb, _⟩ := hs.obj q _ hm
  exact ⟨b, hb⟩
/-- What a map of pointers holds. -/
theorem sem_lookup {t : TypeId} (hz : mapT P t = some (.v (.pointer none))) {x i : Operand} {o : Nat} {kv : List (Int × Nat)} {n : Int} (hx : σ.eval gl x = .omp o) (hm : σ.mem o = some (.sem (rmp kv))) (hi : σ.eval gl i = .a (.d (.v (.int .i64 n))))
    (hbox : ∀ p ∈ kv, ∃ cs, σ.mem p.2 = some (.box cs))
    (h1 : ∀ q, kvN kv n = some q → K (σ.put dst (.ref q 0))) (h2 : kvN kv n = none → K (σ.put dst (.a (.d (.v (.pointer none)))))) : SemOp P gl ⟨dst, .lookup t x i false, ty, pos, after, g⟩ σ K := by
  intro c β a w hP hgl hs hd
  subst hP; subst hgl
  have hs1 := hs.tell (x := .mpo (kv.map fun p => (p.1, .v (β p.2)))) hm fun st hst => mpV_dep (st := fun _ => False) (fun _ _ => rfl) (show ObRel β (fun _ => False) w (β o) (.mpo (kv.map fun p => (p.1, .v (β p.2)))) from hs.obj o _ hm)
  have he : ∀ y, (σ.setOb o (.mpo (kv.map fun p => (p.1, .v (β p.2))))).eval c.gl y = σ.eval c.gl y := fun y => by cases y <;> rfl
  have hr : lookR c.P (σ.setOb o (.mpo (kv.map fun p => (p.1, .v (β p.2))))) t ((σ.setOb o (.mpo (kv.map fun p => (p.1, .v (β p.2))))).eval c.gl x) ((σ.setOb o (.mpo (kv.map fun p => (p.1, .v (β p.2))))).eval c.gl i) false = some (.a (.d (((kvN kv n).map fun q => D.v (β q)).getD (.v (.pointer none))))) := by
    rw [he, he, hx, hi]
    have hmo : (σ.setOb o (.mpo (kv.map fun p => (p.1, .v (β p.2))))).mem o = some (.mpo (kv.map fun p => (p.1, .v (β p.2)))) := by simp [S.setOb, upd]
    simp only [lookR, hz, mapOf, hmo]
    rw [kvN_map fun q => D.v (β q)]
  obtain ⟨v, hrun, hrel⟩ := look_run hs1 hr
  cases hq : kvN kv n with
  | none =>
    rw [hq] at hrel
    have hv : v = .pointer none := hrel.inv_v
    exact Run.val (v := v) (w' := w) (fun _ e => by cases e) (by simp [execOp, hrun]) ⟨_, β, h2 hq, hs.put hd (by rw [hv]; exact .a (x := .d (.v (.pointer none))) (.v rfl))⟩
  | some q =>
    rw [hq] at hrel
    have hv : v = β q := hrel.inv_v
    obtain ⟨cs, hcs⟩ := hbox _ (kvN_mem hq)
    obtain ⟨b, hb⟩ := box_ptr hs hcs
    exact Run.val (v := v) (w' := w) (fun _ e => by cases e) (by simp [execOp, hrun]) ⟨_, β, h1 q hq, hs.put hd (by rw [hv, hb]; exact .ref hb)⟩
/-- A pointer is laid into a map. -/
theorem sem_upd {t : TypeId} {kt e : TypeId} (ht : P.underlying t = some (.map kt e)) (hkt : P.underlying kt = some (.int .i64)) {m k v : Operand} {o q : Nat} {kv : List (Int × Nat)} {n : Int} {cs : List R} (hx : σ.eval gl m = .omp o) (hm : σ.mem o = some (.sem (rmp kv))) (hk : σ.eval gl k = .a (.d (.v (.int .i64 n))))
    (hv : σ.eval gl v = .ref q 0) (hq : σ.mem q = some (.box cs)) (hn : kvN kv n = none)
    (h1 : K ((σ.setOb o (.sem (rmp (kv ++ [(n, q)])))).put dst .any)) : SemOp P gl ⟨dst, .mapUpdate t m k v, ty, pos, after, g⟩ σ K := by
  intro c β a w hP hgl hs hd
  subst hP; subst hgl
  have hkv := hs.eval k
  rw [hk] at hkv
  have hkv := hkv.inv_v
  have hmv := hs.eval m
  rw [hx] at hmv
  have hmb : β o = a.eval m := by
    generalize a.eval m = mv at hmv ⊢
    cases hmv with | omp e _ => exact e
  have hvv := hs.eval v
  rw [hv] at hvv
  obtain ⟨b, hb, hvb⟩ := hvv.inv_ref
  obtain ⟨r, clock, es, vs, hbr, hh, hl, hsm, hkk, hdd⟩ := hs.obj o _ hm
  have hy : Rd (fun _ => False) w (a.eval v) (.v (β q)) := by rw [hvb, hb]; exact .v rfl
  obtain ⟨es', clock', vs', hrun, hl', hs', hk', hd'⟩ := upd_run (n := n) (m := t) ht hkt hh hl hsm hkk hdd hy
  have hset := MapKept.heap_set (o' := Obj.map es' clock') hh
  have keep : Keep (fun b => ownB (β o) = some b) w { w with heap := w.heap.setIfInBounds r (.map es' clock') } := ⟨rfl, rfl, rfl, by simp, fun b _ hb' => hset.2 b fun e => hb' (by rw [hbr, e]; rfl)⟩
  rw [kvN_new (fun q => D.v (β q)) hn] at hl' hk' hd'
  have hz := hs.setOb (x := .sem (rmp (kv ++ [(n, q)]))) hm keep ⟨r, clock', es', vs', hbr, hset.1, hl', hs', hk', fun i p hp => (hd' i p hp).mono fun b hb' => hb'.elim⟩
  refine Run.skip (fun _ e => by cases e) ?_ ⟨_, β, h1, hz.put hd .any⟩
  simp only [execOp]
  rw [hkv, ← hmb, hbr]
  simp only [Sem.run_bind, hrun, Result.andThen_ok, Sem.run_pure]
theorem run_bs1 {w : World} {t e : TypeId} {ti : TI} (ht : P.underlying t = some (.slice e)) (hti : tinf P e = some ti) (hsz : ti.sz = 1) {z0 : Value} (hz : ti.z = [z0]) {v : Value} (hv : v.oneCell' = true) :
    (Instr.buildSlice t 1 #[(0, v)]).run P w = .ok (.slice (some ⟨w.heap.size, 0, none⟩) 1 1) (w.alloc (.cells #[v] e)) := by
  obtain ⟨z, hz1, hz2⟩ := run_zero (w := w) hti
  have hzc : z.cells = #[z0] := by rw [hz] at hz2; exact (Array.toList_inj.1 (by simpa using hz2.symm))
  have hvc := cells_one hv
  simp only [Instr.buildSlice, Sem.run_bind, run_under ht, Result.andThen_ok, run_size hti, hsz]
  rw [if_neg (by decide), if_neg (by decide)]
  simp only [Sem.run_bind, hz1, Result.andThen_ok, Sem.run_pure, hzc]
  have hf : Instr.fill (fun i => some (i * 1, 1)) (Array.map (fun x => #[z0][x % #[z0].size]!) (Array.range (1 * 1))) [(0, v)] = some #[v] := by
    rw [show Array.range (1 * 1) = #[0] from rfl]
    simp [Instr.fill, hvc]
  rw [hf]
  simp [newRow]
/-- A row of one pointer. -/
theorem sem_bs1 {t e : TypeId} {ti : TI} (ht : P.underlying t = some (.slice e)) (hti : tinf P e = some ti) (hsz : ti.sz = 1) {z0 : Value} (hz : ti.z = [z0]) {x : Operand} {d q : Nat} (hx : σ.eval gl x = .ref q 0) (hdq : q ≠ d)
    (hk : K ((σ.newOb d (.sem (rrow e [q]))).put (some d) (.own d))) : SemOp P gl ⟨some d, .buildSlice t 1 #[(0, x)], ty, pos, after, g⟩ σ K := by
  intro c β a w hP hgl hs hd
  subst hP; subst hgl
  have hv := hs.eval x
  rw [hx] at hv
  obtain ⟨b, hb, hvb⟩ := hv.inv_ref
  have hn : ∀ b', ownB (.slice (some ⟨w.heap.size, 0, none⟩) 1 1) = some b' → w.heap.size ≤ b' ∨ ∃ y, σ.mem d = some y ∧ ownB (β d) = some b' := fun b' hb' => by cases hb'; exact .inl (Nat.le_refl _)
  have hs2 := hs.new (o := d) (x := .sem (rrow e [q])) (bv := .slice (some ⟨w.heap.size, 0, none⟩) 1 1) (w' := w.alloc (.cells #[a.eval x] e)) (Keep.alloc _ _ _) hn
    ⟨[a.eval x], .inl ⟨rfl, .inr ⟨w.heap.size, 1, _, rfl, Nat.zero_le _, heap_alloc_new _ _, Nat.le_refl _, by simp only [maxLen]; omega, rfl, rfl⟩⟩, F2.cons (by
      show Rd _ _ _ (.v (upd β d _ q))
      rw [show upd β d (.slice (some ⟨w.heap.size, 0, none⟩) 1 1) q = β q by simp [upd, hdq], hb, hvb]
      exact .v rfl) F2.nil, by simp⟩
  refine Run.val (v := .slice (some ⟨w.heap.size, 0, none⟩) 1 1) (w' := w.alloc (.cells #[a.eval x] e)) (fun _ e => by cases e) ?_ ⟨_, _, hk, hs2.put hd (.own (by simp [upd]) rfl)⟩
  have := run_bs1 (P := c.P) (w := w) ht hti hsz hz (v := a.eval x) (by rw [hvb]; rfl)
  simp [execOp, this]
/-- Pointers are appended to a row of pointers. -/
theorem sem_app {t e : TypeId} {ti : TI} (ht : tk P t = .slice e) (hti : tinf P e = some ti) (hsz : ti.sz = 1) (hzl : ti.z.length = 1) (hbs : 0 < ti.bs) {x y : Operand} {d o o2 : Nat} {ids ids2 : List Nat} (hx : σ.eval gl x = .own o) (hy : σ.eval gl y = .own o2) (hm : σ.mem o = some (.sem (rrow e ids))) (hm2 : σ.mem o2 = some (.sem (rrow e ids2)))
    (ho : o ∉ ids) (ho2 : o ∉ ids2) (hoo : o2 ≠ o) (hlen : (ids.length + ids2.length) * ti.bs ≤ 140737488355328)
    (hk : K ((σ.newOb o (.sem (rrow e (ids ++ ids2)))).put (some d) (.own o))) : SemOp P gl ⟨some d, .call ⟨.builtin .append, #[x, y], #[t, t]⟩, ty, pos, after, g⟩ σ K := by
  intro c β a w hP hgl hs hd
  subst hP; subst hgl
  have hs1 := hs.tell (x := .log e 1 (ids.map fun i => [.v (β i)])) hm fun st hst => logV_dep (st := fun _ => False) (fun _ _ => rfl) (show ObRel β (fun _ => False) w (β o) (.log e 1 (ids.map fun i => [.v (β i)])) from hs.obj o _ hm)
  have hm2' : (σ.setOb o (.log e 1 (ids.map fun i => [.v (β i)]))).mem o2 = some (.sem (rrow e ids2)) := by simp [S.setOb, upd, hoo, hm2]
  have hs2 := hs1.tell (x := .log e 1 (ids2.map fun i => [.v (β i)])) hm2' fun st hst => logV_dep (st := fun _ => False) (fun _ _ => rfl) (show ObRel β (fun _ => False) w (β o2) (.log e 1 (ids2.map fun i => [.v (β i)])) from hs.obj o2 _ hm2)
  generalize hσ2 : ((σ.setOb o (.log e 1 (ids.map fun i => [.v (β i)]))).setOb o2 (.log e 1 (ids2.map fun i => [.v (β i)]))) = σ2 at hs2
  have hr2 : σ2.regs = σ.regs := by subst hσ2; rfl
  have he : ∀ z, σ2.eval c.gl z = σ.eval c.gl z := fun z => by cases z <;> simp [S.eval, hr2]
  have hmo : σ2.mem o = some (.log e 1 (ids.map fun i => [.v (β i)])) := by subst hσ2; simp [S.setOb, upd, Ne.symm hoo]
  have hmo2 : σ2.mem o2 = some (.log e 1 (ids2.map fun i => [.v (β i)])) := by subst hσ2; simp [S.setOb, upd]
  have hmn : ∀ i, i ≠ o → i ≠ o2 → σ2.mem i = σ.mem i := fun i h1 h2 => by subst hσ2; simp [S.setOb, upd, h1, h2]
  obtain ⟨ob, hob, hrun⟩ := appK_soundB (o := ⟨some d, .call ⟨.builtin .append, #[x, y], #[t, t]⟩, ty, pos, after, g⟩) (K := fun σ' => σ' = (σ2.newOb o (.log e 1 ((ids ++ ids2).map fun i => [.v (β i)]))).put (some d) (.own o)) (t := t) (x := x) (y := y) hs2 rfl rfl rfl rfl hd (by
    simp only [appK, ht, he, hx, hy, rowsR, hmo, hmo2, hti]
    refine ⟨by rw [hzl, hsz], by omega, hbs, fun c hc => ?_, trivial, hsz.symm, by simpa using hlen, by rw [List.map_append]⟩
    obtain ⟨i, _, rfl⟩ := List.mem_map.1 hc
    rw [hsz]; rfl)
  obtain rfl : ob = o := hob o (by rw [he, hx])
  refine hrun.mono fun v w' ⟨σ', β', e', hβ, hs'⟩ => ?_
  subst e'
  have hkl : ∀ z : List (List D), Ob.kill ob (.log e 1 z) = .log e 1 z := fun z => rfl
  have hg1 : ((σ2.newOb ob (.log e 1 ((ids ++ ids2).map fun i => [.v (β i)]))).put (some d) (.own ob)).mem ob = some (.log e 1 ((ids ++ ids2).map fun i => [.v (β i)])) := by simp [S.put, S.newOb, upd]
  have hβ12 : ∀ i ∈ ids ++ ids2, β' i = β i := fun i hi => hβ i fun e => by
    subst e
    rcases List.mem_append.1 hi with h | h
    · exact ho h
    · exact ho2 h
  have ht1 := hs'.tell (x := .sem (rrow e (ids ++ ids2))) hg1 fun st hst => logV_dep hβ12 (hs'.obj ob _ hg1)
  have hg2 : (((σ2.newOb ob (.log e 1 ((ids ++ ids2).map fun i => [.v (β i)]))).put (some d) (.own ob)).setOb ob (.sem (rrow e (ids ++ ids2)))).mem o2 = some (.log e 1 (ids2.map fun i => [.v (β i)])) := by simp [S.put, S.newOb, S.setOb, upd, hoo, hmo2, hkl]
  have ht2 := ht1.tell (x := .sem (rrow e ids2)) hg2 fun st hst => logV_dep (fun i hi => hβ12 i (List.mem_append_right _ hi)) (ht1.obj o2 _ hg2)
  refine ⟨_, β', hk, ?_⟩
  have hfin : (((σ2.newOb ob (.log e 1 ((ids ++ ids2).map fun i => [.v (β i)]))).put (some d) (.own ob)).setOb ob (.sem (rrow e (ids ++ ids2)))).setOb o2 (.sem (rrow e ids2)) = (σ.newOb ob (.sem (rrow e (ids ++ ids2)))).put (some d) (.own ob) := by
    simp only [S.put, S.newOb, S.setOb, hr2]
    congr 1
    funext i
    simp only [upd]
    by_cases h1 : i = o2
    · subst h1
      rw [if_pos rfl, if_neg hoo, hm2]
      simp only [Option.map_some, Ob.kill]
      rw [if_neg (by simp only [rrow, List.any_eq_true, beq_iff_eq, not_exists, not_and]; exact fun i hi e => ho2 (e ▸ hi))]
    · rw [if_neg h1]
      by_cases h2 : i = ob
      · subst h2; simp
      · rw [if_neg h2, if_neg h2, if_neg h2, hmn i h2 h1]
  rw [← hfin]; exact ht2
/-- A struct's cells, told as registers. -/
def zC : Value → R
  | .slice none 0 0 => .cs []
  | v => .a (.d (cellD v))
def fillR (place : Nat → Option (Nat × Nat)) (cells : List R) : List (Nat × List R) → Option (List R)
  | [] => some cells
  | (i, ys) :: rest => match place i with
    | some (off, sz) => if ys.length = sz ∧ off + sz ≤ cells.length then fillR place (cells.take off ++ ys ++ cells.drop (off + sz)) rest else none
    | none => none
def partsR (σ : S) (gl : Nat → Option (List D)) : List (Nat × Operand) → Option (List (Nat × List R))
  | [] => some []
  | (i, x) :: rest => match cellsR (σ.eval gl x), partsR σ gl rest with
    | some ys, some ps => some ((i, ys) :: ps)
    | _, _ => none
theorem zC_rel {β : Nat → Value} {st : Nat → Prop} {w : World} {v : Value} (hv : v.oneCell' = true) : RelR β st w v (zC v) := by
  unfold zC
  split
  · exact .cs .nil
  · exact .a (x := .d _) (cellD_rd hv)
theorem fillR_rel {β : Nat → Value} {st : Nat → Prop} {w : World} {place : Nat → Option (Nat × Nat)} : ∀ (ps : List (Nat × List R)) {parts : List (Nat × Value)} {cells : Array Value} {rs rs' : List R},
    F2 (fun p q => p.1 = q.1 ∧ F2 (fun u r => u.oneCell' = true ∧ RelR β st w u r) p.2.cells.toList q.2) parts ps → F2 (fun u r => u.oneCell' = true ∧ RelR β st w u r) cells.toList rs → fillR place rs ps = some rs' →
    ∃ cells', Instr.fill place cells parts = some cells' ∧ F2 (fun u r => u.oneCell' = true ∧ RelR β st w u r) cells'.toList rs'
  | [], parts, cells, rs, rs', hp, hf, h => by
    cases h
    rw [hp.of_nil]
    exact ⟨cells, rfl, hf⟩
  | (i, ys) :: ps, parts, cells, rs, rs', hp, hf, h => by
    obtain ⟨⟨i', v⟩, parts', rfl, ⟨e1, hv⟩, hps⟩ := hp.of_cons
    simp only at e1 hv
    subst e1
    simp only [fillR] at h
    split at h
    · rename_i off sz hpl
      split at h
      · rename_i hc
        have hvl : v.cells.size = ys.length := by simpa using hv.1
        have hcl : cells.size = rs.length := by simpa using hf.1
        have hsp := fold_splice off v.cells.toList 0 cells (by simp; omega)
        have ff := ((hf.take off).append hv).append (hf.drop (off + ys.length))
        rw [← hc.1] at h
        obtain ⟨cells', h3, h4⟩ := fillR_rel ps hps (cells := v.cells.zipIdx.foldl (fun cs (x : Value × Nat) => cs.setIfInBounds (off + x.2) x.1) cells) (rs := rs.take off ++ ys ++ rs.drop (off + ys.length)) (by
          rw [← Array.foldl_toList, Array.toList_zipIdx, hsp]
          simp only [Nat.add_zero, Array.length_toList, hvl]
          exact ff) h
        refine ⟨cells', ?_, h4⟩
        simp only [Instr.fill, hpl]
        rw [if_neg (by simp [hvl, hc.1]; omega)]
        exact h3
      · cases h
    · cases h
theorem partsR_rel {c : Cx} {β : Nat → Value} {a : Act} {w : World} (hs : Sim c σ β a w) : ∀ (l : List (Nat × Operand)) {ps : List (Nat × List R)}, partsR σ c.gl l = some ps →
    F2 (fun p q => p.1 = q.1 ∧ F2 (fun u r => u.oneCell' = true ∧ RelR β (stF c σ β w) w u r) p.2.cells.toList q.2) (l.map fun x => (x.1, a.eval x.2)) ps
  | [], ps, h => by cases h; exact F2.nil
  | (i, x) :: l, ps, h => by
    simp only [partsR] at h
    split at h
    · rename_i ys ps' h1 h2
      cases h
      exact F2.cons ⟨rfl, cellsR_rel (hs.eval x) h1⟩ (partsR_rel hs l h2)
    · cases h
/-- A struct of which a row is a part. -/
theorem sem_build {t : TypeId} {ti : TI} {offs : List (Nat × Nat × Bool)} (hti : tinf P t = some ti) (ht : tk P t = .struct offs) (h1 : ti.z.all Value.oneCell' = true) (hoffs : (offs.all fun x => x.2.1 != 0) = true) {l : List (Nat × Operand)} {ps : List (Nat × List R)} {rs : List R}
    (hp : partsR σ gl l = some ps) (hf : fillR (fun i => (offs[i]?).map fun x => (x.1, x.2.1)) (ti.z.map zC) ps = some rs) (hk : K (σ.put dst (.agr rs))) : SemOp P gl ⟨dst, .build t l.toArray, ty, pos, after, g⟩ σ K := by
  intro c β a w hP hgl hs hd
  subst hP; subst hgl
  obtain ⟨z, hz, hzz⟩ := run_zero (w := w) hti
  obtain ⟨fds, hu, rfl⟩ := tk_struct ht
  have hplaces : (fds.mapM fun f => do pure (f.offset, ← sizeOf f.type) : Sem (Array (Nat × Nat))).run c.P w = .ok (fds.toList.map fun f => (f.offset, ((c.P.info? f.type).map (·.size)).getD 0)).toArray w := by
    have hall : ∀ f ∈ fds.toList, (c.P.info? f.type).isSome = true := fun f hf => by
      have := List.all_eq_true.1 hoffs _ (List.mem_map.2 ⟨f, hf, rfl⟩)
      cases hi : c.P.info? f.type with
      | none => rw [hi] at this; simp at this
      | some i => rfl
    refine run_mapM_arr _ _ fun f hf => ?_
    obtain ⟨i, hi⟩ := Option.isSome_iff_exists.1 (hall f hf)
    simp [sizeOf, run_info hi, hi]
  have hz0 : F2 (fun u r => u.oneCell' = true ∧ RelR β (stF c σ β w) w u r) z.cells.toList (ti.z.map zC) := ⟨by simp [hzz], fun i u r hu hr => by
    simp only [List.getElem?_map, Option.map_eq_some_iff] at hr
    obtain ⟨v, hv, rfl⟩ := hr
    rw [hzz, hu] at hv; cases hv
    have := List.all_eq_true.1 h1 u (by rw [hzz]; exact List.mem_of_getElem? hu)
    exact ⟨this, zC_rel this⟩⟩
  obtain ⟨cells', hfl, hrel⟩ := fillR_rel (place := fun i => ((fds.toList.map fun f => (f.offset, ((c.P.info? f.type).map (·.size)).getD 0)).toArray)[i]?) ps (partsR_rel hs l hp) hz0 (by
    rw [← hf]
    congr 1
    funext i
    simp only [List.getElem?_toArray, List.getElem?_map, Option.map_map]
    congr 1)
  refine Run.val (v := .agg cells') (w' := w) (fun _ e => by cases e) ?_ ⟨_, β, hk, hs.put hd ?_⟩
  · simp only [execOp, Instr.build, Sem.run_bind, hz, Result.andThen_ok, run_under hu, hplaces]
    have e1 : (l.toArray.map fun (x : Nat × Operand) => (x.1, a.eval x.2)).toList = l.map fun x => (x.1, a.eval x.2) := by simp
    rw [e1, hfl]
    rfl
  · have : RelR β (stF c σ β w) w (.agg cells'.toList.toArray) (.agr rs) := .agr hrel.1 (fun v hv => by
      obtain ⟨i, hi⟩ := List.mem_iff_getElem?.1 hv
      have hi' := (List.getElem?_eq_some_iff.1 hi).1
      exact (hrel.2 i v _ hi (List.getElem?_eq_getElem (by rw [← hrel.1]; exact hi'))).1) fun j v r hv hr => (hrel.2 j v r hv hr).2
    simpa using this
end
end Go.VC
