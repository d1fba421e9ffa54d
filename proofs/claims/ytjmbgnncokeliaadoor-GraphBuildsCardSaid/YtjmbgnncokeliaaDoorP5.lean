/- Part 5 of the texts that stand behind the row: what the statement's functions do, and plain laws. -/
import Derived.Test.YtjmbgnncokeliaaDoorP4
set_option maxRecDepth 100000
set_option linter.unusedSimpArgs false
set_option linter.unusedVariables false
set_option linter.unnecessarySimpa false
set_option linter.defProp false
section
set_option maxRecDepth 100000
set_option linter.unusedSimpArgs false
set_option linter.unusedVariables false
namespace Go.VC
open Go.RowKit Go.Proofs
/-- A type of pairs of numbers. -/
structure PairT (P : Program) (k : TypeId) : Prop where
  ex : ∃ (f0 f1 : Field) (t : TypeId) (i : TypeInfo), P.underlying k = some (.struct #[f0, f1]) ∧ f0.name ≠ "_" ∧ f1.name ≠ "_" ∧ f0.offset = 0 ∧ f1.offset = 1 ∧ f0.type = t ∧ f1.type = t ∧ P.underlying t = some (.int .i64) ∧ P.stoodInHeld k = false
def pairV (p : Int × Int) : Value := .agg #[.int .i64 p.1, .int .i64 p.2]
section
variable {P : Program} {k : TypeId} {w : World}
theorem run_part_int {t : TypeId} (ht : P.underlying t = some (.int .i64)) {cs : Array Value} {off : Nat} {v : Value} (h : cs[off]? = some v) : (part t cs off).run P w = .ok v w := by
  simp [part, isAgg, run_under ht, h]
theorem run_check_pair0 (hk : PairT P k) (em : Bool) (n : Nat) (p : Int × Int) : (Instr.checkKey em (n + 2) k (pairV p)).run P w = .ok () w := by
  obtain ⟨f0, f1, t, i, hu, n0, n1, o0, o1, rfl, t1, ht, hh⟩ := hk.ex
  have h0 : (part f0.type #[.int .i64 p.1, .int .i64 p.2] f0.offset).run P w = .ok (.int .i64 p.1) w := run_part_int ht (by rw [o0]; rfl)
  have h1 : (part f0.type #[.int .i64 p.1, .int .i64 p.2] f1.offset).run P w = .ok (.int .i64 p.2) w := run_part_int ht (by rw [o1]; rfl)
  have hc : ∀ a : Int, (Instr.checkKey em (n + 1) f0.type (.int .i64 a)).run P w = .ok () w := fun a => by
    simp [Instr.checkKey, run_under ht]
  rw [Instr.checkKey]
  simp [pairV, run_under hu, n0, n1, t1, h0, h1, hc]
theorem run_check_pair (hk : PairT P k) (em : Bool) (p : Int × Int) : (Instr.checkKey em 10000 k (pairV p)).run P w = .ok () w := run_check_pair0 hk em 9998 p
theorem run_eq_pair0 (hk : PairT P k) (n : Nat) (p q : Int × Int) : (Op.equalIn (n + 2) k (pairV p) (pairV q)).run P w = .ok (decide (p = q)) w := by
  obtain ⟨f0, f1, t, i, hu, n0, n1, o0, o1, rfl, t1, ht, hh⟩ := hk.ex
  have h0 : ∀ p : Int × Int, (part f0.type #[.int .i64 p.1, .int .i64 p.2] f0.offset).run P w = .ok (.int .i64 p.1) w := fun p => run_part_int ht (by rw [o0]; rfl)
  have h1 : ∀ p : Int × Int, (part f0.type #[.int .i64 p.1, .int .i64 p.2] f1.offset).run P w = .ok (.int .i64 p.2) w := fun p => run_part_int ht (by rw [o1]; rfl)
  have hc : ∀ a b : Int, (Op.equalIn (n + 1) f0.type (.int .i64 a) (.int .i64 b)).run P w = .ok (a == b) w := fun a b => by
    simp [Op.equalIn, run_under ht]
  rw [Op.equalIn]
  obtain ⟨a, b⟩ := p
  obtain ⟨c, d⟩ := q
  have g := h0 (a, b); have g' := h1 (a, b); have k0 := h0 (c, d); have k1 := h1 (c, d)
  simp only at g g' k0 k1
  by_cases e1 : a = c
  · subst e1
    by_cases e2 : b = d
    · subst e2
      simp [pairV, run_under hu, hh, n0, n1, t1, g, g', hc]
    · simp [pairV, run_under hu, hh, n0, n1, t1, g, g', k0, k1, hc, e2]
  · simp [pairV, run_under hu, hh, n0, n1, t1, g, g', k0, k1, hc, e1]
theorem run_eq_pair (hk : PairT P k) (p q : Int × Int) : (Op.equal k (pairV p) (pairV q)).run P w = .ok (decide (p = q)) w := run_eq_pair0 hk 9998 p q
/-- A map by pairs: what it holds. -/
def pGet : List ((Int × Int) × Int) → Int × Int → Option Int
  | [], _ => none
  | (k, x) :: kv, n => if k = n then some x else pGet kv n
def pSet : List ((Int × Int) × Int) → Int × Int → Int → List ((Int × Int) × Int)
  | [], n, x => [(n, x)]
  | (k, y) :: kv, n, x => if k = n then (n, x) :: kv else (k, y) :: pSet kv n x
theorem find_pair0 (hk : PairT P k) (n : Int × Int) : ∀ (es : List MapEntry) (kv : List ((Int × Int) × Int)) (i : Nat), es.length = kv.length → (∀ (j : Nat) (e : MapEntry) (p : (Int × Int) × Int), es[j]? = some e → kv[j]? = some p → e.key = pairV p.1) →
    ((Instr.findAsking k (pairV n) es i).run P w = .ok none w ∧ pGet kv n = none ∧ (∀ y, pSet kv n y = kv ++ [(n, y)]) ∧ ∀ e ∈ es, e.key ≠ pairV n) ∨
    ∃ (j : Nat) (e : MapEntry) (p : (Int × Int) × Int), (Instr.findAsking k (pairV n) es i).run P w = .ok (some (i + j, e.val)) w ∧ es[j]? = some e ∧ kv[j]? = some p ∧ p.1 = n ∧ pGet kv n = some p.2 ∧ ∀ y, pSet kv n y = kv.set j (n, y)
  | [], [], i, _, _ => .inl ⟨rfl, rfl, fun _ => rfl, fun e he => by simp at he⟩
  | [], _ :: _, i, hl, _ => by simp at hl
  | _ :: _, [], i, hl, _ => by simp at hl
  | e :: es, (q, x) :: kv, i, hl, hkk => by
    have h0 : e.key = pairV q := hkk 0 e (q, x) rfl rfl
    have hpe : ∀ a b : Int × Int, pairV a = pairV b → a = b := fun a b h => by
      obtain ⟨a1, a2⟩ := a; obtain ⟨b1, b2⟩ := b
      simp [pairV] at h
      rw [h.1, h.2]
    by_cases e0 : q = n
    · subst e0
      exact .inr ⟨0, e, (q, x), by simp [Instr.findAsking, h0, run_eq_pair hk], rfl, rfl, rfl, by simp [pGet], fun y => by simp [pSet]⟩
    · have e0' : ¬ n = q := fun h => e0 h.symm
      rcases find_pair0 hk n es kv (i + 1) (by simpa using hl) (fun j e p h1 h2 => hkk (j + 1) e p (by simpa using h1) (by simpa using h2)) with ⟨h1, h2, h3, h4⟩ | ⟨j, e', p, h1, h2, h3, h4, h5, h6⟩
      · refine .inl ⟨?_, by simp [pGet, e0, h2], fun y => by simp [pSet, e0, h3 y], fun e' he' => ?_⟩
        · simp [Instr.findAsking, h0, run_eq_pair hk, e0', h1]
        · rcases List.mem_cons.1 he' with rfl | he'
          · rw [h0]; intro h; exact e0 (hpe _ _ h)
          · exact h4 e' he'
      · refine .inr ⟨j + 1, e', p, ?_, by simpa using h2, by simpa using h3, h4, by simp [pGet, e0, h5], fun y => by simp [pSet, e0, h6 y]⟩
        simp [Instr.findAsking, h0, run_eq_pair hk, e0', h1, Nat.add_assoc, Nat.add_comm 1 j]
theorem find_pair (hk : PairT P k) (n : Int × Int) (es : List MapEntry) (kv : List ((Int × Int) × Int)) (hl : es.length = kv.length) (hkk : ∀ (j : Nat) (e : MapEntry) (p : (Int × Int) × Int), es[j]? = some e → kv[j]? = some p → e.key = pairV p.1) :
    ((Instr.findKey k (pairV n) es).run P w = .ok none w ∧ pGet kv n = none ∧ (∀ y, pSet kv n y = kv ++ [(n, y)]) ∧ ∀ e ∈ es, e.key ≠ pairV n) ∨
    ∃ (j : Nat) (e : MapEntry) (p : (Int × Int) × Int), (Instr.findKey k (pairV n) es).run P w = .ok (some (j, e.val)) w ∧ es[j]? = some e ∧ kv[j]? = some p ∧ p.1 = n ∧ pGet kv n = some p.2 ∧ ∀ y, pSet kv n y = kv.set j (n, y) := by
  obtain ⟨f0, f1, t, i, hu, _⟩ := hk.ex
  have hf : (Instr.findKey k (pairV n) es).run P w = (Instr.findAsking k (pairV n) es 0).run P w := by
    cases es with
    | nil => simp [Instr.findKey, run_under hu, Instr.findNow, Instr.findAsking]
    | cons e es => simp [Instr.findKey, run_under hu, Instr.findNow, Instr.sameNow]
  rw [hf]
  rcases find_pair0 (w := w) hk n es kv 0 hl hkk with h | ⟨j, e, p, h1, h2⟩
  · exact .inl h
  · exact .inr ⟨j, e, p, by rw [h1, Nat.zero_add], h2⟩
end
/-- An object that is a map by pairs. -/
def PmIs (kv : List ((Int × Int) × Int)) (w : World) (bv : Value) : Prop :=
  ∃ (r clock : Nat) (es : Array MapEntry), bv = .map (some r) ∧ w.heap[r]? = some (.map es clock) ∧ es.size = kv.length ∧ MapKept.Stamped es clock ∧
    ∀ (i : Nat) (e : MapEntry) (p : (Int × Int) × Int), es[i]? = some e → kv[i]? = some p → e.key = pairV p.1 ∧ e.val = .int .i64 p.2
def pmap (kv : List ((Int × Int) × Int)) : SemOb where
  os := []
  p := fun _ _ w bv => PmIs kv w bv
  lt := fun h b hb => by
    obtain ⟨r, clock, es, rfl, hh, _⟩ := h
    cases hb
    exact (Array.getElem?_eq_some_iff.1 hh).1
  mono := fun H h k => by
    obtain ⟨r, clock, es, rfl, hh, hr⟩ := h
    exact ⟨r, clock, es, rfl, (k r rfl).trans hh, hr⟩
  dep := fun _ h => h
section
variable {P : Program} {gl : Nat → Option (List D)} {σ : S} {K : S → Prop} {dst : Option Tmp} {ty : TypeId} {pos : String} {after : Array Edge} {g : Option (Nat × Bool)}
theorem sem_mkp {t : TypeId} {d : Tmp} (hk : K ((σ.newOb d (.sem (pmap []))).put (some d) (.omp d))) : SemOp P gl ⟨some d, .makeMap t none, ty, pos, after, g⟩ σ K := by
  intro c β a w hP hgl hs hd
  have hs2 := hs.new (o := d) (x := .sem (pmap [])) (bv := .map (some w.heap.size)) (w' := w.alloc (.map #[] 0)) (Keep.alloc _ _ _) (fun b hb => by cases hb; exact .inl (Nat.le_refl _))
    ⟨w.heap.size, 0, #[], rfl, heap_alloc_new w _, rfl, MapKept.stamped_empty 0, fun i e p he => by simp at he⟩
  refine Run.val (v := .map (some w.heap.size)) (w' := w.alloc (.map #[] 0)) (fun _ e => by cases e) ?_ ⟨_, upd β d (.map (some w.heap.size)), hk, hs2.put hd (.omp (by simp [upd]) rfl)⟩
  have hr : (Instr.makeMap t none).run c.P w = .ok (.map (some w.heap.size)) (w.alloc (.map #[] 0)) := rfl
  simp [execOp, hr]
theorem pair_eval {c : Cx} {β : Nat → Value} {a : Act} {w : World} (hs : Sim c σ β a w) {x : Operand} {p : Int × Int} (hx : σ.eval c.gl x = .a (.ag [dI p.1, dI p.2])) : a.eval x = pairV p := by
  have hv := hs.eval x
  rw [hx] at hv
  obtain ⟨cells, e, hf⟩ := hv.inv_a
  rw [e]
  obtain ⟨u0, s0, e0, h0, hf⟩ := hf.of_cons
  obtain ⟨u1, s1, e1, h1, hf⟩ := hf.of_cons
  obtain rfl := hf.of_nil
  subst e1
  subst e0
  cases h0; cases h1
  rfl
theorem sem_lookp {t kt e : TypeId} (ht : P.underlying t = some (.map kt e)) (hk : PairT P kt) (hz : ∀ w, (zeroValue e).run P w = .ok (.int .i64 0) w) {x i : Operand} {o : Nat} {kv : List ((Int × Int) × Int)} {p : Int × Int} (hx : σ.eval gl x = .omp o) (hm : σ.mem o = some (.sem (pmap kv)))
    (hi : σ.eval gl i = .a (.ag [dI p.1, dI p.2])) (h1 : ∀ v, pGet kv p = some v → K (σ.put dst (.tp [.a (I v), .a (B true)]))) (h2 : pGet kv p = none → K (σ.put dst (.tp [.a (I 0), .a (B false)]))) : SemOp P gl ⟨dst, .lookup t x i true, ty, pos, after, g⟩ σ K := by
  intro c β a w hP hgl hs hd
  subst hP; subst hgl
  have hkv := pair_eval hs hi
  have hmv := hs.eval x
  rw [hx] at hmv
  have hmb : a.eval x = β o := by
    generalize a.eval x = mv at hmv ⊢
    cases hmv with | omp e _ => exact e.symm
  obtain ⟨r, clock, es, hbr, hh, hl, hsm, hkk⟩ := hs.obj o _ hm
  have hzero := hz w
  have fin : ∀ (v : Int) (b : Bool), RelR β (stF c σ β w) w (.tuple #[.int .i64 v, .bool b]) (.tp [.a (I v), .a (B b)]) := fun v b => by
    refine .tp (by rfl) fun j v' r' hv' hr' => ?_
    match j with
    | 0 => simp at hv' hr'; subst hv'; subst hr'; exact .a (x := I v) (.v rfl)
    | 1 => simp at hv' hr'; subst hv'; subst hr'; exact .a (x := B b) (.v rfl)
    | j + 2 => simp at hv'
  rcases find_pair (w := w) hk p es.toList kv (by simpa using hl) (fun j e p h1 h2 => (hkk j e p (by simpa using h1) h2).1) with ⟨g1, g2, _, _⟩ | ⟨j, e', p', g1, g2, g3, g4, g5, _⟩
  · refine Run.val (v := .tuple #[.int .i64 0, .bool false]) (w' := w) (fun _ e => by cases e) ?_ ⟨_, β, h2 g2, hs.put hd (fin 0 false)⟩
    simp only [execOp, hkv, hmb, hbr, Sem.run_bind]
    simp only [Instr.lookup, Sem.run_bind, run_underlying ht, Result.andThen_ok, Sem.run_pure, MapKept.run_getObj_map hh, run_check_pair hk, g1, hzero, if_true]
  · refine Run.val (v := .tuple #[.int .i64 p'.2, .bool true]) (w' := w) (fun _ e => by cases e) ?_ ⟨_, β, h1 _ g5, hs.put hd (fin _ true)⟩
    have hval := (hkk j e' p' (by simpa using g2) g3).2
    simp only [execOp, hkv, hmb, hbr, Sem.run_bind]
    simp only [Instr.lookup, Sem.run_bind, run_underlying ht, Result.andThen_ok, Sem.run_pure, MapKept.run_getObj_map hh, run_check_pair hk, g1, hval, if_true]
theorem run_stays_pair {P : Program} {w : World} (p : Int × Int) : (Instr.keyThatStays (pairV p) (pairV p)).run P w = .ok (pairV p) w := by
  have h0 : ∀ n, Instr.sameBits (n + 1) (pairV p) (pairV p) = true := fun n => by
    simp [Instr.sameBits, pairV]
  unfold Instr.keyThatStays
  rw [if_pos (h0 9999)]
  rfl
theorem run_updp {P : Program} {w : World} {t kt e : TypeId} (ht : P.underlying t = some (.map kt e)) (hk : PairT P kt) {r clock : Nat} {es : Array MapEntry} {kv : List ((Int × Int) × Int)} (hb : w.heap[r]? = some (.map es clock)) (hl : es.size = kv.length) (hs : MapKept.Stamped es clock)
    (hkk : ∀ (i : Nat) (e : MapEntry) (p : (Int × Int) × Int), es[i]? = some e → kv[i]? = some p → e.key = pairV p.1 ∧ e.val = .int .i64 p.2) (n : Int × Int) (x : Int) :
    ∃ (es' : Array MapEntry) (clock' : Nat), (Instr.mapUpdate t (.map (some r)) (pairV n) (.int .i64 x)).run P w = .ok () { w with heap := w.heap.setIfInBounds r (.map es' clock') } ∧ es'.size = (pSet kv n x).length ∧ MapKept.Stamped es' clock' ∧
      ∀ (i : Nat) (e : MapEntry) (p : (Int × Int) × Int), es'[i]? = some e → (pSet kv n x)[i]? = some p → e.key = pairV p.1 ∧ e.val = .int .i64 p.2 := by
  rcases find_pair (w := w) hk n es.toList kv (by simpa using hl) (fun j e p h1 h2 => (hkk j e p (by simpa using h1) h2).1) with ⟨h1, h2, h3, h4⟩ | ⟨j, e', p, h1, h2, h3, h4, h5, h6⟩
  · refine ⟨es.push { key := pairV n, val := .int .i64 x, born := clock }, clock + 1, ?_, by simp [h3, hl], MapKept.stamped_push hs h4, fun i e p he hp => ?_⟩
    · simp only [Instr.mapUpdate, Sem.run_bind, run_underlying ht, MapKept.run_getObj_map hb, run_check_pair hk, h1, MapKept.run_setObj_map _ hb, Result.andThen_ok]
    · rw [h3] at hp
      rw [Array.getElem?_push] at he
      split at he
      · rename_i hi
        cases he
        rw [hi, hl, List.getElem?_append_right (Nat.le_refl _)] at hp
        simp at hp
        subst hp
        exact ⟨rfl, rfl⟩
      · rename_i hi
        have hlt := (Array.getElem?_eq_some_iff.1 he).1
        rw [List.getElem?_append_left (by omega)] at hp
        exact hkk i e p he hp
  · have hj : es[j]? = some e' := by simpa using h2
    have he'k := (hkk j e' p hj h3).1
    rw [h4] at he'k
    have hjl := (List.getElem?_eq_some_iff.1 h3).1
    refine ⟨es.modify j fun e => { e with key := pairV n, val := .int .i64 x }, clock, ?_, by simp [h6, hl], MapKept.stamped_modify hs _ _ (fun _ _ => rfl) (fun e'' _ he'' => ?_), fun i e p' he hp => ?_⟩
    · simp only [Instr.mapUpdate, Sem.run_bind, run_underlying ht, MapKept.run_getObj_map hb, run_check_pair hk, h1, Result.andThen_ok, hj, Option.map_some, Option.getD_some, he'k, run_stays_pair, MapKept.run_setObj_map _ hb]
    · rw [hj] at he''; cases he''; exact he'k.symm
    · rw [h6] at hp
      rw [Array.getElem?_modify] at he
      by_cases hi : j = i
      · subst hi
        rw [if_pos rfl, hj] at he
        simp at he; subst he
        rw [List.getElem?_set_self hjl] at hp
        cases hp
        exact ⟨rfl, rfl⟩
      · rw [if_neg hi] at he
        rw [List.getElem?_set_ne hi] at hp
        exact hkk i e p' he hp
theorem sem_updp {t kt e : TypeId} (ht : P.underlying t = some (.map kt e)) (hk : PairT P kt) {m k v : Operand} {o : Nat} {kv : List ((Int × Int) × Int)} {p : Int × Int} {x : Int} (hx : σ.eval gl m = .omp o) (hm : σ.mem o = some (.sem (pmap kv)))
    (hi : σ.eval gl k = .a (.ag [dI p.1, dI p.2])) (hv : σ.eval gl v = .a (I x)) (h1 : K ((σ.setOb o (.sem (pmap (pSet kv p x)))).put dst .any)) : SemOp P gl ⟨dst, .mapUpdate t m k v, ty, pos, after, g⟩ σ K := by
  intro c β a w hP hgl hs hd
  subst hP; subst hgl
  have hkv := pair_eval hs hi
  have hmv := hs.eval m
  rw [hx] at hmv
  have hmb : β o = a.eval m := by
    generalize a.eval m = mv at hmv ⊢
    cases hmv with | omp e _ => exact e
  have hvv := hs.eval v
  rw [hv] at hvv
  have hvv := hvv.inv_v
  obtain ⟨r, clock, es, hbr, hh, hl, hsm, hkk⟩ := hs.obj o _ hm
  obtain ⟨es', clock', hrun, hl', hs', hk'⟩ := run_updp ht hk hh hl hsm hkk p x
  have hset := MapKept.heap_set (o' := Obj.map es' clock') hh
  have keep : Keep (fun b => ownB (β o) = some b) w { w with heap := w.heap.setIfInBounds r (.map es' clock') } := ⟨rfl, rfl, rfl, by simp, fun b _ hb' => hset.2 b fun e => hb' (by rw [hbr, e]; rfl)⟩
  have hz := hs.setOb (x := .sem (pmap (pSet kv p x))) hm keep ⟨r, clock', es', hbr, hset.1, hl', hs', hk'⟩
  refine Run.skip (fun _ e => by cases e) ?_ ⟨_, β, h1, hz.put hd .any⟩
  simp only [execOp]
  rw [hkv, hvv, ← hmb, hbr]
  simp only [Sem.run_bind, hrun, Result.andThen_ok, Sem.run_pure]
end
end Go.VC
end
section
set_option maxRecDepth 100000
set_option linter.unusedSimpArgs false
set_option linter.unusedVariables false
namespace Go.VC
open Go.RowKit Go.Proofs Go.IntWalk
def rowsA (rs : List Kp) : A := .d (.sl (rs.map Kp.row))
abbrev PKv := List ((Int × Int) × Int)
/-- One operation of transaction i. -/
def wrOp (i : Int) (kv : PKv) (o : Op) : Option PKv :=
  if o.w = false then some kv else
  if (∃ v, pGet kv (o.var, o.val) = some v ∧ v ≠ i) ∨ o.val = 0 then none else some (pSet kv (o.var, o.val) i)
def wrOps (i : Int) : List Op → PKv → Option PKv
  | [], kv => some kv
  | o :: os, kv => (wrOp i kv o).bind (wrOps i os)
def wrAll : List Kp → Int → PKv → Option PKv
  | [], _, kv => some kv
  | r :: rs, i, kv => (wrOps i r.ops kv).bind (wrAll rs (i + 1))
theorem pair138 : PairT Tryd.prog 138 := ⟨_, _, _, default, Tryd.underlying138, by decide, by decide, rfl, rfl, rfl, rfl, Tryd.underlying3, by kernel_rfl⟩
/-- What the callee leaves of its caller. -/
structure Keeps (vs : List Value) (σ0 σ : S) : Prop where
  fr : σ.mem 999999 = some (.frame vs (upF σ0.regs))
  ob : ∀ o x, decide (o < 999000000) = true → σ0.mem o = some x → σ.mem (upId o) = some x.up
structure WrI (vs : List Value) (σ0 : S) (rs : List Kp) (k : Nat) (kv : PKv) (σ : S) : Prop where
  le : k ≤ rs.length
  eq : wrAll rs 0 [] = wrAll (rs.drop k) k kv
  r13 : σ.regs 13 = .a (rowsA rs)
  r14 : σ.regs 14 = .a (I rs.length)
  r15 : σ.regs 15 = .a (I k)
  r4 : σ.regs 4 = .omp 12
  m12 : σ.mem 12 = some (.sem (pmap kv))
  kp : Keeps vs σ0 σ
structure WrJ (vs : List Value) (σ0 : S) (rs : List Kp) (r : Kp) (k j : Nat) (kv : PKv) (σ : S) : Prop where
  le : j ≤ r.ops.length
  eq : wrAll rs 0 [] = (wrOps k (r.ops.drop j) kv).bind (wrAll (rs.drop (k + 1)) (k + 1))
  r13 : σ.regs 13 = .a (rowsA rs)
  r14 : σ.regs 14 = .a (I rs.length)
  r15 : σ.regs 15 = .a (I k)
  r5 : σ.regs 5 = .a (I k)
  r4 : σ.regs 4 = .omp 12
  r21 : σ.regs 21 = .a (.d (.sl (r.ops.map Op.enc)))
  r22 : σ.regs 22 = .a (I r.ops.length)
  r23 : σ.regs 23 = .a (I j)
  m12 : σ.mem 12 = some (.sem (pmap kv))
  kp : Keeps vs σ0 σ
theorem k_pmap {kv : PKv} {d : Nat} : Ob.kill d (.sem (pmap kv)) = .sem (pmap kv) := rfl
theorem zero3 (w : World) : (zeroValue 3).run Tryd.prog w = .ok (.int .i64 0) w := by kernel_rfl
theorem wr_end0 {vs : List Value} {σ τ : S} {n : Nat} {K : S → List R → Prop} (hkp : Keeps vs σ τ) (h2 : τ.regs 2 = .a (.d (.mp []))) (h3 : τ.regs 3 = .a (B false))
    (hk : ∀ σ' : S, (∀ t, FineR n (σ.regs t) → σ'.regs t = σ.regs t) → (∀ o x, (o == n) = false → decide (o < 999000000) = true → σ.mem o = some x → FineO n x → σ'.mem o = some x) → K σ' [.a (.d (.mp [])), .a (B false)]) : postG vs [2, 3] K .ret τ := by
  refine ⟨τ, Ghost.refl τ, by rw [hkp.fr]; rfl, ?_⟩
  have := hk τ.leave (fun t ht => by rw [lv_r, hkp.fr]; exact ht.1) fun o x h1 h4 hx hf => by rw [lv_m h4, hkp.ob o x h4 hx]; exact congrArg some hf.1
  simpa [h2, h3, R.down] using this
theorem mv_omp {a b : Nat} (h : (a == b) = false) : R.mv a b (.omp a) = .omp b := by simp [R.mv, R.says, R.says0, R.mv0, nm, h]
theorem wr_end1 {vs : List Value} {σ τ : S} {n : Nat} {kv : PKv} {K : S → List R → Prop} (hn : decide (n < 999000000) = true) (hkp : Keeps vs σ τ) (h2 : τ.regs 2 = .omp 12) (h3 : τ.regs 3 = .a (B true)) (hm : τ.mem 12 = some (.sem (pmap kv)))
    (hk : ∀ σ' : S, σ'.mem n = some (.sem (pmap kv)) → (∀ t, FineR n (σ.regs t) → σ'.regs t = σ.regs t) → (∀ o x, (o == n) = false → decide (o < 999000000) = true → σ.mem o = some x → FineO n x → σ'.mem o = some x) → K σ' [.omp n, .a (B true)]) : postG vs [2, 3] K .ret τ := by
  have h12 : (12 == upId n) = false := beq_up rfl
  have hf : (τ.mv 12 (upId n)).mem 999999 = some (.frame vs (upF (killR n σ.regs))) := by
    rw [mv_mo (beq_up rfl) rfl, hkp.fr, Option.map_some, mo_frame rfl]
  refine ⟨τ.mv 12 (upId n), g_mv (by decide) (by have := upId_le n; omega), by rw [hf]; rfl, ?_⟩
  have := hk (τ.mv 12 (upId n)).leave (by
      rw [lv_m hn, mv_mb, hm, Option.map_some, mv_sem (by simp [pmap]), Option.map_some]
      rfl) (fun t ht => by rw [lv_r, hf]; exact ht.2) fun o x h1 h4 hx hfo => by
      have hu : (upId o == upId n) = false := by rw [up_up]; exact h1
      rw [lv_m h4, mv_mo hu (up_beq rfl), hkp.ob o x h4 hx, Option.map_some, Option.map_some]
      exact congrArg some (hfo.2.2 12 (by omega))
  simpa [mv_r, h2, h3, mv_omp h12, mv_a, R.down, upId_le, upId_sub] using this
theorem wr_inl {σ : S} {rs : List Kp} {n : Nat} {K : S → List R → Prop} (hn : decide (n < 999000000) = true) (hlen : rs.length ≤ 1000000) (hops : ∀ r ∈ rs, r.ops.length ≤ 1000000)
    (hK : ∀ (σ' : S) (kv : PKv), wrAll rs 0 [] = some kv → σ'.mem n = some (.sem (pmap kv)) → (∀ t, FineR n (σ.regs t) → σ'.regs t = σ.regs t) → (∀ o x, (o == n) = false → decide (o < 999000000) = true → σ.mem o = some x → FineO n x → σ'.mem o = some x) → K σ' [.omp n, .a (B true)])
    (hk' : ∀ σ' : S, wrAll rs 0 [] = none → (∀ t, FineR n (σ.regs t) → σ'.regs t = σ.regs t) → (∀ o x, (o == n) = false → decide (o < 999000000) = true → σ.mem o = some x → FineO n x → σ'.mem o = some x) → K σ' [.a (.d (.mp [])), .a (B false)]) :
    Inl Tryd.prog GL 93 [.a (rowsA rs)] σ K := by
  refine inl_bodyG (by kernel_rfl) Tryd.func93 rfl rfl (by kernel_rfl) (by kernel_rfl) rfl fun vs => ?_
  (refine of_gate ?_; repeat' ((first | (with_reducible refine gate_in ?_) | (with_reducible refine spK_intro ?_ ?_ <;> intro hp) | (with_reducible refine brK_intro ?_ ?_ <;> intro hb <;> try rw [hb]) | (with_reducible refine draw_in (by unfold DrawOk; decide +kernel) ?_)) <;> try simp only [go_sem, simprocAttr, PI, rowsA]))
  refine sem_mkp ?_
  (refine of_gate ?_; repeat' ((first | (with_reducible refine gate_in ?_) | (with_reducible refine spK_intro ?_ ?_ <;> intro hp) | (with_reducible refine brK_intro ?_ ?_ <;> intro hb <;> try rw [hb]) | (with_reducible refine draw_in (by unfold DrawOk; decide +kernel) ?_)) <;> try simp only [go_sem, simprocAttr, PI, rowsA, List.length_map]))
  refine awp_loopG (α := Nat × PKv) (fun a => WrI vs σ rs a.1 a.2) (fun a => rs.length - a.1) (0, []) ⟨_, Ghost.refl _, Nat.zero_le _, rfl, ?_, ?_, ?_, ?_, ?_, ?_, ?_⟩ ?_
  iterate 6 (· simp only [go_sem, simprocAttr, PI, rowsA]; try rfl)
  · intro o x ho hx
    simp only [go_sem, simprocAttr, PI, ho, hx, okill_loT]
  rintro ⟨k, kv⟩ τ hI
  obtain ⟨hk, heq, r13, r14, r15, r4, m12, hkp⟩ := hI
  dsimp only at hk heq r13 r14 r15 r4 m12 ⊢
  have hfr := hkp.fr
  simp only [rowsA] at r13
  by_cases hkl : k < rs.length
  · have hx : rs[k]? = some rs[k] := List.getElem?_eq_getElem hkl
    have hw := wrap_succ (n := rs.length) hkl (by simp only [maxLen]; omega)
    have hdr : rs.drop k = rs[k] :: rs.drop (k + 1) := List.drop_eq_getElem_cons hkl
    (refine of_gate ?_; repeat' ((first | (with_reducible refine gate_in ?_) | (with_reducible refine spK_intro ?_ ?_ <;> intro hp) | (with_reducible refine brK_intro ?_ ?_ <;> intro hb <;> try rw [hb]) | (with_reducible refine draw_in (by unfold DrawOk; decide +kernel) ?_)) <;> try simp only [go_sem, simprocAttr, PI, r13, r14, r15, r4, List.length_map, hx, Kp.row]))
    · refine awp_loopG (α := Nat × PKv) (fun a => WrJ vs σ rs rs[k] k a.1 a.2) (fun a => rs[k].ops.length - a.1) (0, kv) ⟨_, Ghost.refl _, Nat.zero_le _, ?_, ?_, ?_, ?_, ?_, ?_, ?_, ?_, ?_, ?_, ?_, ?_⟩ ?_
      · rw [heq, hdr]; rfl
      iterate 10 (· simp only [go_sem, simprocAttr, PI, r13, rowsA, r14, r15, r4, m12, k_pmap, hfr]; try rfl)
      · intro o x ho hx2
        have := hkp.ob o x ho hx2
        simp only [go_sem, simprocAttr, PI, ho, this, okill_loT]
      rintro ⟨j, kv2⟩ τ2 hJ
      obtain ⟨hj, heq2, r13, r14, r15, r5, r4, r21, r22, r23, m12, hkp2⟩ := hJ
      dsimp only at hj heq2 r13 r14 r15 r5 r4 r21 r22 r23 m12 ⊢
      have hfr2 := hkp2.fr
      have hol := hops rs[k] (List.getElem_mem hkl)
      by_cases hjl : j < rs[k].ops.length
      · have hy : rs[k].ops[j]? = some rs[k].ops[j] := List.getElem?_eq_getElem hjl
        have hwj := wrap_succ (n := rs[k].ops.length) hjl (by simp only [maxLen]; omega)
        have hdj : rs[k].ops.drop j = rs[k].ops[j] :: rs[k].ops.drop (j + 1) := List.drop_eq_getElem_cons hjl
        rw [hdj] at heq2
        simp only [wrOps] at heq2
        generalize rs[k].ops[j] = op at hy heq2
        (refine of_gate ?_; repeat' ((first | (with_reducible refine gate_in ?_) | (with_reducible refine spK_intro ?_ ?_ <;> intro hp) | (with_reducible refine brK_intro ?_ ?_ <;> intro hb <;> try rw [hb]) | (with_reducible refine draw_in (by unfold DrawOk; decide +kernel) ?_)) <;> try simp only [go_sem, simprocAttr, PI, r13, r14, r15, r5, r4, r21, r22, r23, List.length_map, hy, Op.enc_eq, hwj]))
        · have hwo : wrOp k kv2 op = some kv2 := by unfold wrOp; rw [if_pos (by have h9 : (!op.w) = true := ‹_›; simpa using h9)]
          rw [hwo] at heq2
          refine ⟨_, (j + 1, kv2), Ghost.refl _, ⟨by dsimp only; omega, heq2, ?_, ?_, ?_, ?_, ?_, ?_, ?_, ?_, ?_, ?_, ?_⟩, by dsimp only; omega⟩
          iterate 10 (· simp only [go_sem, simprocAttr, PI, r13, r14, r15, r5, r4, r21, r22, hwj, m12, k_pmap, hfr2])
          · intro o x ho hx2
            have := hkp2.ob o x ho hx2
            simp only [go_sem, simprocAttr, PI, ho, this, okill_loT]
        · refine sem_lookp Tryd.underlying84 pair138 zero3 (o := 12) (kv := kv2) (p := (op.var, op.val)) (by simp only [go_sem, simprocAttr, r4]) (by simp only [go_sem, simprocAttr, m12, k_pmap]) (by simp only [go_sem, simprocAttr]) (fun v hv => ?_) (fun hv => ?_)
          · have hwf : op.w = true := by have h9 : (!op.w) = false := ‹_›; simpa using h9
            (refine of_gate ?_; repeat' ((first | (with_reducible refine gate_in ?_) | (with_reducible refine spK_intro ?_ ?_ <;> intro hp) | (with_reducible refine brK_intro ?_ ?_ <;> intro hb <;> try rw [hb]) | (with_reducible refine draw_in (by unfold DrawOk; decide +kernel) ?_)) <;> try simp only [go_sem, simprocAttr, PI, r13, r14, r15, r5, r4, r21, r22, r23, List.length_map, hy, Op.enc_eq, hwj]))
            · have hwo : wrOp k kv2 op = none := by unfold wrOp; rw [if_neg (by rw [hwf]; decide), if_pos (.inr ‹_›)]
              refine wr_end0 (n := n) ⟨by simp only [go_sem, simprocAttr, PI, hfr2], fun o x ho hx2 => ?_⟩ (by simp only [go_sem, simprocAttr, PI]) (by simp only [go_sem, simprocAttr, PI]) (fun σ' a b => hk' σ' (by rw [heq2, hwo]; rfl) a b)
              have := hkp2.ob o x ho hx2
              simp only [go_sem, simprocAttr, PI, ho, this, okill_loT]
            · have hwo : wrOp k kv2 op = some (pSet kv2 (op.var, op.val) k) := by unfold wrOp; rw [if_neg (by rw [hwf]; decide), if_neg (fun h => h.elim (fun ⟨v', h1, h2⟩ => by rw [hv] at h1; cases h1; exact h2 ‹_›) (fun h1 => absurd h1 ‹_›))]
              rw [hwo] at heq2
              refine sem_updp Tryd.underlying84 pair138 (o := 12) (kv := kv2) (p := (op.var, op.val)) (x := k) (by simp only [go_sem, simprocAttr, r4]) (by simp only [go_sem, simprocAttr, m12, k_pmap]) (by simp only [go_sem, simprocAttr]) (by simp only [go_sem, simprocAttr, r5]) ?_
              (refine of_gate ?_; repeat' ((first | (with_reducible refine gate_in ?_) | (with_reducible refine spK_intro ?_ ?_ <;> intro hp) | (with_reducible refine brK_intro ?_ ?_ <;> intro hb <;> try rw [hb]) | (with_reducible refine draw_in (by unfold DrawOk; decide +kernel) ?_)) <;> try simp only [go_sem, simprocAttr, PI, r13, r14, r15, r5, r4, r21, r22, r23, List.length_map, hy, Op.enc_eq, hwj]))
              refine ⟨_, (j + 1, pSet kv2 (op.var, op.val) k), Ghost.refl _, ⟨by dsimp only; omega, heq2, ?_, ?_, ?_, ?_, ?_, ?_, ?_, ?_, ?_, ?_, ?_⟩, by dsimp only; omega⟩
              iterate 10 (· simp only [go_sem, simprocAttr, PI, r13, r14, r15, r5, r4, r21, r22, hwj, k_pmap, hfr2])
              · intro o x ho hx2
                have := hkp2.ob o x ho hx2
                simp only [go_sem, simprocAttr, PI, ho, this, okill_loT]
            · have hwo : wrOp k kv2 op = none := by unfold wrOp; rw [if_neg (by rw [hwf]; decide), if_pos (.inl ⟨v, hv, ‹_›⟩)]
              refine wr_end0 (n := n) ⟨by simp only [go_sem, simprocAttr, PI, hfr2], fun o x ho hx2 => ?_⟩ (by simp only [go_sem, simprocAttr, PI]) (by simp only [go_sem, simprocAttr, PI]) (fun σ' a b => hk' σ' (by rw [heq2, hwo]; rfl) a b)
              have := hkp2.ob o x ho hx2
              simp only [go_sem, simprocAttr, PI, ho, this, okill_loT]
          · have hwf : op.w = true := by have h9 : (!op.w) = false := ‹_›; simpa using h9
            (refine of_gate ?_; repeat' ((first | (with_reducible refine gate_in ?_) | (with_reducible refine spK_intro ?_ ?_ <;> intro hp) | (with_reducible refine brK_intro ?_ ?_ <;> intro hb <;> try rw [hb]) | (with_reducible refine draw_in (by unfold DrawOk; decide +kernel) ?_)) <;> try simp only [go_sem, simprocAttr, PI, r13, r14, r15, r5, r4, r21, r22, r23, List.length_map, hy, Op.enc_eq, hwj]))
            · have hwo : wrOp k kv2 op = none := by unfold wrOp; rw [if_neg (by rw [hwf]; decide), if_pos (.inr ‹_›)]
              refine wr_end0 (n := n) ⟨by simp only [go_sem, simprocAttr, PI, hfr2], fun o x ho hx2 => ?_⟩ (by simp only [go_sem, simprocAttr, PI]) (by simp only [go_sem, simprocAttr, PI]) (fun σ' a b => hk' σ' (by rw [heq2, hwo]; rfl) a b)
              have := hkp2.ob o x ho hx2
              simp only [go_sem, simprocAttr, PI, ho, this, okill_loT]
            · have hwo : wrOp k kv2 op = some (pSet kv2 (op.var, op.val) k) := by unfold wrOp; rw [if_neg (by rw [hwf]; decide), if_neg (fun h => h.elim (fun ⟨v', h1, h2⟩ => by rw [hv] at h1; cases h1) (fun h1 => absurd h1 ‹_›))]
              rw [hwo] at heq2
              refine sem_updp Tryd.underlying84 pair138 (o := 12) (kv := kv2) (p := (op.var, op.val)) (x := k) (by simp only [go_sem, simprocAttr, r4]) (by simp only [go_sem, simprocAttr, m12, k_pmap]) (by simp only [go_sem, simprocAttr]) (by simp only [go_sem, simprocAttr, r5]) ?_
              (refine of_gate ?_; repeat' ((first | (with_reducible refine gate_in ?_) | (with_reducible refine spK_intro ?_ ?_ <;> intro hp) | (with_reducible refine brK_intro ?_ ?_ <;> intro hb <;> try rw [hb]) | (with_reducible refine draw_in (by unfold DrawOk; decide +kernel) ?_)) <;> try simp only [go_sem, simprocAttr, PI, r13, r14, r15, r5, r4, r21, r22, r23, List.length_map, hy, Op.enc_eq, hwj]))
              refine ⟨_, (j + 1, pSet kv2 (op.var, op.val) k), Ghost.refl _, ⟨by dsimp only; omega, heq2, ?_, ?_, ?_, ?_, ?_, ?_, ?_, ?_, ?_, ?_, ?_⟩, by dsimp only; omega⟩
              iterate 10 (· simp only [go_sem, simprocAttr, PI, r13, r14, r15, r5, r4, r21, r22, hwj, k_pmap, hfr2])
              · intro o x ho hx2
                have := hkp2.ob o x ho hx2
                simp only [go_sem, simprocAttr, PI, ho, this, okill_loT]
        · exact absurd ‹_› (by omega)
      · (refine of_gate ?_; repeat' ((first | (with_reducible refine gate_in ?_) | (with_reducible refine spK_intro ?_ ?_ <;> intro hp) | (with_reducible refine brK_intro ?_ ?_ <;> intro hb <;> try rw [hb]) | (with_reducible refine draw_in (by unfold DrawOk; decide +kernel) ?_)) <;> try simp only [go_sem, simprocAttr, PI, r13, r14, r15, r5, r4, r21, r22, r23, List.length_map, hw]))
        · exact absurd ‹_› (by omega)
        · have hd0 : rs[k].ops.drop j = [] := List.drop_eq_nil_of_le (by omega)
          rw [hd0] at heq2
          refine ⟨_, (k + 1, kv2), Ghost.refl _, ⟨by dsimp only; omega, heq2, ?_, ?_, ?_, ?_, ?_, ?_, ?_⟩, by dsimp only; omega⟩
          iterate 6 (· simp only [go_sem, simprocAttr, PI, r13, r14, hw, r4, m12, k_pmap, hfr2])
          · intro o x ho hx2
            have := hkp2.ob o x ho hx2
            simp only [go_sem, simprocAttr, PI, ho, this, okill_loT]
    · exact absurd ‹_› (by omega)
  · (refine of_gate ?_; repeat' ((first | (with_reducible refine gate_in ?_) | (with_reducible refine spK_intro ?_ ?_ <;> intro hp) | (with_reducible refine brK_intro ?_ ?_ <;> intro hb <;> try rw [hb]) | (with_reducible refine draw_in (by unfold DrawOk; decide +kernel) ?_)) <;> try simp only [go_sem, simprocAttr, PI, r13, r14, r15, r4, List.length_map]))
    · exact absurd ‹_› (by omega)
    · have hd0 : rs.drop k = [] := List.drop_eq_nil_of_le (by omega)
      rw [hd0] at heq
      refine wr_end1 (n := n) hn ⟨by simp only [go_sem, simprocAttr, PI, hfr], fun o x ho hx2 => ?_⟩ (by simp only [go_sem, simprocAttr, PI]) (by simp only [go_sem, simprocAttr, PI]) (by simp only [go_sem, simprocAttr, PI, m12]) (fun σ' a b c => hK σ' kv heq a b c)
      have := hkp.ob o x ho hx2
      simp only [go_sem, simprocAttr, PI, ho, this, okill_loT]
end Go.VC
end
section
set_option maxRecDepth 100000
set_option linter.unusedSimpArgs false
set_option linter.unusedVariables false
namespace Go.VC
open Go.RowKit Go.Proofs Go.IntWalk
/-- A row of one's own is laid to rest. -/
theorem g_frz {σ : S} {t o : Nat} {e : TypeId} {z : Nat} {xs : List (List D)} (hr : σ.regs t = .own o) (hm : σ.mem o = some (.log e z xs)) (ho : o < 1000000000) : Ghost σ (σ.frz o fun _ => .sl xs) := fun c β a w hs => ⟨β, by
  have := (rest1_sound hs (r := .own o) (x := .d (.sl xs)) (by rw [← hr]; exact hs.reg t) (by simp [argA, hm]) ho).1
  rwa [show σ.rest1 (.own o) = σ.frz o fun _ => .sl xs by simp [S.rest1, hm]] at this⟩
structure KeepsL (vs : List Value) (σ0 σ : S) : Prop where
  fr : σ.mem 999999 = some (.frame vs (upF σ0.regs))
  ob : ∀ o x, decide (o < 900000000) = true → σ0.mem o = some x → σ.mem (upId o) = some x.up
/-- What a call leaves of its caller, but for the new object n. -/
def LeftL (n : Nat) (σ σ' : S) : Prop := (∀ t, FineR n (σ.regs t) → σ'.regs t = σ.regs t) ∧ ∀ o x, (o == n) = false → decide (o < 900000000) = true → σ.mem o = some x → FineO n x → σ'.mem o = some x
theorem lo9 {o : Nat} (h : decide (o < 900000000) = true) : decide (o < 999000000) = true := by have := of_decide_eq_true h; exact decide_eq_true (by omega)
theorem up9 {o : Nat} (h : decide (o < 900000000) = true) : decide (upId o < 999000000) = true := by have := of_decide_eq_true h; have := upId_eq o; exact decide_eq_true (by omega)
theorem end_keep {vs : List Value} {ts : List Tmp} {σ τ τ' : S} {n : Nat} {K : S → List R → Prop} {rs : List R} (hg : Ghost τ τ') (hkp : KeepsL vs σ τ') (hrs : (ts.map fun t => (τ'.regs t).down) = rs)
    (hk : ∀ σ' : S, LeftL n σ σ' → K σ' rs) : postG vs ts K .ret τ := by
  refine ⟨τ', hg, by rw [hkp.fr]; rfl, ?_⟩
  rw [hrs]
  exact hk τ'.leave ⟨fun t ht => by rw [lv_r, hkp.fr]; exact ht.1, fun o x h1 h4 hx hf => by rw [lv_m (lo9 h4), hkp.ob o x h4 hx]; exact congrArg some hf.1⟩
theorem end_mv {vs : List Value} {ts : List Tmp} {σ τ : S} {n b : Nat} {x : SemOb} {K : S → List R → Prop} {rs : List R} (hn : decide (n < 999000000) = true) (hb : decide (b < 999999) = true) (hx0 : x.os = []) (hkp : KeepsL vs σ τ) (hm : τ.mem b = some (.sem x)) (hrs : (ts.map fun t => ((τ.regs t).mv b (upId n)).down) = rs)
    (hk : ∀ σ' : S, σ'.mem n = some (.sem x) → LeftL n σ σ' → K σ' rs) : postG vs ts K .ret τ := by
  have hb' := of_decide_eq_true hb
  have hb1 : decide (b < 1000000) = true := decide_eq_true (by omega)
  have hf : (τ.mv b (upId n)).mem 999999 = some (.frame vs (upF (killR n σ.regs))) := by
    rw [mv_mo (beq_up rfl) (by simp; omega), hkp.fr, Option.map_some, mo_frame hb1]
  have hsx : ∀ (f : Nat → Nat) y, y.os = x.os.map f → y.p = (fun β st w bv => x.p (fun o => β (f o)) st w bv) → y = x := fun f y h1 h2 => sem_ext (by rw [h1, hx0]; rfl) (by
    rw [h2]; funext β st w bv
    exact propext ⟨fun h => x.dep (fun o ho => by rw [hx0] at ho; cases ho) h, fun h => x.dep (fun o ho => by rw [hx0] at ho; cases ho) h⟩)
  refine ⟨τ.mv b (upId n), g_mv (by omega) (by have := upId_le n; omega), by rw [hf]; rfl, ?_⟩
  rw [show (ts.map fun t => ((τ.mv b (upId n)).regs t).down) = rs from hrs]
  refine hk _ ?_ ⟨fun t ht => by rw [lv_r, hf]; exact ht.2, fun o y h1 h4 hx hfo => ?_⟩
  · rw [lv_m hn, mv_mb, hm, Option.map_some, mv_sem (by rw [hx0]; simp), Option.map_some]
    have hos : (x.mv b (upId n)).os = [] := by simp [SemOb.mv, hx0]
    simp only [Ob.down]
    rw [dif_pos (by rw [hos]; intro o ho; cases ho)]
    congr 2
    exact sem_ext (by simp [SemOb.down, hos, hx0]) (by
      funext β st w bv
      exact propext ⟨fun h => x.dep (fun o ho => by rw [hx0] at ho; cases ho) h, fun h => x.dep (fun o ho => by rw [hx0] at ho; cases ho) h⟩)
  · have hu : (upId o == upId n) = false := by rw [up_up]; exact h1
    rw [lv_m (lo9 h4), mv_mo hu (up_beq hb1), hkp.ob o y h4 hx, Option.map_some, Option.map_some]
    exact congrArg some (hfo.2.2 b (by omega))
theorem okill_up {x : Ob} {o : Nat} {f : Nat → D} (h : o < 1000000) : x.up.frz o f = x.up := by
  cases x with
  | box cs =>
    simp only [Ob.up, Ob.frz, List.map_map]
    congr 1
    exact List.map_congr_left fun r _ => frz_up_lo h
  | log e z xs => rfl
  | mpo kv => rfl
  | iter kv seen => rfl
  | frame vs rs => simp only [Ob.up, Ob.frz]; congr 1; funext t; exact frz_up_lo h
  | sem x =>
    show (if _ then _ else _) = Ob.sem x.up
    rw [show (x.up.os.any fun o' => o' == o) = false from any_up1 h x.os]; rfl
  | lost => rfl
theorem okill_upT {x : Ob} {o : Nat} {f : Nat → D} (h : decide (o < 1000000) = true) : x.up.frz o f = x.up := okill_up (of_decide_eq_true h)
theorem up_up_down (r : R) : r.up.up.down = r.up := by
  cases r with
  | any => rfl
  | a x => rfl
  | cs x => rfl
  | ref o f => simp [R.up, R.down, upId_le, upId_sub]
  | eref o i s j => simp [R.up, R.down, upId_le, upId_sub]
  | own o => simp [R.up, R.down, upId_le, upId_sub]
  | omp o => simp [R.up, R.down, upId_le, upId_sub]
  | clo g caps => simp [R.up, R.down, upId_le, upId_sub, List.map_map, Function.comp_def]
  | tp xs => cases xs <;> rfl
  | agr xs => rfl
  | sem os p => simp [R.up, R.down, upId_le, upId_sub, List.map_map, Function.comp_def]
theorem mv_up_up {q a : Nat} (h : q < 1000000) (ha : a < 1000000) (r : R) : r.up.up.mv a (upId q) = r.up.up := by
  have hk : r.up.up.kill (upId q) = r.up.up := by rw [kill_up_hi, kill_up_lo h]
  unfold R.mv
  split
  · rename_i hs
    unfold R.kill at hk
    rw [if_pos hs] at hk
    exact hk
  · exact mv0_up ha
theorem fineO_up {q : Nat} (h : q < 1000000) (x : Ob) : FineO q x.up := by
  cases x with
  | box cs =>
    refine ⟨?_, ?_, fun a ha => ?_⟩
    · simp only [Ob.up, Ob.down, List.map_map]; congr 1; exact List.map_congr_left fun r _ => up_up_down r
    · simp only [Ob.up, Ob.kill, Ob.down, List.map_map]; congr 1; exact List.map_congr_left fun r _ => by
        show (r.up.up.kill (upId q)).down = r.up
        rw [kill_up_hi, kill_up_lo h]; exact up_up_down r
    · simp only [Ob.up, Ob.mv, Ob.down, List.map_map]; congr 1; exact List.map_congr_left fun r _ => by
        show (r.up.up.mv a (upId q)).down = r.up
        rw [mv_up_up h ha]; exact up_up_down r
  | log e z xs => exact fineO_log
  | mpo kv => exact ⟨rfl, rfl, fun _ _ => rfl⟩
  | iter kv seen => exact ⟨rfl, rfl, fun _ _ => rfl⟩
  | frame vs rs =>
    refine ⟨?_, ?_, fun a ha => ?_⟩
    · simp only [Ob.up, Ob.down]; congr 1; funext t; exact up_up_down _
    · simp only [Ob.up, Ob.kill, Ob.down]; congr 1; funext t
      rw [kill_up_hi, kill_up_lo h]; exact up_up_down _
    · simp only [Ob.up, Ob.mv, Ob.down]; congr 1; funext t
      rw [mv_up_up h ha]; exact up_up_down _
  | sem x =>
    refine fineO_sem (x := x.up) fun hq => ?_
    obtain ⟨o, _, e⟩ := List.mem_map.1 hq
    have := upId_le o
    omega
  | lost => exact ⟨rfl, rfl, fun _ _ => rfl⟩
theorem fineO_fr {q : Nat} (h : q < 1000000) (vs : List Value) (rg : Nat → R) : FineO q (.frame vs (upF rg)) := fineO_up h (.frame vs rg)
theorem tab_rows {h : List Ev} (h0 : checkE h = 0) : (A.d (.sl (tabD h))) = rowsA (tabAt h h.length) := by unfold tabD rowsA; rw [if_pos h0]
theorem look_inl {σ : S} {h : List Ev} {n : Nat} {K : S → List R → Prop} (hn : decide (n < 999000000) = true)
    (hK : ∀ (σ' : S) (kv : PKv), checkE h = 0 → wrAll (tabAt h h.length) 0 [] = some kv → σ'.mem n = some (.sem (pmap kv)) → LeftL n σ σ' → K σ' [.a (rowsA (tabAt h h.length)), .omp n, .a (I 0)])
    (hK' : ∀ (σ' : S) (e : Int), ((checkE h ≠ 0 ∧ e = checkE h) ∨ (checkE h = 0 ∧ wrAll (tabAt h h.length) 0 [] = none ∧ e = 9)) → LeftL n σ σ' → K σ' [.a (.d (.sl [])), .a (.d (.mp [])), .a (I e)]) :
    Inl Tryd.prog GL 61 [.a (evsA h)] σ K := by
  refine inl_bodyG (by kernel_rfl) Tryd.func61 rfl rfl (by kernel_rfl) (by kernel_rfl) rfl fun vs => ?_
  (refine of_gate ?_; repeat' ((first | (with_reducible refine gate_in ?_) | (with_reducible refine spK_intro ?_ ?_ <;> intro hp) | (with_reducible refine brK_intro ?_ ?_ <;> intro hb <;> try rw [hb]) | (with_reducible refine draw_in (by unfold DrawOk; decide +kernel) ?_)) <;> try simp only [go_sem, simprocAttr, PI]))
  refine call_dat (t56 h) ?_
  (refine of_gate ?_; repeat' ((first | (with_reducible refine gate_in ?_) | (with_reducible refine spK_intro ?_ ?_ <;> intro hp) | (with_reducible refine brK_intro ?_ ?_ <;> intro hb <;> try rw [hb]) | (with_reducible refine draw_in (by unfold DrawOk; decide +kernel) ?_)) <;> try simp only [go_sem, simprocAttr, PI]))
  · have h0 : checkE h = 0 := ‹_›
    have h60 : h.length ≤ 60 := by
      rcases Nat.lt_or_ge 60 h.length with h1 | h1
      · exfalso
        have : rightH h = false := by simp [rightH]; omega
        simp [checkE, this] at h0
      · exact h1
    have hl := tab_len (h := h) h.length
    rw [tab_rows h0]
    refine call_inl (wr_inl (n := 900000) rfl (by omega) (fun r hr => by have := tab_ops _ r hr; omega) (fun σ2 kv hw hm hR hO => ?_) (fun σ2 hw hR hO => ?_))
    · skip
      have e5 := hR 5 (by simp only [go_sem, simprocAttr]; exact fineR_a)
      simp only [go_sem, simprocAttr] at e5
      have efr := hO 999999 (.frame vs (upF σ.regs)) rfl rfl (by simp only [go_sem, simprocAttr, PI]) (fineO_fr (by decide) _ _)
      have eob : ∀ o x, decide (o < 900000000) = true → σ.mem o = some x → σ2.mem (upId o) = some x.up := fun o x ho hx => hO (upId o) x.up (up_beq rfl) (up9 ho) (by have ho := lo9 ho; simp only [go_sem, simprocAttr, PI, ho, hx, okill_loT]) (fineO_up (by decide) x)
      (refine of_gate ?_; repeat' ((first | (with_reducible refine gate_in ?_) | (with_reducible refine spK_intro ?_ ?_ <;> intro hp) | (with_reducible refine brK_intro ?_ ?_ <;> intro hb <;> try rw [hb]) | (with_reducible refine draw_in (by unfold DrawOk; decide +kernel) ?_)) <;> try simp only [go_sem, simprocAttr, PI, one, e5]))
      refine end_mv (n := n) (b := 900000) (x := pmap kv) hn rfl rfl ⟨by simp only [go_sem, simprocAttr, PI, efr], fun o x ho hx => by have := eob o x ho hx; have ho := lo9 ho; simp only [go_sem, simprocAttr, PI, ho, this, okill_loT]⟩ (by simp only [go_sem, simprocAttr, PI, hm]) ?_ (fun σ' a b => hK σ' kv h0 hw a b)
      have h9 : (900000 == upId n) = false := beq_up rfl
      simp only [go_sem, simprocAttr, PI, mv_a, mv_omp h9, R.down, rowsA]
      simp [upId_le, upId_sub]
    · skip
      have e5 := hR 5 (by simp only [go_sem, simprocAttr]; exact fineR_a)
      simp only [go_sem, simprocAttr] at e5
      have efr := hO 999999 (.frame vs (upF σ.regs)) rfl rfl (by simp only [go_sem, simprocAttr, PI]) (fineO_fr (by decide) _ _)
      have eob : ∀ o x, decide (o < 900000000) = true → σ.mem o = some x → σ2.mem (upId o) = some x.up := fun o x ho hx => hO (upId o) x.up (up_beq rfl) (up9 ho) (by have ho := lo9 ho; simp only [go_sem, simprocAttr, PI, ho, hx, okill_loT]) (fineO_up (by decide) x)
      (refine of_gate ?_; repeat' ((first | (with_reducible refine gate_in ?_) | (with_reducible refine spK_intro ?_ ?_ <;> intro hp) | (with_reducible refine brK_intro ?_ ?_ <;> intro hb <;> try rw [hb]) | (with_reducible refine draw_in (by unfold DrawOk; decide +kernel) ?_)) <;> try simp only [go_sem, simprocAttr, PI, one, e5]))
      refine end_keep (n := n) (rs := [.a (.d (.sl [])), .a (.d (.mp [])), .a (I 9)]) (g_frz (t := 2) (o := 2) (e := 83) (z := 5) (xs := []) (by simp only [go_sem, simprocAttr, PI]) (by simp only [go_sem, simprocAttr, PI]) (by decide)) ⟨by simp only [go_sem, simprocAttr, PI, efr], fun o x ho hx => by have := eob o x ho hx; have ho := lo9 ho; simp only [go_sem, simprocAttr, PI, ho, this, okill_loT, okill_upT]⟩ (by simp only [go_sem, simprocAttr, PI, R.down]) (fun σ' a => hK' σ' _ (.inr ⟨h0, hw, rfl⟩) a)
  · refine end_keep (n := n) (rs := [.a (.d (.sl [])), .a (.d (.mp [])), .a (I (checkE h))]) (g_frz (t := 2) (o := 2) (e := 83) (z := 5) (xs := []) (by simp only [go_sem, simprocAttr, PI]) (by simp only [go_sem, simprocAttr, PI]) (by decide)) ⟨by simp only [go_sem, simprocAttr, PI], fun o x ho hx => by have ho := lo9 ho; simp only [go_sem, simprocAttr, PI, ho, hx, okill_loT, okill_upT]⟩ (by simp only [go_sem, simprocAttr, PI, R.down]) (fun σ' a => hK' σ' _ (.inl ⟨‹_›, rfl⟩) a)
end Go.VC
end
section
set_option maxRecDepth 100000
set_option linter.unusedSimpArgs false
set_option linter.unusedVariables false
namespace Go.VC
open Go.RowKit Go.Proofs Go.IntWalk
def srcOf (kv : PKv) (i : Int) (o : Op) : Int := if o.val = 0 then -1 else match pGet kv (o.var, o.val) with
  | some v => if v = i then -2 else v
  | none => -2
theorem source_inl {σ : S} {n m : Nat} {kv : PKv} {i : Int} {op : Op} {K : S → List R → Prop} (hn : decide (n < 999000000) = true) (hm : σ.mem n = some (.sem (pmap kv)))
    (hK : ∀ σ' : S, LeftL m σ σ' → K σ' [.a (I (srcOf kv i op))]) : Inl Tryd.prog GL 62 [.omp n, .a (I i), .a (.ag op.enc)] σ K := by
  refine inl_bodyG (by kernel_rfl) Tryd.func62 rfl rfl (by kernel_rfl) (by kernel_rfl) rfl fun vs => ?_
  have hO : decide (upId n < 1000000000) = true := up_lt hn
  (refine of_gate ?_; repeat' ((first | (with_reducible refine gate_in ?_) | (with_reducible refine spK_intro ?_ ?_ <;> intro hp) | (with_reducible refine brK_intro ?_ ?_ <;> intro hb <;> try rw [hb]) | (with_reducible refine draw_in (by unfold DrawOk; decide +kernel) ?_)) <;> try simp only [go_sem, simprocAttr, PI, Op.enc_eq, hn, hO, hm]))
  · refine end_keep (n := m) (rs := [.a (I (srcOf kv i op))]) (Ghost.refl _) ⟨by simp only [go_sem, simprocAttr, PI], fun o x ho hx => by have ho := lo9 ho; simp only [go_sem, simprocAttr, PI, ho, hx, okill_loT]⟩ (by simp only [go_sem, simprocAttr, PI, R.down]; simp [srcOf, *]) hK
  refine sem_lookp Tryd.underlying84 pair138 zero3 (o := upId n) (kv := kv) (p := (op.var, op.val)) (by simp only [go_sem, simprocAttr, PI]) (by simp only [go_sem, simprocAttr, PI, hn, hm]; rfl) (by simp only [go_sem, simprocAttr, PI]) (fun v hv => ?_) (fun hv => ?_)
  · (refine of_gate ?_; repeat' ((first | (with_reducible refine gate_in ?_) | (with_reducible refine spK_intro ?_ ?_ <;> intro hp) | (with_reducible refine brK_intro ?_ ?_ <;> intro hb <;> try rw [hb]) | (with_reducible refine draw_in (by unfold DrawOk; decide +kernel) ?_)) <;> try simp only [go_sem, simprocAttr, PI, Op.enc_eq, hn, hO, hm]))
    all_goals refine end_keep (n := m) (rs := [.a (I (srcOf kv i op))]) (Ghost.refl _) ⟨by simp only [go_sem, simprocAttr, PI], fun o x ho hx => by have ho := lo9 ho; simp only [go_sem, simprocAttr, PI, ho, hx, okill_loT]⟩ (by simp only [go_sem, simprocAttr, PI, R.down]; simp [srcOf, *]) hK
  · (refine of_gate ?_; repeat' ((first | (with_reducible refine gate_in ?_) | (with_reducible refine spK_intro ?_ ?_ <;> intro hp) | (with_reducible refine brK_intro ?_ ?_ <;> intro hb <;> try rw [hb]) | (with_reducible refine draw_in (by unfold DrawOk; decide +kernel) ?_)) <;> try simp only [go_sem, simprocAttr, PI, Op.enc_eq, hn, hO, hm]))
    all_goals refine end_keep (n := m) (rs := [.a (I (srcOf kv i op))]) (Ghost.refl _) ⟨by simp only [go_sem, simprocAttr, PI], fun o x ho hx => by have ho := lo9 ho; simp only [go_sem, simprocAttr, PI, ho, hx, okill_loT]⟩ (by simp only [go_sem, simprocAttr, PI, R.down]; simp [srcOf, *]) hK
end Go.VC
end
section
set_option maxRecDepth 100000
set_option linter.unusedSimpArgs false
set_option linter.unusedVariables false
namespace Go.VC
open Go.RowKit Go.Proofs Go.IntWalk
def encB (l : List (Int × Bool)) : List (Int × D) := l.map fun p => (p.1, dB p.2)
theorem kvg_bool (l : List (Int × Bool)) (n : Int) : (kvGet (encB l) n).getD (.v (.bool false)) = .v (.bool ((assoc l n).getD false)) := by
  rw [encB, kvGet_map dB]; cases assoc l n <;> rfl
theorem kvs_bool (l : List (Int × Bool)) (n : Int) (y : Bool) : kvSet (encB l) n (.v (.bool y)) = encB (assocSet l n y) := kvSet_map dB n y l
theorem assoc_self {α : Type} (n : Int) (y : α) : ∀ l : List (Int × α), assoc (assocSet l n y) n = some y
  | [] => by simp [assocSet, assoc]
  | (k, x) :: l => by
    simp only [assocSet]
    split
    · simp [assoc, *]
    · simp [assoc, *, assoc_self n y l]
/-- Whose writes a transaction's operations read or are: behind a variable's first own write, its own. -/
def srcRow (kv : PKv) (i : Int) : List Op → List (Int × Bool) → List Int
  | [], _ => []
  | o :: os, own => (if (assoc own o.var).getD false || o.w then i else srcOf kv i o) :: srcRow kv i os (assocSet own o.var ((assoc own o.var).getD false || o.w))
def srcRows (kv : PKv) : List Kp → Int → List (List Int)
  | [], _ => []
  | r :: rs, i => srcRow kv i r.ops [] :: srcRows kv rs (i + 1)
def intRow (l : List Int) : List D := [.sl (l.map fun n => [dI n])]
/-- What Sources answers. -/
def sourcesE (h : List Ev) : Int := if checkE h = 0 then (if (wrAll (tabAt h h.length) 0 []).isNone then 9 else 0) else checkE h
def sourcesR (h : List Ev) : List (List Int) := if checkE h = 0 then (match wrAll (tabAt h h.length) 0 [] with
  | some kv => srcRows kv (tabAt h h.length) 0
  | none => []) else []
theorem encB_nil : encB [] = [] := rfl
theorem f_pmap {kv : PKv} {o : Nat} {f : Nat → D} : Ob.frz o f (.sem (pmap kv)) = .sem (pmap kv) := rfl
theorem left_r {n t : Nat} {σ σ' : S} {r : R} (h : LeftL n σ σ') (hr : σ.regs t = r) (hf : FineR n r) : σ'.regs t = r := by
  have := h.1 t (by rw [hr]; exact hf)
  rw [this, hr]
theorem left_m {n o : Nat} {σ σ' : S} {x : Ob} (h : LeftL n σ σ') (hm : σ.mem o = some x) (hf : FineO n x) (h1 : (o == n) = false) (h2 : decide (o < 900000000) = true) : σ'.mem o = some x := h.2 o x h1 h2 hm hf
theorem fineO_mpo {q : Nat} {kv : List (Int × D)} : FineO q (.mpo kv) := ⟨rfl, rfl, fun _ _ => rfl⟩
theorem fineO_pmap {q : Nat} {kv : PKv} : FineO q (.sem (pmap kv)) := fineO_sem (by simp [pmap])
structure SoI (rs : List Kp) (kv : PKv) (k : Nat) (σ : S) : Prop where
  le : k ≤ rs.length
  r5 : σ.regs 5 = .omp 800000
  r7 : σ.regs 7 = .own 7
  r23 : σ.regs 23 = .a (rowsA rs)
  r24 : σ.regs 24 = .a (I rs.length)
  r25 : σ.regs 25 = .a (I k)
  m8 : σ.mem 800000 = some (.sem (pmap kv))
  m7 : ∃ done : List (List Int), σ.mem 7 = some (.log 30 1 (done.map intRow)) ∧ done.length = k ∧ srcRows kv rs 0 = done ++ srcRows kv (rs.drop k) k
/-- The inner loop: what own holds of the operations ahead, what is told of them. -/
structure SoJ (rs : List Kp) (kv : PKv) (r : Kp) (k j : Nat) (done : List (List Int)) (σ : S) : Prop where
  le : j ≤ r.ops.length
  r5 : σ.regs 5 = .omp 800000
  r7 : σ.regs 7 = .own 7
  r23 : σ.regs 23 = .a (rowsA rs)
  r24 : σ.regs 24 = .a (I rs.length)
  r25 : σ.regs 25 = .a (I k)
  r8 : σ.regs 8 = .a (I k)
  r10 : σ.regs 10 = .own 10
  r11 : σ.regs 11 = .omp 30
  r32 : σ.regs 32 = .a (.d (.sl (r.ops.map Op.enc)))
  r33 : σ.regs 33 = .a (I r.ops.length)
  r34 : σ.regs 34 = .a (I j)
  m8 : σ.mem 800000 = some (.sem (pmap kv))
  m7 : σ.mem 7 = some (.log 30 1 (done.map intRow))
  m : ∃ (own : List (Int × Bool)) (out : List Int), σ.mem 30 = some (.mpo (encB own)) ∧ σ.mem 10 = some (.log 3 1 (out.map fun n => [dI n])) ∧ out.length = j ∧ srcRow kv k r.ops [] = out ++ srcRow kv k (r.ops.drop j) own
theorem t28 (h : List Ev) : Holds Tryd.prog GL 28 [evsA h] [.a (.d (.sl ((sourcesR h).map intRow))), .a (I (sourcesE h))] := by
  refine fn_holds (vs := [.tmp 2, .tmp 3]) (by kernel_rfl) Tryd.func28 rfl rfl (by kernel_rfl) (by kernel_rfl) rfl ?_
  (refine of_gate ?_; repeat' ((first | (with_reducible refine gate_in ?_) | (with_reducible refine spK_intro ?_ ?_ <;> intro hp) | (with_reducible refine brK_intro ?_ ?_ <;> intro hb <;> try rw [hb]) | (with_reducible refine draw_in (by unfold DrawOk; decide +kernel) ?_)) <;> try simp only [go_sem, simprocAttr]))
  refine call_inl (look_inl (n := 800000) rfl (fun σ2 kv h0 hw hm hL => ?_) (fun σ2 e he hL => ?_))
  · have hl := tab_len (h := h) h.length
    have h60 := check60 h0
    (refine of_gate ?_; repeat' ((first | (with_reducible refine gate_in ?_) | (with_reducible refine spK_intro ?_ ?_ <;> intro hp) | (with_reducible refine brK_intro ?_ ?_ <;> intro hb <;> try rw [hb]) | (with_reducible refine draw_in (by unfold DrawOk; decide +kernel) ?_)) <;> try simp only [go_sem, simprocAttr, one, rowsA, List.length_map]))
    refine awp_loopG (fun k => SoI (tabAt h h.length) kv k) (fun k => (tabAt h h.length).length - k) 0 ⟨_, Ghost.refl _, Nat.zero_le _, ?_, ?_, ?_, ?_, ?_, ?_, ⟨[], ?_, rfl, rfl⟩⟩ ?_
    iterate 7 (· simp only [go_sem, simprocAttr, rowsA, hm, k_pmap]; try rfl)
    intro k σ hI
    obtain ⟨hk, r5, r7, r23, r24, r25, m8, done, m7, hdl, hdone⟩ := hI
    simp only [rowsA] at r23
    by_cases hkl : k < (tabAt h h.length).length
    · have hx : (tabAt h h.length)[k]? = some (tabAt h h.length)[k] := List.getElem?_eq_getElem hkl
      have hw1 := wrap_succ (n := (tabAt h h.length).length) hkl (by simp only [maxLen]; omega)
      have hdr : (tabAt h h.length).drop k = (tabAt h h.length)[k] :: (tabAt h h.length).drop (k + 1) := List.drop_eq_getElem_cons hkl
      have hol := tab_ops (h := h) h.length _ (List.getElem_mem hkl)
      (refine of_gate ?_; repeat' ((first | (with_reducible refine gate_in ?_) | (with_reducible refine spK_intro ?_ ?_ <;> intro hp) | (with_reducible refine brK_intro ?_ ?_ <;> intro hb <;> try rw [hb]) | (with_reducible refine draw_in (by unfold DrawOk; decide +kernel) ?_)) <;> try simp only [go_sem, simprocAttr, r5, r7, r23, r24, r25, m7, m8, hx, Kp.row, List.length_map]))
      · refine awp_loopG (fun j => SoJ (tabAt h h.length) kv (tabAt h h.length)[k] k j done) (fun j => (tabAt h h.length)[k].ops.length - j) 0 ⟨_, Ghost.refl _, Nat.zero_le _, ?_, ?_, ?_, ?_, ?_, ?_, ?_, ?_, ?_, ?_, ?_, ?_, ?_, ⟨[], [], ?_, ?_, rfl, rfl⟩⟩ ?_
        iterate 15 (· simp only [go_sem, simprocAttr, r5, r7, r23, rowsA, r24, r25, m8, k_pmap, m7, encB_nil]; try rfl)
        intro j τ hJ
        obtain ⟨hj, r5, r7, r23, r24, r25, r8, r10, r11, r32, r33, r34, m8, m7, own, out, m30, m10, hol2, hout⟩ := hJ
        simp only [rowsA] at r23
        by_cases hjl : j < (tabAt h h.length)[k].ops.length
        · have hy : (tabAt h h.length)[k].ops[j]? = some (tabAt h h.length)[k].ops[j] := List.getElem?_eq_getElem hjl
          have hwj := wrap_succ (n := (tabAt h h.length)[k].ops.length) hjl (by simp only [maxLen]; omega)
          have hdj : (tabAt h h.length)[k].ops.drop j = (tabAt h h.length)[k].ops[j] :: (tabAt h h.length)[k].ops.drop (j + 1) := List.drop_eq_getElem_cons hjl
          rw [hdj] at hout
          generalize (tabAt h h.length)[k].ops[j] = op at hy hout
          have hg : ∀ b, (assoc (assocSet own op.var b) op.var).getD false = b := fun b => by rw [assoc_self]; rfl
          have hbb : ((assoc own op.var).getD false || op.w) = true ∨ ((assoc own op.var).getD false = false ∧ op.w = false) := by
            cases (assoc own op.var).getD false <;> cases op.w <;> simp
          rcases hbb with hbb | ⟨hb0, hw0⟩
          · by_cases hb0 : (assoc own op.var).getD false = true
            · (refine of_gate ?_; repeat' ((first | (with_reducible refine gate_in ?_) | (with_reducible refine spK_intro ?_ ?_ <;> intro hp) | (with_reducible refine brK_intro ?_ ?_ <;> intro hb <;> try rw [hb]) | (with_reducible refine draw_in (by unfold DrawOk; decide +kernel) ?_)) <;> try simp only [go_sem, simprocAttr, r5, r7, r23, r24, r25, r8, r10, r11, r32, r33, r34, m8, m7, m30, m10, hy, Op.enc_eq, hwj, List.length_map, kvg_bool, kvs_bool, hb0, hg]))
              rotate_left
              · exact absurd ‹_› (by omega)
              refine ⟨by omega, _, j + 1, Ghost.refl _, ⟨by omega, ?_, ?_, ?_, ?_, ?_, ?_, ?_, ?_, ?_, ?_, ?_, ?_, ?_, ⟨assocSet own op.var true, out ++ [(k : Int)], ?_, ?_, by simp [hol2], ?_⟩⟩, by omega⟩
              iterate 15 (· simp only [go_sem, simprocAttr, r5, r7, r23, rowsA, r24, r25, r8, r11, r32, r33, hwj, m8, k_pmap, m7, List.map_append]; try rfl)
              · rw [hout]; simp only [srcRow, hbb, List.append_assoc]; rfl

            · simp only [Bool.not_eq_true] at hb0
              have hw1 : op.w = true := by simpa [hb0] using hbb
              (refine of_gate ?_; repeat' ((first | (with_reducible refine gate_in ?_) | (with_reducible refine spK_intro ?_ ?_ <;> intro hp) | (with_reducible refine brK_intro ?_ ?_ <;> intro hb <;> try rw [hb]) | (with_reducible refine draw_in (by unfold DrawOk; decide +kernel) ?_)) <;> try simp only [go_sem, simprocAttr, r5, r7, r23, r24, r25, r8, r10, r11, r32, r33, r34, m8, m7, m30, m10, hy, Op.enc_eq, hwj, List.length_map, kvg_bool, kvs_bool, hb0, hg, hw1]))
              rotate_left
              · exact absurd ‹_› (by omega)
              refine ⟨by omega, _, j + 1, Ghost.refl _, ⟨by omega, ?_, ?_, ?_, ?_, ?_, ?_, ?_, ?_, ?_, ?_, ?_, ?_, ?_, ⟨assocSet own op.var true, out ++ [(k : Int)], ?_, ?_, by simp [hol2], ?_⟩⟩, by omega⟩
              iterate 15 (· simp only [go_sem, simprocAttr, r5, r7, r23, rowsA, r24, r25, r8, r11, r32, r33, hwj, m8, k_pmap, m7, List.map_append]; try rfl)
              · rw [hout]; simp only [srcRow, hbb, List.append_assoc]; rfl

          · have hbb : ((assoc own op.var).getD false || op.w) = false := by rw [hb0, hw0]; rfl
            (refine of_gate ?_; repeat' ((first | (with_reducible refine gate_in ?_) | (with_reducible refine spK_intro ?_ ?_ <;> intro hp) | (with_reducible refine brK_intro ?_ ?_ <;> intro hb <;> try rw [hb]) | (with_reducible refine draw_in (by unfold DrawOk; decide +kernel) ?_)) <;> try simp only [go_sem, simprocAttr, r5, r7, r23, r24, r25, r8, r10, r11, r32, r33, r34, m8, m7, m30, m10, hy, Op.enc_eq, hwj, List.length_map, kvg_bool, kvs_bool, hb0, hg, hw0]))
            rotate_left
            · exact absurd ‹_› (by omega)
            have he : [dB false, dI op.var, dI op.val] = op.enc := by rw [Op.enc_eq, hw0]
            rw [he]
            refine call_inl (source_inl (n := 800000) (m := 899999) (kv := kv) (i := k) (op := op) rfl (by simp only [go_sem, simprocAttr, m8, k_pmap]) (fun τ2 hL2 => ?_))
            have e5 := left_r hL2 (t := 5) (r := .omp 800000) (by simp only [go_sem, simprocAttr, r5]) (fineR_omp rfl)
            have e7 := left_r hL2 (t := 7) (r := .own 7) (by simp only [go_sem, simprocAttr, r7]) (fineR_own rfl)
            have e8 := left_r hL2 (t := 8) (r := .a (I k)) (by simp only [go_sem, simprocAttr, r8]) fineR_a
            have e10 := left_r hL2 (t := 10) (r := .own 10) (by simp only [go_sem, simprocAttr, r10]) (fineR_own rfl)
            have e11 := left_r hL2 (t := 11) (r := .omp 30) (by simp only [go_sem, simprocAttr, r11]) (fineR_omp rfl)
            have e23 := left_r hL2 (t := 23) (r := .a (.d (.sl ((tabAt h h.length).map Kp.row)))) (by simp only [go_sem, simprocAttr, r23]) fineR_a
            have e24 := left_r hL2 (t := 24) (r := .a (I (tabAt h h.length).length)) (by simp only [go_sem, simprocAttr, r24]) fineR_a
            have e25 := left_r hL2 (t := 25) (r := .a (I k)) (by simp only [go_sem, simprocAttr, r25]) fineR_a
            have e32 := left_r hL2 (t := 32) (r := .a (.d (.sl ((tabAt h h.length)[k].ops.map Op.enc)))) (by simp only [go_sem, simprocAttr, r32]) fineR_a
            have e33 := left_r hL2 (t := 33) (r := .a (I (tabAt h h.length)[k].ops.length)) (by simp only [go_sem, simprocAttr, r33]) fineR_a
            have e34 := left_r hL2 (t := 34) (r := .a (I j)) (by simp only [go_sem, simprocAttr, r34]) fineR_a
            have e57 := left_r hL2 (t := 57) (r := .own 10) (by simp only [go_sem, simprocAttr, r10]) (fineR_own rfl)
            have q800000 := left_m hL2 (o := 800000) (x := .sem (pmap kv)) (by simp only [go_sem, simprocAttr, m8, m7, m30, m10, k_pmap]) fineO_pmap rfl rfl
            have q7 := left_m hL2 (o := 7) (x := .log 30 1 (done.map intRow)) (by simp only [go_sem, simprocAttr, m8, m7, m30, m10, k_pmap]) fineO_log rfl rfl
            have q30 := left_m hL2 (o := 30) (x := .mpo (encB (assocSet own op.var false))) (by simp only [go_sem, simprocAttr, m30, kvs_bool]) fineO_mpo rfl rfl
            have q10 := left_m hL2 (o := 10) (x := .log 3 1 (out.map fun n => [dI n])) (by simp only [go_sem, simprocAttr, m8, m7, m30, m10, k_pmap]) fineO_log rfl rfl
            (refine of_gate ?_; repeat' ((first | (with_reducible refine gate_in ?_) | (with_reducible refine spK_intro ?_ ?_ <;> intro hp) | (with_reducible refine brK_intro ?_ ?_ <;> intro hb <;> try rw [hb]) | (with_reducible refine draw_in (by unfold DrawOk; decide +kernel) ?_)) <;> try simp only [go_sem, simprocAttr, one, e5, e7, e8, e10, e11, e23, e24, e25, e32, e33, e34, e57, q800000, q7, q30, q10]))
            refine ⟨by rw [List.length_map]; omega, _, j + 1, Ghost.refl _, ⟨by omega, ?_, ?_, ?_, ?_, ?_, ?_, ?_, ?_, ?_, ?_, ?_, ?_, ?_, ⟨assocSet own op.var false, out ++ [srcOf kv k op], ?_, ?_, by simp [hol2], ?_⟩⟩, by omega⟩
            iterate 15 (· simp only [go_sem, simprocAttr, e5, e7, e23, rowsA, e24, e25, e8, e11, e32, e33, hwj, q800000, k_pmap, q7, q30, List.map_append]; try rfl)
            · rw [hout]; simp only [srcRow, hbb, List.append_assoc]; rfl
        · (refine of_gate ?_; repeat' ((first | (with_reducible refine gate_in ?_) | (with_reducible refine spK_intro ?_ ?_ <;> intro hp) | (with_reducible refine brK_intro ?_ ?_ <;> intro hb <;> try rw [hb]) | (with_reducible refine draw_in (by unfold DrawOk; decide +kernel) ?_)) <;> try simp only [go_sem, simprocAttr, r5, r7, r23, r24, r25, r8, r10, r11, r32, r33, r34, m8, m7, m30, m10, Op.enc_eq, List.length_map]))
          · exact absurd ‹_› (by omega)
          · have hd0 : (tabAt h h.length)[k].ops.drop j = [] := List.drop_eq_nil_of_le (by omega)
            rw [hd0] at hout
            simp only [srcRow, List.append_nil] at hout
            refine ⟨by omega, _, k + 1, Ghost.refl _, ⟨by omega, ?_, ?_, ?_, ?_, ?_, ?_, ⟨done ++ [out], ?_, by simp [hdl], ?_⟩⟩, by omega⟩
            iterate 7 (· simp only [go_sem, simprocAttr, r5, r7, r23, rowsA, r24, hw1, m8, f_pmap, k_pmap, List.map_append]; try rfl)
            · rw [hdone, hdr]; simp only [srcRows, hout, List.append_assoc]; rfl
      · exact absurd ‹_› (by omega)
    · (refine of_gate ?_; repeat' ((first | (with_reducible refine gate_in ?_) | (with_reducible refine spK_intro ?_ ?_ <;> intro hp) | (with_reducible refine brK_intro ?_ ?_ <;> intro hb <;> try rw [hb]) | (with_reducible refine draw_in (by unfold DrawOk; decide +kernel) ?_)) <;> try simp only [go_sem, simprocAttr, r5, r7, r23, r24, r25, m7, m8, List.length_map]))
      · exact absurd ‹_› (by omega)
      · have hd0 : (tabAt h h.length).drop k = [] := List.drop_eq_nil_of_le (by omega)
        rw [hd0] at hdone
        simp only [srcRows, List.append_nil] at hdone
        unfold sourcesR sourcesE
        simp [h0, hw, hdone]
  · have hne : ¬ e = 0 := by
      rcases he with ⟨h0, rfl⟩ | ⟨h0, hw, rfl⟩
      · exact h0
      · decide
    (refine of_gate ?_; repeat' ((first | (with_reducible refine gate_in ?_) | (with_reducible refine spK_intro ?_ ?_ <;> intro hp) | (with_reducible refine brK_intro ?_ ?_ <;> intro hb <;> try rw [hb]) | (with_reducible refine draw_in (by unfold DrawOk; decide +kernel) ?_)) <;> try simp only [go_sem, simprocAttr, one]))
    · exact absurd ‹e = 0› hne
    · unfold sourcesR sourcesE
      rcases he with ⟨h0, rfl⟩ | ⟨h0, hw, rfl⟩
      · simp [h0]
      · simp [h0, hw]
end Go.VC
end
section
set_option linter.unusedSimpArgs false
set_option linter.unusedVariables false
namespace Go.VC
open Go.RowKit Go.Proofs Go.IntWalk
/-- A transaction of a table writes a value of a variable. -/
def Wr (rs : List Kp) (i : Nat) (p : Int × Int) : Prop := ∃ r o, rs[i]? = some r ∧ o ∈ r.ops ∧ o.w = true ∧ (o.var, o.val) = p
def KvIs (kv : PKv) (W : Nat → Int × Int → Prop) : Prop := ∀ p v, pGet kv p = some v ↔ ∃ j : Nat, v = (j : Int) ∧ W j p
def OkW (W : Nat → Int × Int → Prop) : Prop := ∀ j p, W j p → p.2 ≠ 0
def BadW (W : Nat → Int × Int → Prop) : Prop := (∃ j p, W j p ∧ p.2 = 0) ∨ ∃ j j' p, W j p ∧ W j' p ∧ j ≠ j'
theorem pGet_set (q p : Int × Int) (x : Int) : ∀ kv : PKv, pGet (pSet kv p x) q = if q = p then some x else pGet kv q
  | [] => by simp only [pSet, pGet]; split <;> split <;> simp_all
  | (k, y) :: kv => by
    simp only [pSet]
    split
    · rename_i hk; subst hk
      simp only [pGet]
      split <;> split <;> simp_all
    · simp only [pGet, pGet_set q p x kv]
      split <;> split <;> simp_all
theorem wrOp_ok {i : Nat} {kv : PKv} {o : Op} {W : Nat → Int × Int → Prop} (hk : KvIs kv W) (hz : OkW W) :
    (∀ kv', wrOp i kv o = some kv' → KvIs kv' (fun j p => W j p ∨ (j = i ∧ o.w = true ∧ (o.var, o.val) = p)) ∧ OkW (fun j p => W j p ∨ (j = i ∧ o.w = true ∧ (o.var, o.val) = p))) ∧
    (wrOp i kv o = none → BadW (fun j p => W j p ∨ (j = i ∧ o.w = true ∧ (o.var, o.val) = p))) := by
  unfold wrOp
  by_cases hw : o.w = false
  · rw [if_pos hw]
    have e : (fun j p => W j p ∨ (j = i ∧ o.w = true ∧ (o.var, o.val) = p)) = W := by funext j p; simp [hw]
    rw [e]
    exact ⟨fun kv' h => by cases h; exact ⟨hk, hz⟩, fun h => by cases h⟩
  · have hw' : o.w = true := by simpa using hw
    rw [if_neg hw]
    by_cases hc : (∃ v, pGet kv (o.var, o.val) = some v ∧ v ≠ i) ∨ o.val = 0
    · rw [if_pos hc]
      refine ⟨fun kv' h => (by cases h), fun _ => ?_⟩
      rcases hc with ⟨v, hv, hne⟩ | h0
      · obtain ⟨j, rfl, hj⟩ := (hk _ _).1 hv
        exact .inr ⟨j, i, _, .inl hj, .inr ⟨rfl, hw', rfl⟩, fun e => hne (by rw [e])⟩
      · exact .inl ⟨i, _, .inr ⟨rfl, hw', rfl⟩, h0⟩
    · rw [if_neg hc]
      refine ⟨fun kv' h => ?_, fun h => by cases h⟩
      cases h
      have h1 : ∀ v, pGet kv (o.var, o.val) = some v → v = i := fun v hv => Classical.byContradiction fun hn => hc (.inl ⟨v, hv, hn⟩)
      refine ⟨fun p v => ?_, fun j p hp => ?_⟩
      · rw [pGet_set]
        split
        · rename_i e; subst e
          constructor
          · intro h; cases h; exact ⟨i, rfl, .inr ⟨rfl, hw', rfl⟩⟩
          · rintro ⟨j, rfl, hj | ⟨rfl, _, _⟩⟩
            · rw [h1 j ((hk _ _).2 ⟨j, rfl, hj⟩)]
            · rfl
        · rename_i e
          rw [hk]
          constructor
          · rintro ⟨j, rfl, hj⟩; exact ⟨j, rfl, .inl hj⟩
          · rintro ⟨j, rfl, hj | ⟨rfl, _, e2⟩⟩
            · exact ⟨j, rfl, hj⟩
            · exact absurd e2.symm e
      · rcases hp with hp | ⟨_, _, rfl⟩
        · exact hz j p hp
        · exact fun h0 => hc (.inr h0)
theorem BadW.mono {W W' : Nat → Int × Int → Prop} (h : BadW W) (k : ∀ j p, W j p → W' j p) : BadW W' := by
  rcases h with ⟨j, p, h1, h2⟩ | ⟨j, j', p, h1, h2, h3⟩
  · exact .inl ⟨j, p, k _ _ h1, h2⟩
  · exact .inr ⟨j, j', p, k _ _ h1, k _ _ h2, h3⟩
theorem wrOps_ok {i : Nat} : ∀ (ops : List Op) {kv : PKv} {W : Nat → Int × Int → Prop} (hk : KvIs kv W) (hz : OkW W),
    (∀ kv', wrOps i ops kv = some kv' → KvIs kv' (fun j p => W j p ∨ (j = i ∧ ∃ o ∈ ops, o.w = true ∧ (o.var, o.val) = p)) ∧ OkW (fun j p => W j p ∨ (j = i ∧ ∃ o ∈ ops, o.w = true ∧ (o.var, o.val) = p))) ∧
    (wrOps i ops kv = none → BadW (fun j p => W j p ∨ (j = i ∧ ∃ o ∈ ops, o.w = true ∧ (o.var, o.val) = p)))
  | [], kv, W, hk, hz => by
    have e : (fun j p => W j p ∨ (j = i ∧ ∃ o ∈ ([] : List Op), o.w = true ∧ (o.var, o.val) = p)) = W := by funext j p; simp
    rw [e]
    exact ⟨fun kv' h => by cases h; exact ⟨hk, hz⟩, fun h => by cases h⟩
  | o :: os, kv, W, hk, hz => by
    have e : (fun j p => W j p ∨ (j = i ∧ ∃ o' ∈ o :: os, o'.w = true ∧ (o'.var, o'.val) = p)) = fun j p => (W j p ∨ (j = i ∧ o.w = true ∧ (o.var, o.val) = p)) ∨ (j = i ∧ ∃ o' ∈ os, o'.w = true ∧ (o'.var, o'.val) = p) := by
      funext j p
      simp only [List.mem_cons, exists_eq_or_imp, eq_iff_iff]
      constructor
      · rintro (h | ⟨h1, h2 | h2⟩)
        · exact .inl (.inl h)
        · exact .inl (.inr ⟨h1, h2⟩)
        · exact .inr ⟨h1, h2⟩
      · rintro ((h | ⟨h1, h2⟩) | ⟨h1, h2⟩)
        · exact .inl h
        · exact .inr ⟨h1, .inl h2⟩
        · exact .inr ⟨h1, .inr h2⟩
    rw [e]
    obtain ⟨h1, h2⟩ := wrOp_ok (i := i) (o := o) hk hz
    simp only [wrOps]
    cases hw : wrOp i kv o with
    | none => exact ⟨fun kv' h => (by cases h), fun _ => (h2 hw).mono fun j p h => .inl h⟩
    | some kv1 =>
      obtain ⟨k1, z1⟩ := h1 kv1 hw
      exact wrOps_ok os k1 z1
theorem wrAll_ok : ∀ (rs : List Kp) (i : Nat) {kv : PKv} {W : Nat → Int × Int → Prop} (hk : KvIs kv W) (hz : OkW W),
    (∀ kv', wrAll rs i kv = some kv' → KvIs kv' (fun j p => W j p ∨ ∃ m, j = i + m ∧ Wr rs m p) ∧ OkW (fun j p => W j p ∨ ∃ m, j = i + m ∧ Wr rs m p)) ∧
    (wrAll rs i kv = none → BadW (fun j p => W j p ∨ ∃ m, j = i + m ∧ Wr rs m p))
  | [], i, kv, W, hk, hz => by
    have e : (fun j p => W j p ∨ ∃ m, j = i + m ∧ Wr [] m p) = W := by funext j p; simp [Wr]
    rw [e]
    exact ⟨fun kv' h => by cases h; exact ⟨hk, hz⟩, fun h => by cases h⟩
  | r :: rs, i, kv, W, hk, hz => by
    have e : (fun j p => W j p ∨ ∃ m, j = i + m ∧ Wr (r :: rs) m p) = fun j p => (W j p ∨ (j = i ∧ ∃ o ∈ r.ops, o.w = true ∧ (o.var, o.val) = p)) ∨ ∃ m, j = i + 1 + m ∧ Wr rs m p := by
      funext j p
      simp only [eq_iff_iff]
      constructor
      · rintro (h | ⟨m, hm, r', o, h1, h2⟩)
        · exact .inl (.inl h)
        · cases m with
          | zero => simp at h1; subst h1; exact .inl (.inr ⟨hm, o, h2⟩)
          | succ m => exact .inr ⟨m, by omega, r', o, by simpa using h1, h2⟩
      · rintro ((h | ⟨h1, o, h2⟩) | ⟨m, hm, r', o, h1, h2⟩)
        · exact .inl h
        · exact .inr ⟨0, h1, r, o, rfl, h2⟩
        · exact .inr ⟨m + 1, by omega, r', o, by simpa using h1, h2⟩
    rw [e]
    obtain ⟨h1, h2⟩ := wrOps_ok (i := i) r.ops hk hz
    simp only [wrAll]
    cases hw : wrOps i r.ops kv with
    | none => exact ⟨fun kv' h => (by cases h), fun _ => (h2 hw).mono fun j p h => .inl h⟩
    | some kv1 =>
      obtain ⟨k1, z1⟩ := h1 kv1 hw
      have := wrAll_ok rs (i + 1) k1 z1
      simpa using this
/-- Values are unique. -/
def UniqL (rs : List Kp) : Prop := ∀ i p, Wr rs i p → p.2 ≠ 0 ∧ ∀ j, Wr rs j p → j = i
theorem wr_zero (rs : List Kp) : (fun (j : Nat) p => False ∨ ∃ m, j = 0 + m ∧ Wr rs m p) = Wr rs := by
  funext j p
  simp only [false_or, Nat.zero_add, eq_iff_iff]
  exact ⟨fun ⟨m, e, h⟩ => e ▸ h, fun h => ⟨j, rfl, h⟩⟩
theorem wr_some {rs : List Kp} {kv : PKv} (h : wrAll rs 0 [] = some kv) : UniqL rs ∧ ∀ p v, pGet kv p = some v ↔ ∃ j : Nat, v = (j : Int) ∧ Wr rs j p := by
  have := (wrAll_ok rs 0 (kv := []) (W := fun _ _ => False) (fun p v => by simp [pGet]) (fun _ _ h => h.elim)).1 kv h
  rw [wr_zero] at this
  obtain ⟨h1, h2⟩ := this
  refine ⟨fun i p hi => ⟨h2 i p hi, fun j hj => ?_⟩, h1⟩
  have a := (h1 p i).2 ⟨i, rfl, hi⟩
  have b := (h1 p j).2 ⟨j, rfl, hj⟩
  rw [a] at b
  have := Option.some.inj b
  omega
theorem wr_none {rs : List Kp} (h : wrAll rs 0 [] = none) : ¬ UniqL rs := by
  have := (wrAll_ok rs 0 (kv := []) (W := fun _ _ => False) (fun p v => by simp [pGet]) (fun _ _ h => h.elim)).2 h
  rw [wr_zero] at this
  intro hu
  rcases this with ⟨j, p, h1, h2⟩ | ⟨j, j', p, h1, h2, h3⟩
  · exact (hu j p h1).1 h2
  · exact h3 ((hu j' p h2).2 j h1)
def ownsR (ops : List Op) (v : Int) : Bool := ops.any fun o => o.w && o.var == v
theorem srcRow_at {kv : PKv} {t : Int} : ∀ (ops : List Op) (own : List (Int × Bool)) (f : Int → Bool) (i : Nat), (∀ v, (assoc own v).getD false = f v) →
    (srcRow kv t ops own)[i]? = (ops[i]?).map fun o => if f o.var || ownsR (ops.take i) o.var || o.w then t else srcOf kv t o
  | [], own, f, i, hf => by simp [srcRow]
  | o :: os, own, f, 0, hf => by simp [srcRow, hf, ownsR]
  | o :: os, own, f, i + 1, hf => by
    have := srcRow_at (kv := kv) (t := t) os (assocSet own o.var ((assoc own o.var).getD false || o.w)) (fun v => f v || (o.w && o.var == v)) i (fun v => by
      by_cases hv : v = o.var
      · subst hv; rw [assoc_self, hf]; simp
      · have hb : (o.var == v) = false := by simpa using fun h => hv h.symm
        rw [hb, Bool.and_false, Bool.or_false, ← hf]
        congr 1
        generalize ((assoc own o.var).getD false || o.w) = b
        clear hf
        induction own with
        | nil => simp [assocSet, assoc]; intro h; exact absurd h.symm hv
        | cons q own ih =>
          obtain ⟨k, x⟩ := q
          simp only [assocSet]
          split
          · rename_i hk; subst hk
            simp only [assoc]; rw [if_neg fun h => hv h.symm, if_neg fun h => hv h.symm]
          · simp only [assoc, ih])
    simp only [srcRow, List.getElem?_cons_succ, this]
    congr 1; funext o'
    simp only [List.take_succ_cons, ownsR, List.any_cons]
    cases f o'.var <;> simp
theorem srcRow_len {kv : PKv} {t : Int} : ∀ (ops : List Op) (own : List (Int × Bool)), (srcRow kv t ops own).length = ops.length
  | [], own => rfl
  | o :: os, own => by simp [srcRow, srcRow_len os]
theorem srcRow_get {kv : PKv} {t : Int} (ops : List Op) (i : Nat) : (srcRow kv t ops [])[i]? = (ops[i]?).map fun o => if ownsR (ops.take i) o.var || o.w then t else srcOf kv t o := by
  rw [srcRow_at ops [] (fun _ => false) i (fun v => rfl)]
  simp
theorem srcRows_get {kv : PKv} : ∀ (rs : List Kp) (i t : Nat), (srcRows kv rs i)[t]? = (rs[t]?).map fun r => srcRow kv ((i + t : Nat) : Int) r.ops []
  | [], i, t => by simp [srcRows]
  | r :: rs, i, 0 => by simp [srcRows]
  | r :: rs, i, t + 1 => by
    have := srcRows_get (kv := kv) rs (i + 1) t
    simp only [srcRows, List.getElem?_cons_succ]
    rw [show ((i : Int) + 1) = ((i + 1 : Nat) : Int) by omega, this, show i + 1 + t = i + (t + 1) by omega]
theorem srcRows_len {kv : PKv} : ∀ (rs : List Kp) (i : Int), (srcRows kv rs i).length = rs.length
  | [], i => rfl
  | r :: rs, i => by simp [srcRows, srcRows_len rs]
theorem sources_ok {h : List Ev} (h0 : sourcesE h = 0) : checkE h = 0 ∧ ∃ kv, wrAll (tabOf h) 0 [] = some kv ∧ sourcesR h = srcRows kv (tabOf h) 0 := by
  unfold sourcesE at h0
  by_cases hc : checkE h = 0
  · rw [if_pos hc] at h0
    refine ⟨hc, ?_⟩
    unfold sourcesR tabOf
    rw [if_pos hc]
    cases hw : wrAll (tabAt h h.length) 0 [] with
    | none => rw [hw] at h0; simp at h0
    | some kv => exact ⟨kv, rfl, rfl⟩
  · rw [if_neg hc] at h0; exact absurd h0 hc
end Go.VC
end
section
set_option maxRecDepth 100000
set_option linter.unusedSimpArgs false
set_option linter.unusedVariables false
namespace Go.VC
open Go.RowKit Go.Proofs Go.IntWalk
theorem intRow_eq (l : List Int) : intRow l = [.sl (l.map ienc)] := rfl
theorem c28 {h : List Ev} {dst : Option Tmp} {σ : S} {K : S → Prop} (hK : S.ret σ dst [.a (.d (.sl ((sourcesR h).map intRow))), .a (I (sourcesE h))] K) : callV Tryd.prog GL 28 [.a (evsA h)] dst σ K :=
  call_dat (t28 h) hK
end Go.VC
end
section
set_option maxRecDepth 100000
set_option linter.unusedSimpArgs false
set_option linter.unusedVariables false
set_option linter.unnecessarySimpa false
namespace Go.VC
open Go.RowKit Go.Proofs Go.IntWalk
def lastW (ops : List Op) (v : Int) : Option Int := ops.foldl (fun r o => if o.w && o.var == v then some o.val else r) none
theorem lastW_s {ops : List Op} {k : Nat} {v : Int} (hk : k < ops.length) : lastW (ops.take (k + 1)) v = if ops[k].w && ops[k].var == v then some ops[k].val else lastW (ops.take k) v := by
  rw [List.take_succ_eq_append_getElem hk, lastW, List.foldl_append]; rfl
theorem t118 (ops : List Op) (v : Int) (hl : ops.length ≤ 1000000) : Holds Tryd.prog GL 118 [opsA' ops, I v] [.a (I ((lastW ops v).getD 0)), .a (B (lastW ops v).isSome)] := by
  refine fn_holds (vs := [.tmp 4, .tmp 5]) (by kernel_rfl) Tryd.func118 rfl rfl (by kernel_rfl) (by kernel_rfl) rfl ?_
  have hw0 : IntKind.i64.wrap ((ops.length : Int) - 1) = (ops.length : Int) - 1 := i64_in _ (by omega)
  (refine of_gate ?_; repeat' ((first | (with_reducible refine gate_in ?_) | (with_reducible refine spK_intro ?_ ?_ <;> intro hp) | (with_reducible refine brK_intro ?_ ?_ <;> intro hb <;> try rw [hb]) | (with_reducible refine draw_in (by unfold DrawOk; decide +kernel) ?_) | (with_reducible refine And.intro (by first | omega | (simp only [List.length_map, List.length_take]; omega)) ?_) | fail) <;> try simp only [go_sem, simprocAttr, List.length_map, hw0]))
  refine awp_loopA (fun k : Nat => [(0, .a (opsA' ops)), (1, .a (I v)), (6, .a (I ((k : Int) - 1)))]) (fun _ => []) (fun k => k ≤ ops.length ∧ lastW ops v = lastW (ops.take k) v) (fun k => k) ops.length ?_ ?_ ⟨Nat.le_refl _, by rw [List.take_length]⟩ ?_
  · simp only [go_sem, simprocAttr, hw0, List.length_map]
  · simp only [go_sem, simprocAttr]
  intro k j ⟨hk, hl2⟩
  cases k with
  | zero =>
    have e : ((0 : Nat) : Int) - 1 = -1 := rfl
    have e2 : ¬ ((-1 : Int) ≥ 0) := by decide
    have e3 : ¬ ((0 : Int) - 1 ≥ 0) := by decide
    (refine of_gate ?_; repeat' ((first | (with_reducible refine gate_in ?_) | (with_reducible refine spK_intro ?_ ?_ <;> intro hp) | (with_reducible refine brK_intro ?_ ?_ <;> intro hb <;> try rw [hb]) | (with_reducible refine draw_in (by unfold DrawOk; decide +kernel) ?_) | (with_reducible refine And.intro (by first | omega | (simp only [List.length_map, List.length_take]; omega)) ?_) | fail) <;> try simp only [go_sem, simprocAttr, e, e2, e3]))
    rw [hl2, List.take_zero]; exact ⟨rfl, rfl⟩
  | succ k =>
    have hkl : k < ops.length := by omega
    have hx : ops[k]? = some ops[k] := List.getElem?_eq_getElem hkl
    have e : ((k + 1 : Nat) : Int) - 1 = (k : Int) := by omega
    have hw : IntKind.i64.wrap ((k : Int) - 1) = (k : Int) - 1 := i64_in _ (by omega)
    have h0 : (0 : Int) ≤ (k : Int) := by omega
    rw [lastW_s hkl] at hl2
    generalize ops[k] = o at hx hl2
    (refine of_gate ?_; repeat' ((first | (with_reducible refine gate_in ?_) | (with_reducible refine spK_intro ?_ ?_ <;> intro hp) | (with_reducible refine brK_intro ?_ ?_ <;> intro hb <;> try rw [hb]) | (with_reducible refine draw_in (by unfold DrawOk; decide +kernel) ?_) | (with_reducible refine And.intro (by first | omega | (simp only [List.length_map, List.length_take]; omega)) ?_) | fail) <;> try simp only [go_sem, simprocAttr, e, hx, hw, h0, Op.enc_eq]))
    · have : (o.w && o.var == v) = true := by simp [*]
      rw [if_pos this] at hl2
      rw [hl2]; exact ⟨rfl, rfl⟩
    · have : (o.w && o.var == v) = false := by simp [*]
      rw [this, if_neg (by decide)] at hl2
      (refine ⟨k, ?_, ?_, ⟨by omega, hl2⟩, by dsimp only; omega⟩ <;> simp only [go_sem, simprocAttr, hw])
    · have : (o.w && o.var == v) = false := by simp [*]
      rw [this, if_neg (by decide)] at hl2
      (refine ⟨k, ?_, ?_, ⟨by omega, hl2⟩, by dsimp only; omega⟩ <;> simp only [go_sem, simprocAttr, hw])
theorem c118 {ops : List Op} {v : Int} (hl : ops.length ≤ 1000000) {dst : Option Tmp} {σ : Go.VC.S} {K : Go.VC.S → Prop} (hK : σ.ret dst [.a (I ((lastW ops v).getD 0)), .a (B (lastW ops v).isSome)] K) : callV Tryd.prog GL 118 [.a (opsA' ops), .a (I v)] dst σ K := call_dat (t118 ops v hl) hK
theorem q118 {ops : List Op} {v : Int} (hl : ops.length ≤ 1000000) {σ : S} {KR : R → Prop} (hK : KR (retR [I ((lastW ops v).getD 0), B (lastW ops v).isSome])) : callVQ Tryd.prog GL 118 [.a (opsA' ops), .a (I v)] σ KR :=
  callQ_dat (res := [I ((lastW ops v).getD 0), B (lastW ops v).isSome]) (t118 ops v hl) hK
abbrev trA (l : List Txn) (sr : List (List Int)) (C : Nat) : A := .ag [.sl (l.map Txn.enc), .sl (sr.map intRow), .v (.int .u32 C)]
theorem t119 (l : List Txn) (sr : List (List Int)) (C i : Nat) (hC : C < 2 ^ 32) (hi : i < 32) : Holds Tryd.prog GL 119 [trA l sr C, I i] [.a (B (C.testBit i))] := by
  refine fn_holds (vs := [.tmp 4]) (by kernel_rfl) Tryd.func119 rfl rfl (by kernel_rfl) (by kernel_rfl) rfl ?_
  have hbit := u32_bit (k := i) hC
  cases hB : C.testBit i with
  | true =>
    rw [hB] at hbit
    simp only [if_true] at hbit
    (refine of_gate ?_; repeat' ((first | (with_reducible refine gate_in ?_) | (with_reducible refine spK_intro ?_ ?_ <;> intro hp) | (with_reducible refine brK_intro ?_ ?_ <;> intro hb <;> try rw [hb]) | (with_reducible refine draw_in (by unfold DrawOk; decide +kernel) ?_) | (with_reducible refine And.intro (by first | omega | (simp only [List.length_map, List.length_take]; omega)) ?_) | fail) <;> try simp only [go_sem, simprocAttr, u32_shr hi, hbit]))
  | false =>
    rw [hB] at hbit
    simp only [Bool.false_eq_true, if_false] at hbit
    (refine of_gate ?_; repeat' ((first | (with_reducible refine gate_in ?_) | (with_reducible refine spK_intro ?_ ?_ <;> intro hp) | (with_reducible refine brK_intro ?_ ?_ <;> intro hb <;> try rw [hb]) | (with_reducible refine draw_in (by unfold DrawOk; decide +kernel) ?_) | (with_reducible refine And.intro (by first | omega | (simp only [List.length_map, List.length_take]; omega)) ?_) | fail) <;> try simp only [go_sem, simprocAttr, u32_shr hi, hbit]))
theorem c119 {l : List Txn} {sr : List (List Int)} {C i : Nat} (hC : C < 2 ^ 32) (hi : i < 32) {dst : Option Tmp} {σ : Go.VC.S} {K : Go.VC.S → Prop} (hK : σ.ret dst [.a (B (C.testBit i))] K) : callV Tryd.prog GL 119 [.a (trA l sr C), .a (I i)] dst σ K := call_dat (t119 l sr C i hC hi) hK
/-- Does a transaction that commits write a variable? -/
def wrC (l : List Txn) (C : Nat) (i : Nat) (v : Int) : Bool := match l[i]? with
  | some x => (lastW x.ops v).isSome && C.testBit i
  | none => false
theorem t98 (l : List Txn) (hf : FitT l) (sr : List (List Int)) (C i : Nat) (v : Int) (hC : C < 2 ^ 32) (hi : i < 32) (hil : i < l.length) : Holds Tryd.prog GL 98 [trA l sr C, I i, I v] [.a (B (wrC l C i v))] := by
  refine fn_holds (vs := [.tmp 6]) (by kernel_rfl) Tryd.func98 rfl rfl (by kernel_rfl) (by kernel_rfl) rfl ?_
  have hx : l[i]? = some l[i] := List.getElem?_eq_getElem hil
  have hol := hf.at hil
  have hb : wrC l C i v = ((lastW l[i].ops v).isSome && C.testBit i) := by simp only [wrC, hx]
  rw [hb]
  generalize l[i] = x at hx hol
  cases hs : (lastW x.ops v).isSome with
  | true =>
    (refine of_gate ?_; repeat' ((first | (with_reducible refine gate_in ?_) | (with_reducible refine spK_intro ?_ ?_ <;> intro hp) | (with_reducible refine brK_intro ?_ ?_ <;> intro hb <;> try rw [hb]) | (with_reducible refine draw_in (by unfold DrawOk; decide +kernel) ?_) | (with_reducible refine And.intro (by first | omega | (simp only [List.length_map, List.length_take]; omega)) ?_) | fail) <;> try simp only [go_sem, simprocAttr, hx, Txn.enc_eq]))
    refine c118 hol ?_
    (refine of_gate ?_; repeat' ((first | (with_reducible refine gate_in ?_) | (with_reducible refine spK_intro ?_ ?_ <;> intro hp) | (with_reducible refine brK_intro ?_ ?_ <;> intro hb <;> try rw [hb]) | (with_reducible refine draw_in (by unfold DrawOk; decide +kernel) ?_) | (with_reducible refine And.intro (by first | omega | (simp only [List.length_map, List.length_take]; omega)) ?_) | fail) <;> try simp only [go_sem, simprocAttr, hs]))
    refine c119 hC hi ?_
    (refine of_gate ?_; repeat' ((first | (with_reducible refine gate_in ?_) | (with_reducible refine spK_intro ?_ ?_ <;> intro hp) | (with_reducible refine brK_intro ?_ ?_ <;> intro hb <;> try rw [hb]) | (with_reducible refine draw_in (by unfold DrawOk; decide +kernel) ?_) | (with_reducible refine And.intro (by first | omega | (simp only [List.length_map, List.length_take]; omega)) ?_) | fail) <;> try simp only [go_sem, simprocAttr]))
    rfl
  | false =>
    (refine of_gate ?_; repeat' ((first | (with_reducible refine gate_in ?_) | (with_reducible refine spK_intro ?_ ?_ <;> intro hp) | (with_reducible refine brK_intro ?_ ?_ <;> intro hb <;> try rw [hb]) | (with_reducible refine draw_in (by unfold DrawOk; decide +kernel) ?_) | (with_reducible refine And.intro (by first | omega | (simp only [List.length_map, List.length_take]; omega)) ?_) | fail) <;> try simp only [go_sem, simprocAttr, hx, Txn.enc_eq]))
    refine c118 hol ?_
    (refine of_gate ?_; repeat' ((first | (with_reducible refine gate_in ?_) | (with_reducible refine spK_intro ?_ ?_ <;> intro hp) | (with_reducible refine brK_intro ?_ ?_ <;> intro hb <;> try rw [hb]) | (with_reducible refine draw_in (by unfold DrawOk; decide +kernel) ?_) | (with_reducible refine And.intro (by first | omega | (simp only [List.length_map, List.length_take]; omega)) ?_) | fail) <;> try simp only [go_sem, simprocAttr, hs]))
    rfl
def Ftr : List (List Nat) := [[0, 1, 2, 3, 4, 5, 6, 7, 8, 9, 10, 11, 12, 13, 14, 15, 16], [9, 10, 11, 12, 13, 14, 15, 16], []]
/-- Can a read be explained? -/
def rdOk (l : List Txn) (sr : List (List Int)) (C t i : Nat) : Bool := match l[t]? with
  | none => true
  | some x => match x.ops[i]? with
    | none => true
    | some o => match sr[t]?.bind (·[i]?) with
      | none => true
      | some s => if o.w || s == -1 then true else if s = -2 then false else if s = t then (lastW (x.ops.take i) o.var).getD 0 == o.val
        else match l[s.toNat]? with
          | none => true
          | some y => (lastW y.ops o.var).getD 0 == o.val && C.testBit s.toNat
/-- Sources of a table. -/
structure SrcT (l : List Txn) (sr : List (List Int)) : Prop where
  len : sr.length = l.length
  row : ∀ (t : Nat) (x : Txn) (r : List Int), l[t]? = some x → sr[t]? = some r → r.length = x.ops.length
  src : ∀ (t : Nat) (r : List Int) (s : Int), sr[t]? = some r → s ∈ r → s = -1 ∨ s = -2 ∨ ∃ k : Nat, s = k ∧ k < l.length
theorem t97 (l : List Txn) (hf : FitT l) (hl : l.length ≤ 30) (sr : List (List Int)) (hS : SrcT l sr) (C t i : Nat) (hC : C < 2 ^ 32) (x : Txn) (o : Op) (hx : l[t]? = some x) (ho : x.ops[i]? = some o) : Holds Tryd.prog GL 97 [trA l sr C, I t, I i] [.a (B (rdOk l sr C t i))] := by
  refine fn_holds (vs := [.tmp 6]) (by kernel_rfl) Tryd.func97 rfl rfl (by kernel_rfl) (by kernel_rfl) rfl ?_
  have htl := (List.getElem?_eq_some_iff.1 hx).1
  have hil := (List.getElem?_eq_some_iff.1 ho).1
  have htS : t < sr.length := by rw [hS.len]; exact htl
  obtain ⟨r, hr⟩ : ∃ r, sr[t]? = some r := ⟨_, List.getElem?_eq_getElem htS⟩
  have hrl := hS.row t x r hx hr
  obtain ⟨s, hs⟩ : ∃ s, r[i]? = some s := ⟨_, List.getElem?_eq_getElem (show i < r.length by omega)⟩
  have hsrc := hS.src t r s hr (List.mem_of_getElem? hs)
  have hR : rdOk l sr C t i = (if o.w || s == -1 then true else if s = -2 then false else if s = t then (lastW (x.ops.take i) o.var).getD 0 == o.val
        else match l[s.toNat]? with
          | none => true
          | some y => (lastW y.ops o.var).getD 0 == o.val && C.testBit s.toNat) := by
    simp only [rdOk, hx, ho, hr, Option.bind_some, hs]
  rw [hR]
  have hxl : x.ops.length ≤ 1000000 := by
    have := hf.at htl
    rw [(List.getElem?_eq_some_iff.1 hx).2] at this; exact this
  have htk : List.take i (x.ops.map Op.enc) = (x.ops.take i).map Op.enc := by rw [List.map_take]
  have htkl : (x.ops.take i).length ≤ 1000000 := by simp; omega
  have hi1 : (i : Int) ≤ (x.ops.length : Int) := by omega
  have hneg : ∀ k : Nat, ¬ ((k : Int) = -1) ∧ ¬ ((k : Int) = -2) := fun k => by omega
  by_cases hw : o.w = true
  · (refine of_gate ?_; repeat' ((first | (with_reducible refine gate_in ?_) | (with_reducible refine spK_intro ?_ ?_ <;> intro hp) | (with_reducible refine brK_intro ?_ ?_ <;> intro hb <;> try rw [hb]) | (with_reducible refine draw_in (by unfold DrawOk; decide +kernel) ?_) | (with_reducible refine draw_F Ftr (by decide +kernel) ?_) | (with_reducible refine And.intro (by first | omega | (simp only [List.length_map, List.length_take]; omega)) ?_) | fail) <;> try simp only [go_sem, simprocAttr, hx, ho, hr, hs, intRow_eq, ienc_eq, Txn.enc_eq, Op.enc_eq, hw, PG, Ftr]))
    simp
  · have hw : o.w = false := by simpa using hw
    rcases hsrc with rfl | rfl | ⟨k, rfl, hk⟩
    · (refine of_gate ?_; repeat' ((first | (with_reducible refine gate_in ?_) | (with_reducible refine spK_intro ?_ ?_ <;> intro hp) | (with_reducible refine brK_intro ?_ ?_ <;> intro hb <;> try rw [hb]) | (with_reducible refine draw_in (by unfold DrawOk; decide +kernel) ?_) | (with_reducible refine draw_F Ftr (by decide +kernel) ?_) | (with_reducible refine And.intro (by first | omega | (simp only [List.length_map, List.length_take]; omega)) ?_) | fail) <;> try simp only [go_sem, simprocAttr, hx, ho, hr, hs, intRow_eq, ienc_eq, Txn.enc_eq, Op.enc_eq, hw, PG, Ftr]))
    · (refine of_gate ?_; repeat' ((first | (with_reducible refine gate_in ?_) | (with_reducible refine spK_intro ?_ ?_ <;> intro hp) | (with_reducible refine brK_intro ?_ ?_ <;> intro hb <;> try rw [hb]) | (with_reducible refine draw_in (by unfold DrawOk; decide +kernel) ?_) | (with_reducible refine draw_F Ftr (by decide +kernel) ?_) | (with_reducible refine And.intro (by first | omega | (simp only [List.length_map, List.length_take]; omega)) ?_) | fail) <;> try simp only [go_sem, simprocAttr, hx, ho, hr, hs, intRow_eq, ienc_eq, Txn.enc_eq, Op.enc_eq, hw, PG, Ftr]))
    · have hy : l[k]? = some l[k] := List.getElem?_eq_getElem hk
      have hyl := hf.at hk
      generalize l[k] = y at hy hyl
      simp only [hw, Bool.false_or, Int.toNat_natCast, hy]
      obtain ⟨n1, n2⟩ := hneg k
      have n3 : ((k : Int) == -1) = false := by simp
      simp only [n3, Bool.false_eq_true, if_false, if_neg n2]
      by_cases hkt : (k : Int) = (t : Int)
      · rw [if_pos hkt]
        obtain rfl : k = t := by omega
        clear hkt
        (refine of_gate ?_; repeat' ((first | (with_reducible refine gate_in ?_) | (with_reducible refine spK_intro ?_ ?_ <;> intro hp) | (with_reducible refine brK_intro ?_ ?_ <;> intro hb <;> try rw [hb]) | (with_reducible refine draw_in (by unfold DrawOk; decide +kernel) ?_) | (with_reducible refine draw_F Ftr (by decide +kernel) ?_) | (with_reducible refine And.intro (by first | omega | (simp only [List.length_map, List.length_take]; omega)) ?_) | fail) <;> try simp only [go_sem, simprocAttr, hx, ho, hr, hs, intRow_eq, ienc_eq, Txn.enc_eq, Op.enc_eq, hw, n1, n2, hi1, htk, ops_lenT, Int.toNat_zero, PG, Ftr]))
        refine q118 htkl ?_
        (refine of_gate ?_; repeat' ((first | (with_reducible refine gate_in ?_) | (with_reducible refine spK_intro ?_ ?_ <;> intro hp) | (with_reducible refine brK_intro ?_ ?_ <;> intro hb <;> try rw [hb]) | (with_reducible refine draw_in (by unfold DrawOk; decide +kernel) ?_) | (with_reducible refine And.intro (by first | omega | (simp only [List.length_map, List.length_take]; omega)) ?_) | fail) <;> try simp only [go_sem, simprocAttr, hx, ho, Txn.enc_eq, Op.enc_eq]))
        · simp [*]
        · simp [*]
      · rw [if_neg hkt]
        (refine of_gate ?_; repeat' ((first | (with_reducible refine gate_in ?_) | (with_reducible refine spK_intro ?_ ?_ <;> intro hp) | (with_reducible refine brK_intro ?_ ?_ <;> intro hb <;> try rw [hb]) | (with_reducible refine draw_in (by unfold DrawOk; decide +kernel) ?_) | (with_reducible refine draw_F Ftr (by decide +kernel) ?_) | (with_reducible refine And.intro (by first | omega | (simp only [List.length_map, List.length_take]; omega)) ?_) | fail) <;> try simp only [go_sem, simprocAttr, hx, ho, hr, hs, hy, intRow_eq, ienc_eq, Txn.enc_eq, Op.enc_eq, hw, n1, n2, hkt, PG, Ftr]))
        refine q118 hyl ?_
        (refine of_gate ?_; repeat' ((first | (with_reducible refine gate_in ?_) | (with_reducible refine spK_intro ?_ ?_ <;> intro hp) | (with_reducible refine brK_intro ?_ ?_ <;> intro hb <;> try rw [hb]) | (with_reducible refine draw_in (by unfold DrawOk; decide +kernel) ?_) | (with_reducible refine And.intro (by first | omega | (simp only [List.length_map, List.length_take]; omega)) ?_) | fail) <;> try simp only [go_sem, simprocAttr, hx, ho, Txn.enc_eq, Op.enc_eq]))
        · refine c119 hC (by omega) ?_
          (refine of_gate ?_; repeat' ((first | (with_reducible refine gate_in ?_) | (with_reducible refine spK_intro ?_ ?_ <;> intro hp) | (with_reducible refine brK_intro ?_ ?_ <;> intro hb <;> try rw [hb]) | (with_reducible refine draw_in (by unfold DrawOk; decide +kernel) ?_) | (with_reducible refine And.intro (by first | omega | (simp only [List.length_map, List.length_take]; omega)) ?_) | fail) <;> try simp only [go_sem, simprocAttr]))
          simp [*]
        · simp [*]
theorem c97 {l : List Txn} {sr : List (List Int)} {C t i : Nat} {x : Txn} {o : Op} (hf : FitT l) (hl : l.length ≤ 30) (hS : SrcT l sr) (hC : C < 2 ^ 32) (hx : l[t]? = some x) (ho : x.ops[i]? = some o) {dst : Option Tmp} {σ : S} {K : S → Prop} (hK : σ.ret dst [.a (B (rdOk l sr C t i))] K) : callV Tryd.prog GL 97 [.a (trA l sr C), .a (I t), .a (I i)] dst σ K := call_dat (t97 l hf hl sr hS C t i hC x o hx ho) hK
def allRFrom (l : List Txn) (sr : List (List Int)) (C k : Nat) : Bool := ((List.range l.length).drop k).all fun t => match l[t]? with
  | some x => (List.range x.ops.length).all fun i => rdOk l sr C t i
  | none => true
theorem t71 (l : List Txn) (hf : FitT l) (hl : l.length ≤ 30) (sr : List (List Int)) (hS : SrcT l sr) (C : Nat) (hC : C < 2 ^ 32) : Holds Tryd.prog GL 71 [trA l sr C] [.a (B (allRFrom l sr C 0))] := by
  refine fn_holds (vs := [.tmp 2]) (by kernel_rfl) Tryd.func71 rfl rfl (by kernel_rfl) (by kernel_rfl) rfl ?_
  (refine of_gate ?_; repeat' ((first | (with_reducible refine gate_in ?_) | (with_reducible refine spK_intro ?_ ?_ <;> intro hp) | (with_reducible refine brK_intro ?_ ?_ <;> intro hb <;> try rw [hb]) | (with_reducible refine draw_in (by unfold DrawOk; decide +kernel) ?_) | (with_reducible refine And.intro (by first | omega | (simp only [List.length_map, List.length_take]; omega)) ?_) | fail) <;> try simp only [go_sem, simprocAttr, List.length_map]))
  refine awp_loopA (fun t : Nat => [(1, .ref 1 0), (7, .a (I l.length)), (8, .a (I t))]) (fun _ => [(1, .box [.a (.d (.sl (l.map Txn.enc))), .a (.d (.sl (sr.map intRow))), .a (.d (.v (.int .u32 C)))])]) (fun t => t ≤ l.length ∧ allRFrom l sr C 0 = allRFrom l sr C t) (l.length - ·) 0 ?_ ?_ ⟨Nat.zero_le _, rfl⟩ ?_
  · simp only [go_sem, simprocAttr, List.length_map]
  · simp only [go_sem, simprocAttr]
  intro t j ⟨ht, hq⟩
  (refine of_gate ?_; repeat' ((first | (with_reducible refine gate_in ?_) | (with_reducible refine spK_intro ?_ ?_ <;> intro hp) | (with_reducible refine brK_intro ?_ ?_ <;> intro hb <;> try rw [hb]) | (with_reducible refine draw_in (by unfold DrawOk; decide +kernel) ?_) | (with_reducible refine And.intro (by first | omega | (simp only [List.length_map, List.length_take]; omega)) ?_) | fail) <;> try simp only [go_sem, simprocAttr]))
  · have htl : t < l.length := by omega
    have hw := wrap_succ (n := l.length) htl (by simp only [maxLen]; omega)
    have hx : l[t]? = some l[t] := List.getElem?_eq_getElem htl
    have hol := hf.at htl
    have hs : allRFrom l sr C t = ((List.range l[t].ops.length).all (fun i => rdOk l sr C t i) && allRFrom l sr C (t + 1)) := by
      simp only [allRFrom, range_dropO htl, List.all_cons, hx]
    rw [hs] at hq
    generalize l[t] = x at hx hol hq
    (refine of_gate ?_; repeat' ((first | (with_reducible refine gate_in ?_) | (with_reducible refine spK_intro ?_ ?_ <;> intro hp) | (with_reducible refine brK_intro ?_ ?_ <;> intro hb <;> try rw [hb]) | (with_reducible refine draw_in (by unfold DrawOk; decide +kernel) ?_) | (with_reducible refine And.intro (by first | omega | (simp only [List.length_map, List.length_take]; omega)) ?_) | fail) <;> try simp only [go_sem, simprocAttr, hx, Txn.enc_eq, List.length_map]))
    refine awp_loopA (fun i : Nat => [(1, .ref 1 0), (3, .a (I t)), (7, .a (I l.length)), (8, .a (I t)), (17, .a (I x.ops.length)), (18, .a (I i))]) (fun _ => [(1, .box [.a (.d (.sl (l.map Txn.enc))), .a (.d (.sl (sr.map intRow))), .a (.d (.v (.int .u32 C)))])]) (fun i => i ≤ x.ops.length ∧ allRFrom l sr C 0 = (((List.range x.ops.length).drop i).all (fun i => rdOk l sr C t i) && allRFrom l sr C (t + 1))) (x.ops.length - ·) 0 ?_ ?_ ⟨Nat.zero_le _, hq⟩ ?_
    · simp only [go_sem, simprocAttr, List.length_map]
    · simp only [go_sem, simprocAttr]
    intro i j2 ⟨hi, hv⟩
    (refine of_gate ?_; repeat' ((first | (with_reducible refine gate_in ?_) | (with_reducible refine spK_intro ?_ ?_ <;> intro hp) | (with_reducible refine brK_intro ?_ ?_ <;> intro hb <;> try rw [hb]) | (with_reducible refine draw_in (by unfold DrawOk; decide +kernel) ?_) | (with_reducible refine And.intro (by first | omega | (simp only [List.length_map, List.length_take]; omega)) ?_) | fail) <;> try simp only [go_sem, simprocAttr]))
    · have hil : i < x.ops.length := by omega
      have hwi := wrap_succ (n := x.ops.length) hil (by simp only [maxLen]; omega)
      have ho : x.ops[i]? = some x.ops[i] := List.getElem?_eq_getElem hil
      rw [range_dropO hil, List.all_cons] at hv
      refine c97 hf hl hS hC hx ho ?_
      cases hB : rdOk l sr C t i with
      | true =>
        rw [hB, Bool.true_and] at hv
        (refine of_gate ?_; repeat' ((first | (with_reducible refine gate_in ?_) | (with_reducible refine spK_intro ?_ ?_ <;> intro hp) | (with_reducible refine brK_intro ?_ ?_ <;> intro hb <;> try rw [hb]) | (with_reducible refine draw_in (by unfold DrawOk; decide +kernel) ?_) | (with_reducible refine And.intro (by first | omega | (simp only [List.length_map, List.length_take]; omega)) ?_) | fail) <;> try simp only [go_sem, simprocAttr, hwi]))
        (refine ⟨i + 1, ?_, ?_, ⟨hil, hv⟩, by dsimp only; omega⟩ <;> simp only [go_sem, simprocAttr, hwi])
      | false =>
        rw [hB, Bool.false_and, Bool.false_and] at hv
        (refine of_gate ?_; repeat' ((first | (with_reducible refine gate_in ?_) | (with_reducible refine spK_intro ?_ ?_ <;> intro hp) | (with_reducible refine brK_intro ?_ ?_ <;> intro hb <;> try rw [hb]) | (with_reducible refine draw_in (by unfold DrawOk; decide +kernel) ?_) | (with_reducible refine And.intro (by first | omega | (simp only [List.length_map, List.length_take]; omega)) ?_) | fail) <;> try simp only [go_sem, simprocAttr, hwi, hv]))
    · rw [List.drop_eq_nil_of_le (by simp; omega)] at hv
      (refine of_gate ?_; repeat' ((first | (with_reducible refine gate_in ?_) | (with_reducible refine spK_intro ?_ ?_ <;> intro hp) | (with_reducible refine brK_intro ?_ ?_ <;> intro hb <;> try rw [hb]) | (with_reducible refine draw_in (by unfold DrawOk; decide +kernel) ?_) | (with_reducible refine And.intro (by first | omega | (simp only [List.length_map, List.length_take]; omega)) ?_) | fail) <;> try simp only [go_sem, simprocAttr, hw]))
      (refine ⟨t + 1, ?_, ?_, ⟨htl, by simpa using hv⟩, by dsimp only; omega⟩ <;> simp only [go_sem, simprocAttr, hw])
  · rw [hq, allRFrom, List.drop_eq_nil_of_le (by simp; omega)]; rfl
theorem c71 {l : List Txn} {sr : List (List Int)} {C : Nat} (hf : FitT l) (hl : l.length ≤ 30) (hS : SrcT l sr) (hC : C < 2 ^ 32) {dst : Option Tmp} {σ : S} {K : S → Prop} (hK : σ.ret dst [.a (B (allRFrom l sr C 0))] K) : callV Tryd.prog GL 71 [.a (trA l sr C)] dst σ K := call_dat (t71 l hf hl sr hS C hC) hK
/-- What look answers. -/
def lookE (h : List Ev) (C : Nat) : Int := if sourcesE h = 0 then (if C / 2 ^ (sourcesR h).length = 0 then 0 else 1) else sourcesE h
def lookA (h : List Ev) (C : Nat) : A := if lookE h C = 0 then trA (txns h) (sourcesR h) C else trA [] [] 0
theorem sourcesE_check {h : List Ev} (h0 : sourcesE h = 0) : checkE h = 0 := by
  unfold sourcesE at h0
  split at h0
  · assumption
  · rename_i hn; exact absurd h0 hn
theorem tab_fit2 (h : List Ev) (hl : h.length ≤ 1000000) : FitT (txns h) := by
  unfold txns
  split
  · refine ⟨by rw [List.length_map]; have := @tab_len h h.length; unfold tabOf; omega, fun t ht => ?_⟩
    obtain ⟨kp, hk, rfl⟩ := List.mem_map.1 ht
    have := tab_ops (h := h) h.length kp hk
    show kp.ops.length ≤ _
    omega
  · exact ⟨by simp, fun t ht => by cases ht⟩
theorem srcT {h : List Ev} (h0 : sourcesE h = 0) : SrcT (txns h) (sourcesR h) := by
  obtain ⟨hE, kv, hw, hR⟩ := sources_ok h0
  have ht : txns h = (tabOf h).map Kp.txn := by unfold txns; rw [if_pos hE]
  rw [ht, hR]
  obtain ⟨_, hkv⟩ := wr_some hw
  generalize tabOf h = ks at *
  have at_ : ∀ (t : Nat) (r : List Int), (srcRows kv ks 0)[t]? = some r → ∃ k, ks[t]? = some k ∧ r = srcRow kv (t : Int) k.ops [] := by
    intro t r hr
    rw [show (srcRows kv ks 0)[t]? = _ from srcRows_get (kv := kv) ks 0 t] at hr
    obtain ⟨k, hk, rfl⟩ := Option.map_eq_some_iff.1 hr
    exact ⟨k, hk, by rw [Nat.zero_add]⟩
  refine ⟨by rw [srcRows_len, List.length_map], fun t x r hx hr => ?_, fun t r s hr hs => ?_⟩
  · obtain ⟨k, hk, rfl⟩ := at_ t r hr
    rw [List.getElem?_map, hk] at hx; cases hx
    exact srcRow_len _ _
  · obtain ⟨k, hk, rfl⟩ := at_ t r hr
    obtain ⟨i, hi⟩ := List.getElem?_of_mem hs
    rw [srcRow_get] at hi
    obtain ⟨o, ho, rfl⟩ := Option.map_eq_some_iff.1 hi
    have htl := (List.getElem?_eq_some_iff.1 hk).1
    split
    · exact .inr (.inr ⟨t, rfl, by rw [List.length_map]; exact htl⟩)
    · unfold srcOf
      split
      · exact .inl rfl
      · split
        · rename_i v hv
          split
          · exact .inr (.inl rfl)
          · obtain ⟨j, rfl, r0, o0, hj, _⟩ := (hkv _ _).1 hv
            exact .inr (.inr ⟨j, rfl, by rw [List.length_map]; exact (List.getElem?_eq_some_iff.1 hj).1⟩)
        · exact .inr (.inl rfl)
theorem t69 (h : List Ev) (C : Nat) (hC : C < 2 ^ 32) : Holds Tryd.prog GL 69 [evsA h, U C] [.a (lookA h C), .a (I (lookE h C))] := by
  refine fn_holds (vs := [.cell 4 97, .tmp 5]) (by kernel_rfl) Tryd.func69 rfl rfl (by kernel_rfl) (by kernel_rfl) rfl ?_
  by_cases hE : sourcesE h = 0
  · have hE2 := sourcesE_check hE
    have hln := (srcT hE).len
    have hl6 := txns_len6 h
    have h32 : (sourcesR h).length < 32 := by omega
    by_cases hz : C / 2 ^ (sourcesR h).length = 0
    · have e1 : lookE h C = 0 := by simp [lookE, hE, hz]
      have e2 : lookA h C = trA (txns h) (sourcesR h) C := by rw [lookA, if_pos e1]
      rw [e1, e2]
      (refine of_gate ?_; repeat' ((first | (with_reducible refine gate_in ?_) | (with_reducible refine spK_intro ?_ ?_ <;> intro hp) | (with_reducible refine brK_intro ?_ ?_ <;> intro hb <;> try rw [hb]) | (with_reducible refine draw_in (by unfold DrawOk; decide +kernel) ?_) | (with_reducible apply c28) | (with_reducible apply c56) | (with_reducible refine And.intro (by first | omega | (simp only [List.length_map, List.length_take]; omega)) ?_) | fail) <;> try simp only [go_sem, simprocAttr, hE, hE2, hz, u32_shr h32, List.length_map]))
      refine sem_build (ti := ⟨3, 56, true, [.slice none 0 0, .slice none 0 0, .int .u32 0]⟩) (offs := [(0, 1, false), (1, 1, false), (2, 1, false)]) (l := [(0, .tmp 30), (1, .tmp 31), (2, .tmp 32)]) (ps := [(0, [.a (txnsA (txns h))]), (1, [.a (.d (.sl ((sourcesR h).map intRow)))]), (2, [.a (U C)])]) (rs := [.a (txnsA (txns h)), .a (.d (.sl ((sourcesR h).map intRow))), .a (U C)]) (by kernel_rfl) (by kernel_rfl) rfl rfl (by simp only [partsR, go_sem, simprocAttr]) rfl ?_
      (refine of_gate ?_; repeat' ((first | (with_reducible refine gate_in ?_) | (with_reducible refine spK_intro ?_ ?_ <;> intro hp) | (with_reducible refine brK_intro ?_ ?_ <;> intro hb <;> try rw [hb]) | (with_reducible refine draw_in (by unfold DrawOk; decide +kernel) ?_) | (with_reducible refine And.intro (by first | omega | (simp only [List.length_map, List.length_take]; omega)) ?_) | fail) <;> try simp only [go_sem, simprocAttr]))
      trace_state
      skip
    · have e1 : lookE h C = 1 := by simp [lookE, hE, hz]
      have e2 : lookA h C = trA [] [] 0 := by rw [lookA, e1, if_neg (by decide)]
      rw [e1, e2]
      have hzI : ¬ (((C / 2 ^ (sourcesR h).length : Nat)) : Int) = 0 := by omega
      (refine of_gate ?_; repeat' ((first | (with_reducible refine gate_in ?_) | (with_reducible refine spK_intro ?_ ?_ <;> intro hp) | (with_reducible refine brK_intro ?_ ?_ <;> intro hb <;> try rw [hb]) | (with_reducible refine draw_in (by unfold DrawOk; decide +kernel) ?_) | (with_reducible apply c28) | (with_reducible apply c56) | (with_reducible refine And.intro (by first | omega | (simp only [List.length_map, List.length_take]; omega)) ?_) | fail) <;> try simp only [go_sem, simprocAttr, hE, hE2, hzI, u32_shr h32, List.length_map]))
      refine sem_build (ti := ⟨3, 56, true, [.slice none 0 0, .slice none 0 0, .int .u32 0]⟩) (offs := [(0, 1, false), (1, 1, false), (2, 1, false)]) (l := []) (ps := []) (rs := [.cs [], .cs [], .a (U 0)]) (by kernel_rfl) (by kernel_rfl) rfl rfl (by simp only [partsR, go_sem, simprocAttr]) rfl ?_
      (refine of_gate ?_; repeat' ((first | (with_reducible refine gate_in ?_) | (with_reducible refine spK_intro ?_ ?_ <;> intro hp) | (with_reducible refine brK_intro ?_ ?_ <;> intro hb <;> try rw [hb]) | (with_reducible refine draw_in (by unfold DrawOk; decide +kernel) ?_) | (with_reducible refine And.intro (by first | omega | (simp only [List.length_map, List.length_take]; omega)) ?_) | fail) <;> try simp only [go_sem, simprocAttr]))
      trace_state
      skip
  · have e1 : lookE h C = sourcesE h := by simp [lookE, hE]
    have e2 : lookA h C = trA [] [] 0 := by rw [lookA, e1, if_neg hE]
    rw [e1, e2]
    (refine of_gate ?_; repeat' ((first | (with_reducible refine gate_in ?_) | (with_reducible refine spK_intro ?_ ?_ <;> intro hp) | (with_reducible refine brK_intro ?_ ?_ <;> intro hb <;> try rw [hb]) | (with_reducible refine draw_in (by unfold DrawOk; decide +kernel) ?_) | (with_reducible apply c28) | (with_reducible apply c56) | (with_reducible refine And.intro (by first | omega | (simp only [List.length_map, List.length_take]; omega)) ?_) | fail) <;> try simp only [go_sem, simprocAttr, hE]))
    refine sem_build (ti := ⟨3, 56, true, [.slice none 0 0, .slice none 0 0, .int .u32 0]⟩) (offs := [(0, 1, false), (1, 1, false), (2, 1, false)]) (l := []) (ps := []) (rs := [.cs [], .cs [], .a (U 0)]) (by kernel_rfl) (by kernel_rfl) rfl rfl (by simp only [partsR, go_sem, simprocAttr]) rfl ?_
    (refine of_gate ?_; repeat' ((first | (with_reducible refine gate_in ?_) | (with_reducible refine spK_intro ?_ ?_ <;> intro hp) | (with_reducible refine brK_intro ?_ ?_ <;> intro hb <;> try rw [hb]) | (with_reducible refine draw_in (by unfold DrawOk; decide +kernel) ?_) | (with_reducible refine And.intro (by first | omega | (simp only [List.length_map, List.length_take]; omega)) ?_) | fail) <;> try simp only [go_sem, simprocAttr]))
    trace_state
    skip
end Go.VC
namespace Go.VC
open Go.RowKit Go.Proofs Go.IntWalk
/-- What a call keeps of its caller's registers and objects below B, but for the object n. -/
structure KeepsB (B : Nat) (vs : List Value) (n : Nat) (σ0 σ : S) : Prop where
  fr : σ.mem 999999 = some (.frame vs (upF σ0.regs))
  ob : ∀ o x, (o == n) = false → decide (o < B) = true → σ0.mem o = some x → σ.mem (upId o) = some x.up
structure LeftB (B : Nat) (n : Nat) (σ σ' : S) : Prop where
  r : ∀ {t : Nat} {r : R}, σ.regs t = r → r.up.down = r → σ'.regs t = r
  m : ∀ {o : Nat} {x : Ob}, (o == n) = false → decide (o < B) = true → σ.mem o = some x → x.up.down = x → σ'.mem o = some x
theorem loB {o B : Nat} (hB : B ≤ 900000000) (h : decide (o < B) = true) : decide (o < 999000000) = true := by have := of_decide_eq_true h; exact decide_eq_true (by omega)
theorem end_b {B : Nat} {vs : List Value} {ts : List Tmp} {σ τ : S} {n : Nat} {y : Option Ob} {K : S → List R → Prop} {rs : List R} (hB : B ≤ 900000000) (hn : decide (n < B) = true) (hkp : KeepsB B vs n σ τ) (hy : (τ.mem (upId n)).map Ob.down = y) (hrs : (ts.map fun t => (τ.regs t).down) = rs)
    (hk : ∀ σ' : S, LeftB B n σ σ' → σ'.mem n = y → K σ' rs) {e : Ex} (he : e = .ret ∨ e = .normal) : postG vs ts K e τ := by
  have : postG vs ts K .ret τ := by
    refine ⟨τ, Ghost.refl _, by rw [hkp.fr]; rfl, ?_⟩
    rw [hrs]
    refine hk τ.leave ⟨fun {t r} ht hr => ?_, fun {o x} h1 h2 h3 h4 => ?_⟩ ?_
    · rw [lv_r, hkp.fr, lv_f, ht]; exact hr
    · rw [lv_m (loB hB h2), hkp.ob o x h1 h2 h3]; exact congrArg some h4
    · rw [lv_m (loB hB hn)]; exact hy
  rcases he with rfl | rfl
  · exact this
  · exact this
theorem clo73 {σ : S} {o q i k b : Nat} {rows : List Nat} {K : S → List R → Prop} (ho : decide (o < 900000000) = true) (hq : decide (q < 900000000) = true) (hoq : (o == q) = false) (mo : σ.mem o = some (.box [.own q])) (mq : σ.mem q = some (.log 28 1 (rows.map uenc))) (hi : rows[i]? = some b) (hb : b < 2 ^ 32) (hk : k < 32)
    (hK : ∀ σ' : S, LeftB 900000000 q σ σ' → σ'.mem q = some (.log 28 1 ((rows.set i (b ||| 2 ^ k)).map uenc)) → K σ' []) : Inl Tryd.prog GL 73 [.a (I i), .a (I k), .ref o 0] σ K := by
  have hO := lo9c ho
  have hQ := lo9c hq
  have hO1 : decide (upId o < 1000000000) = true := up_lt hO
  have hQ1 : decide (upId q < 1000000000) = true := up_lt hQ
  have hqo : (q == o) = false := Bool.beq_comm.trans hoq
  have hil := (List.getElem?_eq_some_iff.1 hi).1
  have h2 : 2 ^ k < 2 ^ 32 := Nat.pow_lt_pow_right (by omega) hk
  refine inl_bodyG (by kernel_rfl) Tryd.func73 rfl rfl (by kernel_rfl) (by kernel_rfl) rfl fun vs => ?_
  (refine of_gate ?_; repeat' ((first | (with_reducible refine gate_in ?_) | (with_reducible refine spK_intro ?_ ?_ <;> intro hp) | (with_reducible refine brK_intro ?_ ?_ <;> intro hb <;> try rw [hb]) | (with_reducible refine draw_in (by unfold DrawOk; decide +kernel) ?_) | (with_reducible refine And.intro (by first | omega | (simp only [List.length_map, List.length_take]; omega)) ?_) | fail) <;> try simp only [go_sem, simprocAttr, PI, hO, hQ, hO1, hQ1, hoq, hqo, mo, mq, hi, uenc_eq, u32_shl hk, u32_or hb h2, List.length_map]))
  have hy : (rows.map uenc)[i]? = some (uenc b) := by rw [List.getElem?_map, hi]; rfl
  rw [st_eref_one (sz := 1) (j := 0) (ti := ⟨1, 4, false, [.int .u32 0]⟩) (e := 28) (xs := rows.map uenc) (by kernel_rfl) (by simp only [go_sem, simprocAttr, PI, hO, hQ, hO1, hQ1, hoq, hqo, mo, mq]) hy rfl (by omega) rfl]
  (refine of_gate ?_; repeat' ((first | (with_reducible refine gate_in ?_) | (with_reducible refine spK_intro ?_ ?_ <;> intro hp) | (with_reducible refine brK_intro ?_ ?_ <;> intro hb <;> try rw [hb]) | (with_reducible refine draw_in (by unfold DrawOk; decide +kernel) ?_) | (with_reducible refine And.intro (by first | omega | (simp only [List.length_map, List.length_take]; omega)) ?_) | fail) <;> try simp only [go_sem, simprocAttr, PI, hO, hQ, hO1, hQ1, hoq, hqo, mo, mq]))
  refine end_b (B := 900000000) (n := q) (y := some (.log 28 1 ((rows.set i (b ||| 2 ^ k)).map uenc))) (Nat.le_refl _) hq ⟨by simp only [go_sem, simprocAttr, PI, hQ], fun o' x h1 h2 h3 => by have h2 := lo9c h2; have h4 : (q == o') = false := Bool.beq_comm.trans h1; simp only [go_sem, simprocAttr, PI, h1, h2, h3, h4, hQ]⟩ ?_ rfl (fun σ' h hm => hK σ' h hm) (.inr rfl)
  simp only [go_sem, simprocAttr, PI, hQ, List.map_set]; rfl
end Go.VC
namespace Go.VC
open Go.RowKit Go.Proofs Go.IntWalk
def addE (rows : List Nat) (i k : Nat) : List Nat := match rows[i]? with
  | some b => rows.set i (b ||| 2 ^ k)
  | none => rows
def stepC (l : List Txn) (C : Nat) (place : List Int) (t : Nat) (w v : Int) (rows : List Nat) (c : Nat) : List Nat :=
  if c = t ∨ (c : Int) = w ∨ wrC l C c v = false then rows
  else if w < 0 ∨ place.getD w.toNat 0 < place.getD c 0 then addE rows t c else addE rows c w.toNat
def stepI (l : List Txn) (sr : List (List Int)) (C : Nat) (place : List Int) (t : Nat) (rows : List Nat) (i : Nat) : List Nat := match l[t]?.bind (·.ops[i]?), sr[t]?.bind (·[i]?) with
  | some o, some w => if o.w = true ∨ w = t then rows else (List.range l.length).foldl (stepC l C place t w o.var) (if 0 ≤ w then addE rows w.toNat t else rows)
  | _, _ => rows
def stepT (l : List Txn) (sr : List (List Int)) (C : Nat) (place : List Int) (rows : List Nat) (t : Nat) : List Nat := match l[t]? with
  | some x => (List.range x.ops.length).foldl (stepI l sr C place t) rows
  | none => rows
/-- What edges sets. -/
def edgesF (l : List Txn) (sr : List (List Int)) (C : Nat) (place : List Int) (rows : List Nat) : List Nat := (List.range l.length).foldl (stepT l sr C place) rows
theorem fold_s {α : Type} (f : α → Nat → α) (a : α) (k : Nat) : (List.range (k + 1)).foldl f a = f ((List.range k).foldl f a) k := by
  rw [List.range_succ, List.foldl_append]; rfl
structure RowsOk (n : Nat) (rows : List Nat) : Prop where
  len : rows.length = n
  lt : ∀ b ∈ rows, b < 2 ^ 32
theorem addE_ok {n : Nat} {rows : List Nat} {i k : Nat} (h : RowsOk n rows) (hk : k < 32) : RowsOk n (addE rows i k) := by
  unfold addE
  split
  · rename_i b hb
    refine ⟨by rw [List.length_set]; exact h.len, fun x hx => ?_⟩
    rcases List.mem_or_eq_of_mem_set hx with h1 | rfl
    · exact h.lt x h1
    · exact Nat.or_lt_two_pow (h.lt b (List.mem_of_getElem? hb)) (Nat.pow_lt_pow_right (by omega) hk)
  · exact h
/-- What the body of edges knows at its loops. -/
structure EdI (vs : List Value) (σ0 : S) (l : List Txn) (sr : List (List Int)) (C : Nat) (place : List Int) (rows : List Nat) (τ : S) : Prop where
  r1 : τ.regs 1 = .own (upId 26)
  r2 : τ.regs 2 = .clo 73 [(upId 12, 0)]
  r3 : τ.regs 3 = .ref 3 0
  m3 : τ.mem 3 = some (.box [.a (.d (.sl (l.map Txn.enc))), .a (.d (.sl (sr.map intRow))), .a (.d (.v (.int .u32 C)))])
  mp : τ.mem (upId 26) = some (.log 3 1 (place.map ienc))
  mb : τ.mem (upId 12) = some (.box [.own (upId 2008)])
  mq : τ.mem (upId 2008) = some (.log 28 1 (rows.map uenc))
  kp : KeepsB 800000000 vs 2008 σ0 τ
  ok : RowsOk l.length rows
section
variable {vs : List Value} {σ0 τ : S} {l : List Txn} {sr : List (List Int)} {C : Nat} {place : List Int} {rows : List Nat}
theorem EdI.put {d : Nat} {r : R} (hd : ((d == 1) || (d == 2) || (d == 3)) = false) (h : EdI vs σ0 l sr C place rows τ) : EdI vs σ0 l sr C place rows (τ.put (some d) r) := by
  simp only [Bool.or_eq_false_iff] at hd
  obtain ⟨⟨h1, h2⟩, h3⟩ := hd
  exact ⟨by simp only [go_sem, simprocAttr, PI, h1, h.r1], by simp only [go_sem, simprocAttr, PI, h2, h.r2], by simp only [go_sem, simprocAttr, PI, h3, h.r3], h.m3, h.mp, h.mb, h.mq, ⟨h.kp.fr, h.kp.ob⟩, h.ok⟩
theorem EdI.put_n {r : R} (h : EdI vs σ0 l sr C place rows τ) : EdI vs σ0 l sr C place rows (τ.put none r) := h
theorem kill_clo1 {d o f : Nat} {g : FuncId} (h : d < 1000000) : R.kill d (.clo g [(upId o, f)]) = .clo g [(upId o, f)] := by
  rw [← up_clo]; exact kill_up_lo h
theorem EdI.new {d : Nat} {x : Ob} (hd : decide (d < 999999) = true) (hd1 : decide (d < 1000000) = true) (hd3 : (d == 3) = false) (h : EdI vs σ0 l sr C place rows τ) : EdI vs σ0 l sr C place rows (τ.newOb d x) := by
  have h3 : (3 == d) = false := Bool.beq_comm.trans hd3
  have h9 : (d == 999999) = false := by have := of_decide_eq_true hd; simp; omega
  obtain ⟨r1, r2, r3, m3, mp, mb, mq, ⟨fr, ob⟩, ok⟩ := h
  refine ⟨by simp only [go_sem, simprocAttr, PI, hd1, r1], by simp only [go_sem, simprocAttr, PI, hd1, r2, kill_clo1 (of_decide_eq_true hd1)], by simp only [go_sem, simprocAttr, PI, hd1, r3, h3], by simp only [go_sem, simprocAttr, PI, hd1, m3, hd3], by simp only [go_sem, simprocAttr, PI, hd1, mp], by simp only [go_sem, simprocAttr, PI, hd1, mb], by simp only [go_sem, simprocAttr, PI, hd1, mq], ⟨by simp only [go_sem, simprocAttr, PI, hd1, fr, h9], fun o x h1 h2 h3 => ?_⟩, ok⟩
  have h5 := ob o x h1 h2 h3
  have h6 := of_decide_eq_true hd1
  simp only [go_sem, simprocAttr, PI, hd1, h5, okill_lo h6]
theorem EdI.set {d : Nat} {x : Ob} (hd : decide (d < 999999) = true) (hd1 : decide (d < 1000000) = true) (hd3 : (d == 3) = false) (h : EdI vs σ0 l sr C place rows τ) : EdI vs σ0 l sr C place rows (τ.setOb d x) := by
  have h9 : (d == 999999) = false := by have := of_decide_eq_true hd; simp; omega
  obtain ⟨r1, r2, r3, m3, mp, mb, mq, ⟨fr, ob⟩, ok⟩ := h
  refine ⟨by simp only [go_sem, simprocAttr, PI, r1], by simp only [go_sem, simprocAttr, PI, r2], by simp only [go_sem, simprocAttr, PI, r3], by simp only [go_sem, simprocAttr, PI, hd1, m3, hd3], by simp only [go_sem, simprocAttr, PI, hd1, mp], by simp only [go_sem, simprocAttr, PI, hd1, mb], by simp only [go_sem, simprocAttr, PI, hd1, mq], ⟨by simp only [go_sem, simprocAttr, PI, hd1, fr, h9], fun o x h1 h2 h3 => ?_⟩, ok⟩
  have h5 := ob o x h1 h2 h3
  simp only [go_sem, simprocAttr, PI, hd1, h5]
theorem up_own1 {o : Nat} : R.down (R.up (.own o)) = .own o := by simp [R.up, R.down, upId_sub, upId_le]
theorem up_log1 {e : TypeId} {z : Nat} {xs : List (List D)} : Ob.down (Ob.up (.log e z xs)) = .log e z xs := rfl
theorem up_boxO {o : Nat} : Ob.down (Ob.up (.box [.own o])) = .box [.own o] := by simp [Ob.up, Ob.down, R.up, R.down, upId_sub, upId_le]
theorem up_frame {rg : Nat → R} : Ob.down (Ob.up (.frame vs (upF rg))) = .frame vs (upF rg) := by
  show Ob.frame vs (fun t => ((upF rg t).up).down) = _
  congr 1
  funext t
  exact up_up_down (rg t)
theorem up_obj (x : Ob) : Ob.down (Ob.up x.up) = x.up := (fineO_up (q := 0) (by omega) x).1
theorem EdI.left {σ' : S} {rows' : List Nat} (h : EdI vs σ0 l sr C place rows τ) (hL : LeftB 900000000 (upId 2008) τ σ') (hm : σ'.mem (upId 2008) = some (.log 28 1 (rows'.map uenc))) (hok : RowsOk l.length rows') : EdI vs σ0 l sr C place rows' σ' := by
  obtain ⟨r1, r2, r3, m3, mp, mb, mq, ⟨fr, ob⟩, ok⟩ := h
  have u : ∀ {o : Nat}, decide (o < 800000000) = true → decide (upId o < 900000000) = true := fun {o} h => by
    have h := of_decide_eq_true h; have := upId_eq o; exact decide_eq_true (by omega)
  have ne : ∀ {d : Nat}, d < 1000000 → (d == upId 2008) = false := fun {d} h => by
    have := upId_le 2008; simp; omega
  refine ⟨hL.r r1 up_own1, hL.r r2 up_clo1, hL.r r3 up_ref1, hL.m (ne (by omega)) rfl m3 rfl, hL.m (by simp only [go_sem, simprocAttr, PI]) (u rfl) mp up_log1, hL.m (by simp only [go_sem, simprocAttr, PI]) (u rfl) mb up_boxO, hm, ⟨hL.m (ne (by omega)) rfl fr up_frame, fun o x h1 h2 h3 => ?_⟩, hok⟩
  exact hL.m (by simp only [go_sem, simprocAttr, PI, h1]) (u h2) (ob o x h1 h2 h3) (up_obj x)
end
end Go.VC
end
section
set_option maxRecDepth 100000
set_option linter.unusedSimpArgs false
set_option linter.unusedVariables false
set_option linter.unnecessarySimpa false
namespace Go.VC
open Go.RowKit Go.Proofs Go.IntWalk
theorem addE_at {rows : List Nat} {i k b : Nat} (h : rows[i]? = some b) : addE rows i k = rows.set i (b ||| 2 ^ k) := by simp only [addE, h]
structure EdO (vs : List Value) (σ0 : S) (l : List Txn) (sr : List (List Int)) (C : Nat) (place : List Int) (rows0 : List Nat) (t : Nat) (τ : S) : Prop where
  le : t ≤ l.length
  r13 : τ.regs 13 = .a (txnsA l)
  r14 : τ.regs 14 = .a (I l.length)
  r15 : τ.regs 15 = .a (I t)
  ed : EdI vs σ0 l sr C place ((List.range t).foldl (stepT l sr C place) rows0) τ
structure EdM (vs : List Value) (σ0 : S) (l : List Txn) (sr : List (List Int)) (C : Nat) (place : List Int) (t : Nat) (x : Txn) (rowsT : List Nat) (i : Nat) (τ : S) : Prop where
  le : i ≤ x.ops.length
  r13 : τ.regs 13 = .a (txnsA l)
  r14 : τ.regs 14 = .a (I l.length)
  r15 : τ.regs 15 = .a (I t)
  r6 : τ.regs 6 = .a (I t)
  r21 : τ.regs 21 = (.a (opsA' x.ops))
  r22 : τ.regs 22 = .a (I x.ops.length)
  r23 : τ.regs 23 = .a (I i)
  ed : EdI vs σ0 l sr C place ((List.range i).foldl (stepI l sr C place t) rowsT) τ
structure EdC (vs : List Value) (σ0 : S) (l : List Txn) (sr : List (List Int)) (C : Nat) (place : List Int) (t : Nat) (x : Txn) (i : Nat) (o : Op) (v : Int) (rowsJ : List Nat) (c : Nat) (τ : S) : Prop where
  le : c ≤ l.length
  r13 : τ.regs 13 = .a (txnsA l)
  r14 : τ.regs 14 = .a (I l.length)
  r15 : τ.regs 15 = .a (I t)
  r6 : τ.regs 6 = .a (I t)
  r21 : τ.regs 21 = (.a (opsA' x.ops))
  r22 : τ.regs 22 = .a (I x.ops.length)
  r23 : τ.regs 23 = .a (I i)
  r9 : τ.regs 9 = .ref 9 0
  r10 : τ.regs 10 = .a (I v)
  r51 : τ.regs 51 = .a (I l.length)
  r52 : τ.regs 52 = .a (I c)
  m9 : τ.mem 9 = some (.box [.a (B o.w), .a (I o.var), .a (I o.val)])
  ed : EdI vs σ0 l sr C place ((List.range c).foldl (stepC l C place t v o.var) rowsJ) τ
set_option maxHeartbeats 4000000 in
theorem edges_inl {σ : S} {l : List Txn} {sr : List (List Int)} {C : Nat} {place : List Int} {rows0 : List Nat} {K : S → List R → Prop} (hf : FitT l) (hl : l.length ≤ 30) (hS : SrcT l sr) (hC : C < 2 ^ 32) (hpl : place.length = l.length) (hok : RowsOk l.length rows0) (m12 : σ.mem 12 = some (.box [.own 2008])) (mq : σ.mem 2008 = some (.log 28 1 (rows0.map uenc))) (mp : σ.mem 26 = some (.log 3 1 (place.map ienc)))
    (hK : ∀ σ' : S, LeftB 800000000 2008 σ σ' → σ'.mem 2008 = some (.log 28 1 ((edgesF l sr C place rows0).map uenc)) → K σ' []) : Inl Tryd.prog GL 72 [.a (trA l sr C), .own 26, .clo 73 [(12, 0)]] σ K := by
  have u12 : decide (upId 12 < 900000000) = true := by have := upId_eq 12; exact decide_eq_true (by omega)
  have u2008 : decide (upId 2008 < 900000000) = true := by have := upId_eq 2008; exact decide_eq_true (by omega)
  have une : (upId 12 == upId 2008) = false := by simp only [go_sem, simprocAttr, PI]
  refine inl_bodyG (by kernel_rfl) Tryd.func72 rfl rfl (by kernel_rfl) (by kernel_rfl) rfl fun vs => ?_
  (refine of_gate ?_; repeat' ((first | (with_reducible refine gate_in ?_) | (with_reducible refine spK_intro ?_ ?_ <;> intro hp) | (with_reducible refine brK_intro ?_ ?_ <;> intro hb <;> try rw [hb]) | (with_reducible refine draw_in (by unfold DrawOk; decide +kernel) ?_) | (with_reducible refine And.intro (by first | omega | (simp only [List.length_map, List.length_take]; omega)) ?_) | fail) <;> try simp only [go_sem, simprocAttr, PI, m12, mq, mp, List.length_map]))
  refine awp_loopG (EdO vs σ l sr C place rows0) (l.length - ·) 0 ⟨_, Ghost.refl _, Nat.zero_le _, ?_, ?_, ?_, ⟨?_, ?_, ?_, ?_, ?_, ?_, ?_, ⟨?_, fun o x h1 h2 h3 => ?_⟩, hok⟩⟩ ?_
  iterate 11 (· simp only [go_sem, simprocAttr, PI, m12, mq, mp, List.length_map, List.range_zero, List.foldl_nil, kill_clo1 (d := 3) (by omega)]; try rfl)
  · have h4 := loB (by omega) h2
    simp only [go_sem, simprocAttr, PI, h1, h3, h4, okill_loT]
  intro t τ hJ
  obtain ⟨ht, r13, r14, r15, ed⟩ := hJ
  have q1 := ed.r1
  have q2 := ed.r2
  have q3 := ed.r3
  have n3 := ed.m3
  have np := ed.mp
  have nb := ed.mb
  have nq := ed.mq
  (refine of_gate ?_; repeat' ((first | (with_reducible refine gate_in ?_) | (with_reducible refine spK_intro ?_ ?_ <;> intro hp) | (with_reducible refine brK_intro ?_ ?_ <;> intro hb <;> try rw [hb]) | (with_reducible refine draw_in (by unfold DrawOk; decide +kernel) ?_) | (with_reducible refine And.intro (by first | omega | (simp only [List.length_map, List.length_take]; omega)) ?_) | fail) <;> try simp only [go_sem, simprocAttr, PI, q1, q2, q3, n3, r13, r14, r15]))
  · have htl : t < l.length := by omega
    have hw := wrap_succ (n := l.length) htl (by simp only [maxLen]; omega)
    obtain ⟨x, hx⟩ : ∃ x, l[t]? = some x := ⟨_, List.getElem?_eq_getElem htl⟩
    have hol : x.ops.length ≤ 1000000 := by have := hf.at htl; rw [(List.getElem?_eq_some_iff.1 hx).2] at this; exact this
    obtain ⟨r, hr⟩ : ∃ r, sr[t]? = some r := ⟨_, List.getElem?_eq_getElem (by rw [hS.len]; exact htl)⟩
    have hrl := hS.row t x r hx hr
    generalize hT : (List.range t).foldl (stepT l sr C place) rows0 = rowsT at ed
    have hst : (List.range (t + 1)).foldl (stepT l sr C place) rows0 = (List.range x.ops.length).foldl (stepI l sr C place t) rowsT := by rw [fold_s, hT]; simp only [stepT, hx]
    (refine of_gate ?_; repeat' ((first | (with_reducible refine gate_in ?_) | (with_reducible refine spK_intro ?_ ?_ <;> intro hp) | (with_reducible refine brK_intro ?_ ?_ <;> intro hb <;> try rw [hb]) | (with_reducible refine draw_in (by unfold DrawOk; decide +kernel) ?_) | (with_reducible refine And.intro (by first | omega | (simp only [List.length_map, List.length_take]; omega)) ?_) | fail) <;> try simp only [go_sem, simprocAttr, PI, q1, q2, q3, n3, r13, r14, r15, hx, Txn.enc_eq, List.length_map]))
    refine awp_loopG (EdM vs σ l sr C place t x rowsT) (x.ops.length - ·) 0 ⟨_, Ghost.refl _, Nat.zero_le _, ?_, ?_, ?_, ?_, ?_, ?_, ?_, (by repeat' first | (with_reducible exact ed) | (with_reducible refine EdI.put_n ?_) | refine EdI.put rfl ?_ | refine EdI.new rfl rfl rfl ?_ | refine EdI.set rfl rfl rfl ?_ | exact ed)⟩ ?_
    iterate 7 (· simp only [go_sem, simprocAttr, PI, r13, r14, r15, List.length_map]; try rfl)
    intro i τ2 hJ2
    obtain ⟨hi, r13, r14, r15, r6, r21, r22, r23, ed⟩ := hJ2
    have q1 := ed.r1
    have q2 := ed.r2
    have q3 := ed.r3
    have n3 := ed.m3
    have np := ed.mp
    have nb := ed.mb
    have nq := ed.mq
    (refine of_gate ?_; repeat' ((first | (with_reducible refine gate_in ?_) | (with_reducible refine spK_intro ?_ ?_ <;> intro hp) | (with_reducible refine brK_intro ?_ ?_ <;> intro hb <;> try rw [hb]) | (with_reducible refine draw_in (by unfold DrawOk; decide +kernel) ?_) | (with_reducible refine And.intro (by first | omega | (simp only [List.length_map, List.length_take]; omega)) ?_) | fail) <;> try simp only [go_sem, simprocAttr, PI, q1, q2, q3, n3, r13, r14, r15, r6, r21, r22, r23]))
    · have hil : i < x.ops.length := by omega
      have hwi := wrap_succ (n := x.ops.length) hil (by simp only [maxLen]; omega)
      obtain ⟨o, ho⟩ : ∃ o, x.ops[i]? = some o := ⟨_, List.getElem?_eq_getElem hil⟩
      obtain ⟨v, hv⟩ : ∃ v, r[i]? = some v := ⟨_, List.getElem?_eq_getElem (by omega)⟩
      have hsrc := hS.src t r v hr (List.mem_of_getElem? hv)
      generalize hI : (List.range i).foldl (stepI l sr C place t) rowsT = rowsI at ed nq
      have hstep : (List.range (i + 1)).foldl (stepI l sr C place t) rowsT = if o.w = true ∨ v = t then rowsI else (List.range l.length).foldl (stepC l C place t v o.var) (if 0 ≤ v then addE rowsI v.toNat t else rowsI) := by rw [fold_s, hI]; simp only [stepI, hx, ho, hr, hv, Option.bind_some]
      by_cases how : o.w = true
      · rw [if_pos (.inl how)] at hstep
        (refine of_gate ?_; repeat' ((first | (with_reducible refine gate_in ?_) | (with_reducible refine spK_intro ?_ ?_ <;> intro hp) | (with_reducible refine brK_intro ?_ ?_ <;> intro hb <;> try rw [hb]) | (with_reducible refine draw_in (by unfold DrawOk; decide +kernel) ?_) | (with_reducible refine And.intro (by first | omega | (simp only [List.length_map, List.length_take]; omega)) ?_) | fail) <;> try simp only [go_sem, simprocAttr, PI, q1, q2, q3, n3, r13, r14, r15, r6, r21, r22, r23, hx, ho, hr, hv, Txn.enc_eq, Op.enc_eq, intRow_eq, ienc_eq, hwi, List.length_map, how]))
        refine ⟨_, i + 1, Ghost.refl _, ⟨hil, ?_, ?_, ?_, ?_, ?_, ?_, ?_, ?_⟩, by omega⟩
        iterate 7 (· simp only [go_sem, simprocAttr, PI, r13, r14, r15, r6, r21, r22, r23, hwi])
        · rw [hstep]; exact (by repeat' first | (with_reducible exact ed) | (with_reducible refine EdI.put_n ?_) | refine EdI.put rfl ?_ | refine EdI.new rfl rfl rfl ?_ | refine EdI.set rfl rfl rfl ?_ | exact ed)
      · have how : o.w = false := by simpa using how
        by_cases hvt : v = t
        · rw [if_pos (.inr hvt)] at hstep
          skip
          (refine of_gate ?_; repeat' ((first | (with_reducible refine gate_in ?_) | (with_reducible refine spK_intro ?_ ?_ <;> intro hp) | (with_reducible refine brK_intro ?_ ?_ <;> intro hb <;> try rw [hb]) | (with_reducible refine draw_in (by unfold DrawOk; decide +kernel) ?_) | (with_reducible refine And.intro (by first | omega | (simp only [List.length_map, List.length_take]; omega)) ?_) | fail) <;> try simp only [go_sem, simprocAttr, PI, q1, q2, q3, n3, r13, r14, r15, r6, r21, r22, r23, hx, ho, hr, hv, Txn.enc_eq, Op.enc_eq, intRow_eq, ienc_eq, hwi, List.length_map, how, hvt]))
          refine ⟨_, i + 1, Ghost.refl _, ⟨hil, ?_, ?_, ?_, ?_, ?_, ?_, ?_, ?_⟩, by omega⟩
          iterate 7 (· simp only [go_sem, simprocAttr, PI, r13, r14, r15, r6, r21, r22, r23, hwi])
          · rw [hstep]; exact (by repeat' first | (with_reducible exact ed) | (with_reducible refine EdI.put_n ?_) | refine EdI.put rfl ?_ | refine EdI.new rfl rfl rfl ?_ | refine EdI.set rfl rfl rfl ?_ | exact ed)
        · rw [if_neg (by simp [how, hvt])] at hstep
          have hcases : v < 0 ∨ ∃ k : Nat, v = k ∧ k < l.length := by rcases hsrc with h | h | h <;> first | exact .inl (by omega) | exact .inr h
          rcases hcases with hneg | ⟨k, rfl, hk⟩
          · have hneg2 : ¬ (v ≥ 0) := by omega
            rw [if_neg (by omega)] at hstep
            (refine of_gate ?_; repeat' ((first | (with_reducible refine gate_in ?_) | (with_reducible refine spK_intro ?_ ?_ <;> intro hp) | (with_reducible refine brK_intro ?_ ?_ <;> intro hb <;> try rw [hb]) | (with_reducible refine draw_in (by unfold DrawOk; decide +kernel) ?_) | (with_reducible refine And.intro (by first | omega | (simp only [List.length_map, List.length_take]; omega)) ?_) | fail) <;> try simp only [go_sem, simprocAttr, PI, q1, q2, q3, n3, r13, r14, r15, r6, r21, r22, r23, hx, ho, hr, hv, Txn.enc_eq, Op.enc_eq, intRow_eq, ienc_eq, hwi, List.length_map, how, hvt, hneg2]))
            refine awp_loopG (EdC vs σ l sr C place t x i o v (rowsI)) (l.length - ·) 0 ⟨_, Ghost.refl _, Nat.zero_le _, ?_, ?_, ?_, ?_, ?_, ?_, ?_, ?_, ?_, ?_, ?_, ?_, (by repeat' first | (with_reducible exact ed) | (with_reducible refine EdI.put_n ?_) | refine EdI.put rfl ?_ | refine EdI.new rfl rfl rfl ?_ | refine EdI.set rfl rfl rfl ?_ | exact ed)⟩ ?_
            iterate 12 (· simp only [go_sem, simprocAttr, PI, r13, r14, r15, r6, r21, r22, r23, how, List.length_map]; try rfl)
            intro c τ3 hJ3
            obtain ⟨hc, r13, r14, r15, r6, r21, r22, r23, r9, r10, r51, r52, m9, ed⟩ := hJ3
            have q1 := ed.r1
            have q2 := ed.r2
            have q3 := ed.r3
            have n3 := ed.m3
            have np := ed.mp
            have nb := ed.mb
            have nq := ed.mq
            have hwc := wrap_succ (k := c) (n := l.length + 1) (by omega) (by simp only [maxLen]; omega)
            generalize hQ : (List.range c).foldl (stepC l C place t v o.var) (rowsI) = rowsC at ed nq
            have hsC : (List.range (c + 1)).foldl (stepC l C place t v o.var) (rowsI) = stepC l C place t v o.var rowsC c := by rw [fold_s, hQ]
            have okC := ed.ok
            (refine of_gate ?_; repeat' ((first | (with_reducible refine gate_in ?_) | (with_reducible refine spK_intro ?_ ?_ <;> intro hp) | (with_reducible refine brK_intro ?_ ?_ <;> intro hb <;> try rw [hb]) | (with_reducible refine draw_in (by unfold DrawOk; decide +kernel) ?_) | (with_reducible refine And.intro (by first | omega | (simp only [List.length_map, List.length_take]; omega)) ?_) | fail) <;> try simp only [go_sem, simprocAttr, PI, q1, q2, q3, n3, r13, r14, r15, r6, r21, r22, r23, r9, r10, r51, r52, m9, hwc]))
            · have hcl : c < l.length := by omega
              have hS0 : stepC l C place t v o.var rowsC c = rowsC := by unfold stepC; rw [if_pos (.inl (by omega))]
              refine ⟨_, c + 1, Ghost.refl _, ⟨hcl, ?_, ?_, ?_, ?_, ?_, ?_, ?_, ?_, ?_, ?_, ?_, ?_, ?_⟩, by omega⟩
              iterate 12 (· simp only [go_sem, simprocAttr, PI, r13, r14, r15, r6, r21, r22, r23, r9, r10, r51, r52, m9, hwc])
              · rw [hsC, hS0]; exact (by repeat' first | (with_reducible exact ed) | (with_reducible refine EdI.put_n ?_) | refine EdI.put rfl ?_ | refine EdI.new rfl rfl rfl ?_ | refine EdI.set rfl rfl rfl ?_ | exact ed)
            · have hcl : c < l.length := by omega
              have hS0 : stepC l C place t v o.var rowsC c = rowsC := by unfold stepC; rw [if_pos (.inr (.inl (by omega)))]
              refine ⟨_, c + 1, Ghost.refl _, ⟨hcl, ?_, ?_, ?_, ?_, ?_, ?_, ?_, ?_, ?_, ?_, ?_, ?_, ?_⟩, by omega⟩
              iterate 12 (· simp only [go_sem, simprocAttr, PI, r13, r14, r15, r6, r21, r22, r23, r9, r10, r51, r52, m9, hwc])
              · rw [hsC, hS0]; exact (by repeat' first | (with_reducible exact ed) | (with_reducible refine EdI.put_n ?_) | refine EdI.put rfl ?_ | refine EdI.new rfl rfl rfl ?_ | refine EdI.set rfl rfl rfl ?_ | exact ed)
            · have hcl : c < l.length := by omega
              refine call_dat (t98 l hf sr C c o.var hC (by omega) hcl) ?_
              cases hW : wrC l C c o.var with
              | false =>
                have hS0 : stepC l C place t v o.var rowsC c = rowsC := by unfold stepC; rw [if_pos (.inr (.inr hW))]
                (refine of_gate ?_; repeat' ((first | (with_reducible refine gate_in ?_) | (with_reducible refine spK_intro ?_ ?_ <;> intro hp) | (with_reducible refine brK_intro ?_ ?_ <;> intro hb <;> try rw [hb]) | (with_reducible refine draw_in (by unfold DrawOk; decide +kernel) ?_) | (with_reducible refine And.intro (by first | omega | (simp only [List.length_map, List.length_take]; omega)) ?_) | fail) <;> try simp only [go_sem, simprocAttr, PI, q1, q2, q3, n3, r13, r14, r15, r6, r21, r22, r23, r9, r10, r51, r52, m9, hwc]))
                refine ⟨_, c + 1, Ghost.refl _, ⟨hcl, ?_, ?_, ?_, ?_, ?_, ?_, ?_, ?_, ?_, ?_, ?_, ?_, ?_⟩, by omega⟩
                iterate 12 (· simp only [go_sem, simprocAttr, PI, r13, r14, r15, r6, r21, r22, r23, r9, r10, r51, r52, m9, hwc])
                · rw [hsC, hS0]; exact (by repeat' first | (with_reducible exact ed) | (with_reducible refine EdI.put_n ?_) | refine EdI.put rfl ?_ | refine EdI.new rfl rfl rfl ?_ | refine EdI.set rfl rfl rfl ?_ | exact ed)
              | true =>
                have hnot : ¬ (c = t ∨ (c : Int) = v ∨ wrC l C c o.var = false) := fun h => by rcases h with h | h | h <;> first | omega | (rw [hW] at h; cases h)
                have hS0 : stepC l C place t v o.var rowsC c = addE rowsC t c := by unfold stepC; rw [if_neg hnot, if_pos (.inl (by omega))]
                (refine of_gate ?_; repeat' ((first | (with_reducible refine gate_in ?_) | (with_reducible refine spK_intro ?_ ?_ <;> intro hp) | (with_reducible refine brK_intro ?_ ?_ <;> intro hb <;> try rw [hb]) | (with_reducible refine draw_in (by unfold DrawOk; decide +kernel) ?_) | (with_reducible refine And.intro (by first | omega | (simp only [List.length_map, List.length_take]; omega)) ?_) | fail) <;> try simp only [go_sem, simprocAttr, PI, q1, q2, q3, n3, r13, r14, r15, r6, r21, r22, r23, r9, r10, r51, r52, m9, np, hneg, hwc]))
                obtain ⟨b1, hb1⟩ : ∃ b, rowsC[t]? = some b := ⟨_, List.getElem?_eq_getElem (by rw [okC.len]; omega)⟩
                refine clo73 (o := upId 12) (q := upId 2008) (rows := rowsC) (i := t) (k := c) (b := b1) u12 u2008 une (by simp only [go_sem, simprocAttr, PI, nb]) (by simp only [go_sem, simprocAttr, PI, nq]) hb1 (okC.lt _ (List.mem_of_getElem? hb1)) (by omega) fun σ4 hL hm => ?_
                rw [← addE_at hb1] at hm
                have ed := EdI.left (vs := vs) (σ0 := σ) (sr := sr) (C := C) (place := place) (rows := rowsC) (by repeat' first | (with_reducible exact ed) | (with_reducible refine EdI.put_n ?_) | refine EdI.put rfl ?_ | refine EdI.new rfl rfl rfl ?_ | refine EdI.set rfl rfl rfl ?_ | exact ed) hL hm (addE_ok okC (by omega))
                have r13 := hL.r (t := 13) (r := .a (txnsA l)) (by simp only [go_sem, simprocAttr, PI, r13]) rfl
                have r14 := hL.r (t := 14) (r := .a (I l.length)) (by simp only [go_sem, simprocAttr, PI, r14]) rfl
                have r15 := hL.r (t := 15) (r := .a (I t)) (by simp only [go_sem, simprocAttr, PI, r15]) rfl
                have r6 := hL.r (t := 6) (r := .a (I t)) (by simp only [go_sem, simprocAttr, PI, r6]) rfl
                have r21 := hL.r (t := 21) (r := (.a (opsA' x.ops))) (by simp only [go_sem, simprocAttr, PI, r21]) rfl
                have r22 := hL.r (t := 22) (r := .a (I x.ops.length)) (by simp only [go_sem, simprocAttr, PI, r22]) rfl
                have r23 := hL.r (t := 23) (r := .a (I i)) (by simp only [go_sem, simprocAttr, PI, r23]) rfl
                have r9 := hL.r (t := 9) (r := .ref 9 0) (by simp only [go_sem, simprocAttr, PI, r9]) up_ref1
                have r10 := hL.r (t := 10) (r := .a (I v)) (by simp only [go_sem, simprocAttr, PI, r10]) rfl
                have r51 := hL.r (t := 51) (r := .a (I l.length)) (by simp only [go_sem, simprocAttr, PI, r51]) rfl
                have r52 := hL.r (t := 52) (r := .a (I c)) (by simp only [go_sem, simprocAttr, PI, r52]) rfl
                have m9 := hL.m (o := 9) (x := .box [.a (B o.w), .a (I o.var), .a (I o.val)]) (by simp only [go_sem, simprocAttr, PI]) rfl (by simp only [go_sem, simprocAttr, PI, m9]) rfl
                (refine of_gate ?_; repeat' ((first | (with_reducible refine gate_in ?_) | (with_reducible refine spK_intro ?_ ?_ <;> intro hp) | (with_reducible refine brK_intro ?_ ?_ <;> intro hb <;> try rw [hb]) | (with_reducible refine draw_in (by unfold DrawOk; decide +kernel) ?_) | (with_reducible refine And.intro (by first | omega | (simp only [List.length_map, List.length_take]; omega)) ?_) | fail) <;> try simp only [go_sem, simprocAttr, one, PI, r13, r14, r15, r6, r21, r22, r23, r9, r10, r51, r52, m9, hwc]))
                refine ⟨_, c + 1, Ghost.refl _, ⟨hcl, ?_, ?_, ?_, ?_, ?_, ?_, ?_, ?_, ?_, ?_, ?_, ?_, ?_⟩, by omega⟩
                iterate 12 (· simp only [go_sem, simprocAttr, PI, r13, r14, r15, r6, r21, r22, r23, r9, r10, r51, r52, m9, hwc])
                · rw [hsC, hS0]; exact (by repeat' first | (with_reducible exact ed) | (with_reducible refine EdI.put_n ?_) | refine EdI.put rfl ?_ | refine EdI.new rfl rfl rfl ?_ | refine EdI.set rfl rfl rfl ?_ | exact ed)
            · obtain rfl : c = l.length := by omega
              subst hQ
              (refine of_gate ?_; repeat' ((first | (with_reducible refine gate_in ?_) | (with_reducible refine spK_intro ?_ ?_ <;> intro hp) | (with_reducible refine brK_intro ?_ ?_ <;> intro hb <;> try rw [hb]) | (with_reducible refine draw_in (by unfold DrawOk; decide +kernel) ?_) | (with_reducible refine And.intro (by first | omega | (simp only [List.length_map, List.length_take]; omega)) ?_) | fail) <;> try simp only [go_sem, simprocAttr, PI, q1, q2, q3, n3, r13, r14, r15, r6, r21, r22, r23, r9, r10, r51, r52, m9, hwi]))
              refine ⟨_, i + 1, Ghost.refl _, ⟨hil, ?_, ?_, ?_, ?_, ?_, ?_, ?_, ?_⟩, by omega⟩
              iterate 7 (· simp only [go_sem, simprocAttr, PI, r13, r14, r15, r6, r21, r22, r23, hwi])
              · rw [hstep]; exact (by repeat' first | (with_reducible exact ed) | (with_reducible refine EdI.put_n ?_) | refine EdI.put rfl ?_ | refine EdI.new rfl rfl rfl ?_ | refine EdI.set rfl rfl rfl ?_ | exact ed)
          · have hneg : ¬ ((k : Int) < 0) := by omega
            have hneg2 : (k : Int) ≥ 0 := by omega
            have okI := ed.ok
            rw [if_pos (by omega), Int.toNat_natCast] at hstep
            (refine of_gate ?_; repeat' ((first | (with_reducible refine gate_in ?_) | (with_reducible refine spK_intro ?_ ?_ <;> intro hp) | (with_reducible refine brK_intro ?_ ?_ <;> intro hb <;> try rw [hb]) | (with_reducible refine draw_in (by unfold DrawOk; decide +kernel) ?_) | (with_reducible refine And.intro (by first | omega | (simp only [List.length_map, List.length_take]; omega)) ?_) | fail) <;> try simp only [go_sem, simprocAttr, PI, q1, q2, q3, n3, r13, r14, r15, r6, r21, r22, r23, hx, ho, hr, hv, Txn.enc_eq, Op.enc_eq, intRow_eq, ienc_eq, hwi, List.length_map, how, hvt, hneg2, kill_clo1 (d := 9) (by omega)]))
            obtain ⟨b0, hb0⟩ : ∃ b, rowsI[k]? = some b := ⟨_, List.getElem?_eq_getElem (by rw [okI.len]; omega)⟩
            refine clo73 (o := upId 12) (q := upId 2008) (rows := rowsI) (i := k) (k := t) (b := b0) u12 u2008 une (by simp only [go_sem, simprocAttr, PI, nb]) (by simp only [go_sem, simprocAttr, PI, nq]) hb0 (okI.lt _ (List.mem_of_getElem? hb0)) (by omega) fun σ3 hL hm => ?_
            rw [← addE_at hb0] at hm
            have ed := EdI.left (vs := vs) (σ0 := σ) (sr := sr) (C := C) (place := place) (rows := rowsI) (by repeat' first | (with_reducible exact ed) | (with_reducible refine EdI.put_n ?_) | refine EdI.put rfl ?_ | refine EdI.new rfl rfl rfl ?_ | refine EdI.set rfl rfl rfl ?_ | exact ed) hL hm (addE_ok okI (by omega))
            have r13 := hL.r (t := 13) (r := .a (txnsA l)) (by simp only [go_sem, simprocAttr, PI, r13]) rfl
            have r14 := hL.r (t := 14) (r := .a (I l.length)) (by simp only [go_sem, simprocAttr, PI, r14]) rfl
            have r15 := hL.r (t := 15) (r := .a (I t)) (by simp only [go_sem, simprocAttr, PI, r15]) rfl
            have r6 := hL.r (t := 6) (r := .a (I t)) (by simp only [go_sem, simprocAttr, PI, r6]) rfl
            have r21 := hL.r (t := 21) (r := (.a (opsA' x.ops))) (by simp only [go_sem, simprocAttr, PI, r21]) rfl
            have r22 := hL.r (t := 22) (r := .a (I x.ops.length)) (by simp only [go_sem, simprocAttr, PI, r22]) rfl
            have r23 := hL.r (t := 23) (r := .a (I i)) (by simp only [go_sem, simprocAttr, PI, r23]) rfl
            have r9 := hL.r (t := 9) (r := .ref 9 0) (by simp only [go_sem, simprocAttr, PI]) up_ref1
            have r10 := hL.r (t := 10) (r := .a (I k)) (by simp only [go_sem, simprocAttr, PI]) rfl
            have m9 := hL.m (o := 9) (x := .box [.a (B o.w), .a (I o.var), .a (I o.val)]) (by simp only [go_sem, simprocAttr, PI]) rfl (by simp only [go_sem, simprocAttr, PI, how]) rfl
            have q1 := ed.r1
            have q2 := ed.r2
            have q3 := ed.r3
            have n3 := ed.m3
            have np := ed.mp
            have nb := ed.mb
            have nq := ed.mq
            (refine of_gate ?_; repeat' ((first | (with_reducible refine gate_in ?_) | (with_reducible refine spK_intro ?_ ?_ <;> intro hp) | (with_reducible refine brK_intro ?_ ?_ <;> intro hb <;> try rw [hb]) | (with_reducible refine draw_in (by unfold DrawOk; decide +kernel) ?_) | (with_reducible refine And.intro (by first | omega | (simp only [List.length_map, List.length_take]; omega)) ?_) | fail) <;> try simp only [go_sem, simprocAttr, one, PI, q1, q2, q3, n3, r13, r14, r15, r6, r21, r22, r23, r9, r10, m9, List.length_map]))
            refine awp_loopG (EdC vs σ l sr C place t x i o k (addE rowsI k t)) (l.length - ·) 0 ⟨_, Ghost.refl _, Nat.zero_le _, ?_, ?_, ?_, ?_, ?_, ?_, ?_, ?_, ?_, ?_, ?_, ?_, (by repeat' first | (with_reducible exact ed) | (with_reducible refine EdI.put_n ?_) | refine EdI.put rfl ?_ | refine EdI.new rfl rfl rfl ?_ | refine EdI.set rfl rfl rfl ?_ | exact ed)⟩ ?_
            iterate 12 (· simp only [go_sem, simprocAttr, PI, r13, r14, r15, r6, r21, r22, r23, r9, r10, m9, List.length_map]; try rfl)
            intro c τ3 hJ3
            obtain ⟨hc, r13, r14, r15, r6, r21, r22, r23, r9, r10, r51, r52, m9, ed⟩ := hJ3
            have q1 := ed.r1
            have q2 := ed.r2
            have q3 := ed.r3
            have n3 := ed.m3
            have np := ed.mp
            have nb := ed.mb
            have nq := ed.mq
            have hwc := wrap_succ (k := c) (n := l.length + 1) (by omega) (by simp only [maxLen]; omega)
            generalize hQ : (List.range c).foldl (stepC l C place t k o.var) (addE rowsI k t) = rowsC at ed nq
            have hsC : (List.range (c + 1)).foldl (stepC l C place t k o.var) (addE rowsI k t) = stepC l C place t k o.var rowsC c := by rw [fold_s, hQ]
            have okC := ed.ok
            (refine of_gate ?_; repeat' ((first | (with_reducible refine gate_in ?_) | (with_reducible refine spK_intro ?_ ?_ <;> intro hp) | (with_reducible refine brK_intro ?_ ?_ <;> intro hb <;> try rw [hb]) | (with_reducible refine draw_in (by unfold DrawOk; decide +kernel) ?_) | (with_reducible refine And.intro (by first | omega | (simp only [List.length_map, List.length_take]; omega)) ?_) | fail) <;> try simp only [go_sem, simprocAttr, PI, q1, q2, q3, n3, r13, r14, r15, r6, r21, r22, r23, r9, r10, r51, r52, m9, hwc]))
            · have hcl : c < l.length := by omega
              have hS0 : stepC l C place t k o.var rowsC c = rowsC := by unfold stepC; rw [if_pos (.inl (by omega))]
              refine ⟨_, c + 1, Ghost.refl _, ⟨hcl, ?_, ?_, ?_, ?_, ?_, ?_, ?_, ?_, ?_, ?_, ?_, ?_, ?_⟩, by omega⟩
              iterate 12 (· simp only [go_sem, simprocAttr, PI, r13, r14, r15, r6, r21, r22, r23, r9, r10, r51, r52, m9, hwc])
              · rw [hsC, hS0]; exact (by repeat' first | (with_reducible exact ed) | (with_reducible refine EdI.put_n ?_) | refine EdI.put rfl ?_ | refine EdI.new rfl rfl rfl ?_ | refine EdI.set rfl rfl rfl ?_ | exact ed)
            · have hcl : c < l.length := by omega
              have hS0 : stepC l C place t k o.var rowsC c = rowsC := by unfold stepC; rw [if_pos (.inr (.inl (by omega)))]
              refine ⟨_, c + 1, Ghost.refl _, ⟨hcl, ?_, ?_, ?_, ?_, ?_, ?_, ?_, ?_, ?_, ?_, ?_, ?_, ?_⟩, by omega⟩
              iterate 12 (· simp only [go_sem, simprocAttr, PI, r13, r14, r15, r6, r21, r22, r23, r9, r10, r51, r52, m9, hwc])
              · rw [hsC, hS0]; exact (by repeat' first | (with_reducible exact ed) | (with_reducible refine EdI.put_n ?_) | refine EdI.put rfl ?_ | refine EdI.new rfl rfl rfl ?_ | refine EdI.set rfl rfl rfl ?_ | exact ed)
            · have hcl : c < l.length := by omega
              refine call_dat (t98 l hf sr C c o.var hC (by omega) hcl) ?_
              cases hW : wrC l C c o.var with
              | false =>
                have hS0 : stepC l C place t k o.var rowsC c = rowsC := by unfold stepC; rw [if_pos (.inr (.inr hW))]
                (refine of_gate ?_; repeat' ((first | (with_reducible refine gate_in ?_) | (with_reducible refine spK_intro ?_ ?_ <;> intro hp) | (with_reducible refine brK_intro ?_ ?_ <;> intro hb <;> try rw [hb]) | (with_reducible refine draw_in (by unfold DrawOk; decide +kernel) ?_) | (with_reducible refine And.intro (by first | omega | (simp only [List.length_map, List.length_take]; omega)) ?_) | fail) <;> try simp only [go_sem, simprocAttr, PI, q1, q2, q3, n3, r13, r14, r15, r6, r21, r22, r23, r9, r10, r51, r52, m9, hwc]))
                refine ⟨_, c + 1, Ghost.refl _, ⟨hcl, ?_, ?_, ?_, ?_, ?_, ?_, ?_, ?_, ?_, ?_, ?_, ?_, ?_⟩, by omega⟩
                iterate 12 (· simp only [go_sem, simprocAttr, PI, r13, r14, r15, r6, r21, r22, r23, r9, r10, r51, r52, m9, hwc])
                · rw [hsC, hS0]; exact (by repeat' first | (with_reducible exact ed) | (with_reducible refine EdI.put_n ?_) | refine EdI.put rfl ?_ | refine EdI.new rfl rfl rfl ?_ | refine EdI.set rfl rfl rfl ?_ | exact ed)
              | true =>
                have hnot : ¬ (c = t ∨ (c : Int) = (k : Int) ∨ wrC l C c o.var = false) := fun h => by rcases h with h | h | h <;> first | omega | (rw [hW] at h; cases h)
                obtain ⟨pw, hpw⟩ : ∃ p, place[k]? = some p := ⟨_, List.getElem?_eq_getElem (by omega)⟩
                obtain ⟨pc, hpc⟩ : ∃ p, place[c]? = some p := ⟨_, List.getElem?_eq_getElem (by omega)⟩
                have hpw2 : place.getD (k : Int).toNat 0 = pw := by simp [List.getD, hpw]
                have hpc2 : place.getD c 0 = pc := by simp [List.getD, hpc]
                by_cases hlt : pw < pc
                · have hS0 : stepC l C place t k o.var rowsC c = addE rowsC t c := by unfold stepC; rw [if_neg hnot, hpw2, hpc2, if_pos (.inr hlt)]
                  (refine of_gate ?_; repeat' ((first | (with_reducible refine gate_in ?_) | (with_reducible refine spK_intro ?_ ?_ <;> intro hp) | (with_reducible refine brK_intro ?_ ?_ <;> intro hb <;> try rw [hb]) | (with_reducible refine draw_in (by unfold DrawOk; decide +kernel) ?_) | (with_reducible refine And.intro (by first | omega | (simp only [List.length_map, List.length_take]; omega)) ?_) | fail) <;> try simp only [go_sem, simprocAttr, PI, q1, q2, q3, n3, r13, r14, r15, r6, r21, r22, r23, r9, r10, r51, r52, m9, np, hneg, hpw, hpc, ienc_eq, hlt, hwc, List.length_map]))
                  obtain ⟨b1, hb1⟩ : ∃ b, rowsC[t]? = some b := ⟨_, List.getElem?_eq_getElem (by rw [okC.len]; omega)⟩
                  refine clo73 (o := upId 12) (q := upId 2008) (rows := rowsC) (i := t) (k := c) (b := b1) u12 u2008 une (by simp only [go_sem, simprocAttr, PI, nb]) (by simp only [go_sem, simprocAttr, PI, nq]) hb1 (okC.lt _ (List.mem_of_getElem? hb1)) (by omega) fun σ4 hL hm => ?_
                  rw [← addE_at hb1] at hm
                  have ed := EdI.left (vs := vs) (σ0 := σ) (sr := sr) (C := C) (place := place) (rows := rowsC) (by repeat' first | (with_reducible exact ed) | (with_reducible refine EdI.put_n ?_) | refine EdI.put rfl ?_ | refine EdI.new rfl rfl rfl ?_ | refine EdI.set rfl rfl rfl ?_ | exact ed) hL hm (addE_ok okC (by omega))
                  have r13 := hL.r (t := 13) (r := .a (txnsA l)) (by simp only [go_sem, simprocAttr, PI, r13]) rfl
                  have r14 := hL.r (t := 14) (r := .a (I l.length)) (by simp only [go_sem, simprocAttr, PI, r14]) rfl
                  have r15 := hL.r (t := 15) (r := .a (I t)) (by simp only [go_sem, simprocAttr, PI, r15]) rfl
                  have r6 := hL.r (t := 6) (r := .a (I t)) (by simp only [go_sem, simprocAttr, PI, r6]) rfl
                  have r21 := hL.r (t := 21) (r := (.a (opsA' x.ops))) (by simp only [go_sem, simprocAttr, PI, r21]) rfl
                  have r22 := hL.r (t := 22) (r := .a (I x.ops.length)) (by simp only [go_sem, simprocAttr, PI, r22]) rfl
                  have r23 := hL.r (t := 23) (r := .a (I i)) (by simp only [go_sem, simprocAttr, PI, r23]) rfl
                  have r9 := hL.r (t := 9) (r := .ref 9 0) (by simp only [go_sem, simprocAttr, PI, r9]) up_ref1
                  have r10 := hL.r (t := 10) (r := .a (I k)) (by simp only [go_sem, simprocAttr, PI, r10]) rfl
                  have r51 := hL.r (t := 51) (r := .a (I l.length)) (by simp only [go_sem, simprocAttr, PI, r51]) rfl
                  have r52 := hL.r (t := 52) (r := .a (I c)) (by simp only [go_sem, simprocAttr, PI, r52]) rfl
                  have m9 := hL.m (o := 9) (x := .box [.a (B o.w), .a (I o.var), .a (I o.val)]) (by simp only [go_sem, simprocAttr, PI]) rfl (by simp only [go_sem, simprocAttr, PI, m9]) rfl
                  (refine of_gate ?_; repeat' ((first | (with_reducible refine gate_in ?_) | (with_reducible refine spK_intro ?_ ?_ <;> intro hp) | (with_reducible refine brK_intro ?_ ?_ <;> intro hb <;> try rw [hb]) | (with_reducible refine draw_in (by unfold DrawOk; decide +kernel) ?_) | (with_reducible refine And.intro (by first | omega | (simp only [List.length_map, List.length_take]; omega)) ?_) | fail) <;> try simp only [go_sem, simprocAttr, one, PI, r13, r14, r15, r6, r21, r22, r23, r9, r10, r51, r52, m9, hwc]))
                  refine ⟨_, c + 1, Ghost.refl _, ⟨hcl, ?_, ?_, ?_, ?_, ?_, ?_, ?_, ?_, ?_, ?_, ?_, ?_, ?_⟩, by omega⟩
                  iterate 12 (· simp only [go_sem, simprocAttr, PI, r13, r14, r15, r6, r21, r22, r23, r9, r10, r51, r52, m9, hwc])
                  · rw [hsC, hS0]; exact (by repeat' first | (with_reducible exact ed) | (with_reducible refine EdI.put_n ?_) | refine EdI.put rfl ?_ | refine EdI.new rfl rfl rfl ?_ | refine EdI.set rfl rfl rfl ?_ | exact ed)
                · have hS0 : stepC l C place t k o.var rowsC c = addE rowsC c k := by unfold stepC; rw [if_neg hnot, hpw2, hpc2, if_neg (by omega)]; rfl
                  (refine of_gate ?_; repeat' ((first | (with_reducible refine gate_in ?_) | (with_reducible refine spK_intro ?_ ?_ <;> intro hp) | (with_reducible refine brK_intro ?_ ?_ <;> intro hb <;> try rw [hb]) | (with_reducible refine draw_in (by unfold DrawOk; decide +kernel) ?_) | (with_reducible refine And.intro (by first | omega | (simp only [List.length_map, List.length_take]; omega)) ?_) | fail) <;> try simp only [go_sem, simprocAttr, PI, q1, q2, q3, n3, r13, r14, r15, r6, r21, r22, r23, r9, r10, r51, r52, m9, np, hneg, hpw, hpc, ienc_eq, hlt, hwc, List.length_map]))
                  obtain ⟨b1, hb1⟩ : ∃ b, rowsC[c]? = some b := ⟨_, List.getElem?_eq_getElem (by rw [okC.len]; omega)⟩
                  refine clo73 (o := upId 12) (q := upId 2008) (rows := rowsC) (i := c) (k := k) (b := b1) u12 u2008 une (by simp only [go_sem, simprocAttr, PI, nb]) (by simp only [go_sem, simprocAttr, PI, nq]) hb1 (okC.lt _ (List.mem_of_getElem? hb1)) (by omega) fun σ4 hL hm => ?_
                  rw [← addE_at hb1] at hm
                  have ed := EdI.left (vs := vs) (σ0 := σ) (sr := sr) (C := C) (place := place) (rows := rowsC) (by repeat' first | (with_reducible exact ed) | (with_reducible refine EdI.put_n ?_) | refine EdI.put rfl ?_ | refine EdI.new rfl rfl rfl ?_ | refine EdI.set rfl rfl rfl ?_ | exact ed) hL hm (addE_ok okC (by omega))
                  have r13 := hL.r (t := 13) (r := .a (txnsA l)) (by simp only [go_sem, simprocAttr, PI, r13]) rfl
                  have r14 := hL.r (t := 14) (r := .a (I l.length)) (by simp only [go_sem, simprocAttr, PI, r14]) rfl
                  have r15 := hL.r (t := 15) (r := .a (I t)) (by simp only [go_sem, simprocAttr, PI, r15]) rfl
                  have r6 := hL.r (t := 6) (r := .a (I t)) (by simp only [go_sem, simprocAttr, PI, r6]) rfl
                  have r21 := hL.r (t := 21) (r := (.a (opsA' x.ops))) (by simp only [go_sem, simprocAttr, PI, r21]) rfl
                  have r22 := hL.r (t := 22) (r := .a (I x.ops.length)) (by simp only [go_sem, simprocAttr, PI, r22]) rfl
                  have r23 := hL.r (t := 23) (r := .a (I i)) (by simp only [go_sem, simprocAttr, PI, r23]) rfl
                  have r9 := hL.r (t := 9) (r := .ref 9 0) (by simp only [go_sem, simprocAttr, PI, r9]) up_ref1
                  have r10 := hL.r (t := 10) (r := .a (I k)) (by simp only [go_sem, simprocAttr, PI, r10]) rfl
                  have r51 := hL.r (t := 51) (r := .a (I l.length)) (by simp only [go_sem, simprocAttr, PI, r51]) rfl
                  have r52 := hL.r (t := 52) (r := .a (I c)) (by simp only [go_sem, simprocAttr, PI, r52]) rfl
                  have m9 := hL.m (o := 9) (x := .box [.a (B o.w), .a (I o.var), .a (I o.val)]) (by simp only [go_sem, simprocAttr, PI]) rfl (by simp only [go_sem, simprocAttr, PI, m9]) rfl
                  (refine of_gate ?_; repeat' ((first | (with_reducible refine gate_in ?_) | (with_reducible refine spK_intro ?_ ?_ <;> intro hp) | (with_reducible refine brK_intro ?_ ?_ <;> intro hb <;> try rw [hb]) | (with_reducible refine draw_in (by unfold DrawOk; decide +kernel) ?_) | (with_reducible refine And.intro (by first | omega | (simp only [List.length_map, List.length_take]; omega)) ?_) | fail) <;> try simp only [go_sem, simprocAttr, one, PI, r13, r14, r15, r6, r21, r22, r23, r9, r10, r51, r52, m9, hwc]))
                  refine ⟨_, c + 1, Ghost.refl _, ⟨hcl, ?_, ?_, ?_, ?_, ?_, ?_, ?_, ?_, ?_, ?_, ?_, ?_, ?_⟩, by omega⟩
                  iterate 12 (· simp only [go_sem, simprocAttr, PI, r13, r14, r15, r6, r21, r22, r23, r9, r10, r51, r52, m9, hwc])
                  · rw [hsC, hS0]; exact (by repeat' first | (with_reducible exact ed) | (with_reducible refine EdI.put_n ?_) | refine EdI.put rfl ?_ | refine EdI.new rfl rfl rfl ?_ | refine EdI.set rfl rfl rfl ?_ | exact ed)
            · obtain rfl : c = l.length := by omega
              subst hQ
              (refine of_gate ?_; repeat' ((first | (with_reducible refine gate_in ?_) | (with_reducible refine spK_intro ?_ ?_ <;> intro hp) | (with_reducible refine brK_intro ?_ ?_ <;> intro hb <;> try rw [hb]) | (with_reducible refine draw_in (by unfold DrawOk; decide +kernel) ?_) | (with_reducible refine And.intro (by first | omega | (simp only [List.length_map, List.length_take]; omega)) ?_) | fail) <;> try simp only [go_sem, simprocAttr, PI, q1, q2, q3, n3, r13, r14, r15, r6, r21, r22, r23, r9, r10, r51, r52, m9, hwi]))
              refine ⟨_, i + 1, Ghost.refl _, ⟨hil, ?_, ?_, ?_, ?_, ?_, ?_, ?_, ?_⟩, by omega⟩
              iterate 7 (· simp only [go_sem, simprocAttr, PI, r13, r14, r15, r6, r21, r22, r23, hwi])
              · rw [hstep]; exact (by repeat' first | (with_reducible exact ed) | (with_reducible refine EdI.put_n ?_) | refine EdI.put rfl ?_ | refine EdI.new rfl rfl rfl ?_ | refine EdI.set rfl rfl rfl ?_ | exact ed)
    · obtain rfl : i = x.ops.length := by omega
      (refine of_gate ?_; repeat' ((first | (with_reducible refine gate_in ?_) | (with_reducible refine spK_intro ?_ ?_ <;> intro hp) | (with_reducible refine brK_intro ?_ ?_ <;> intro hb <;> try rw [hb]) | (with_reducible refine draw_in (by unfold DrawOk; decide +kernel) ?_) | (with_reducible refine And.intro (by first | omega | (simp only [List.length_map, List.length_take]; omega)) ?_) | fail) <;> try simp only [go_sem, simprocAttr, PI, q1, q2, q3, n3, r13, r14, r15, r6, r21, r22, r23, hw]))
      refine ⟨_, t + 1, Ghost.refl _, ⟨htl, ?_, ?_, ?_, ?_⟩, by omega⟩
      iterate 3 (· simp only [go_sem, simprocAttr, PI, r13, r14, r15, r6, r21, r22, r23, hw])
      · rw [hst]; exact (by repeat' first | (with_reducible exact ed) | (with_reducible refine EdI.put_n ?_) | refine EdI.put rfl ?_ | refine EdI.new rfl rfl rfl ?_ | refine EdI.set rfl rfl rfl ?_ | exact ed)
  · obtain rfl : t = l.length := by omega
    refine end_b (B := 800000000) (n := 2008) (y := some (.log 28 1 ((edgesF l sr C place rows0).map uenc))) (by omega) rfl (EdI.kp (l := l) (sr := sr) (C := C) (place := place) (rows := edgesF l sr C place rows0) (by repeat' first | (with_reducible exact ed) | (with_reducible refine EdI.put_n ?_) | refine EdI.put rfl ?_ | refine EdI.new rfl rfl rfl ?_ | refine EdI.set rfl rfl rfl ?_ | exact ed)) (by simp only [go_sem, simprocAttr, PI, nq]; rfl) rfl (fun σ' h hm => hK σ' h hm) (.inr rfl)
end Go.VC
end
section
set_option maxRecDepth 100000
set_option linter.unusedSimpArgs false
set_option linter.unusedVariables false
set_option linter.unnecessarySimpa false
namespace Go.VC
open Go.RowKit Go.Proofs Go.IntWalk
theorem t_fa {σ : S} {K : S → Prop} {d : Tmp} {e : TypeId} {z : Nat} {xs : List (List D)} {y : A} (h : decide (1000 + 16 * d + 2 ≤ 1000000000) = true) : S.ret σ (some d) [.fresh e z xs, .a y] K = K ((σ.newOb (1000 + 16 * d) (.log e z xs)).put (some d) (.tp [.own (1000 + 16 * d), .a y])) := by
  have : 1000 + 16 * d + 2 ≤ 1000000000 := by simpa using h
  simp [S.ret, baseId, Rv.isFresh, freshOf, regsOf, one, this, List.filter]
theorem al_fa {e : TypeId} {z : Nat} {xs : List (List D)} {k : IntKind} {n : Int} : aloneRs [.fresh e z xs, .a (.d (.v (.int k n)))] = True := by simp [aloneRs, Rv.isFresh, Rv.flat, A.flat, D.flat, List.filter]
theorem t57f (l : List Txn) (hl : l.length ≤ 30) : Holds Tryd.prog GL 57 [txnsA l] [.fresh 28 1 ((afterR l).map uenc)] := by
  refine fn_holds (vs := [.tmp 2]) (by kernel_rfl) Tryd.func57 rfl rfl (by kernel_rfl) (by kernel_rfl) rfl ?_
  (refine of_gate ?_; repeat' ((first | (with_reducible refine gate_in ?_) | (with_reducible refine spK_intro ?_ ?_ <;> intro hp) | (with_reducible refine brK_intro ?_ ?_ <;> intro hb <;> try rw [hb]) | (with_reducible refine draw_in (by unfold DrawOk; decide +kernel) ?_) | (with_reducible refine And.intro (by first | omega | (simp only [List.length_map, List.length_take]; omega)) ?_) | fail) <;> try simp only [go_sem, simprocAttr, List.length_map]))
  refine sem_make (e := 28) (ti := ⟨1, 4, false, [.int .u32 0]⟩) (z0 := .int .u32 0) (n := l.length) (by kernel_rfl) (by kernel_rfl) rfl rfl rfl (by simp only [go_sem, simprocAttr]) (by simp only [go_sem, simprocAttr]) (by omega) (by decide) ?_
  (refine of_gate ?_; repeat' ((first | (with_reducible refine gate_in ?_) | (with_reducible refine spK_intro ?_ ?_ <;> intro hp) | (with_reducible refine brK_intro ?_ ?_ <;> intro hb <;> try rw [hb]) | (with_reducible refine draw_in (by unfold DrawOk; decide +kernel) ?_) | (with_reducible apply c91) | (with_reducible refine And.intro (by first | omega | (simp only [List.length_map, List.length_take]; omega)) ?_) | fail) <;> try simp only [go_sem, simprocAttr, List.length_map]))
  refine range_sem (AftI l) (fun _ _ => False) (by simp only [go_sem, simprocAttr]) (iter117 l.length (by omega)) (fun x hx => ?_) (by kernel_rfl) (by kernel_rfl) (fun j τ h => ?_) (fun _ _ h => h) (fun L r => ?_) (fun L T r j x τ hr hx hI hrec => ?_) (fun τ hI => ?_) (fun _ _ h => h.elim)
  · obtain ⟨j, hj⟩ := List.getElem?_of_mem hx
    obtain ⟨i, k, _, _, _, rfl⟩ := pairsX_inv hj; rfl
  · obtain ⟨r1, r3, m1, m3, m8⟩ := h
    exact ⟨by simp only [go_sem, simprocAttr, PI, ud_r, r1], by simp only [go_sem, simprocAttr, PI, ud_r, r3], by rw [ud_m rfl, m1]; simp only [go_sem, simprocAttr, PI], by rw [ud_m rfl, m3]; simp only [go_sem, simprocAttr, PI], by rw [ud_m rfl, m8]; simp only [go_sem, simprocAttr, PI]⟩
  · refine ⟨by simp only [go_sem, simprocAttr], by simp only [go_sem, simprocAttr], by simp only [go_sem, simprocAttr], by simp only [go_sem, simprocAttr], ?_⟩
    simp only [go_sem, simprocAttr, rowsAt_0]
    simp [uenc]
  · obtain ⟨i, k, hi, hk, rfl, rfl⟩ := pairsX_inv hx
    obtain ⟨r1, r3, m1, m3, m8⟩ := hI
    have ha : l[i]? = some l[i] := List.getElem?_eq_getElem hi
    have hb : l[k]? = some l[k] := List.getElem?_eq_getElem hk
    have hbe : beforeB l i k = (decide (2 ≤ l[i].st) && decide (l[i].last < l[k].first)) := by simp only [beforeB, ha, hb]
    have hra := rowsAt_at hi hk
    have hrs := rowsAt_s hi hk
    have hrl := rowsAt_len l (i * l.length + k)
    have hsame : beforeB l i k = false → rowsAt l (i * l.length + k + 1) = rowsAt l (i * l.length + k) := fun h => by
      rw [hrs, bitsN, h]
      refine List.ext_getElem? fun q => ?_
      rw [List.getElem?_set]
      split
      · rename_i e; subst e; rw [if_pos (by omega), hra]; simp
      · rfl
    generalize l[i] = a at ha hbe
    generalize l[k] = b at hb hbe
    have hlt1 := bitsN_lt (beforeB l i) k
    have hk32 : k < 32 := by omega
    have hlt2 : bitsN (beforeB l i) k < 2 ^ 32 := Nat.lt_of_lt_of_le hlt1 (Nat.pow_le_pow_right (by omega) (by omega))
    have hlt3 : 2 ^ k < 2 ^ 32 := Nat.pow_lt_pow_right (by omega) hk32
    (refine of_gate ?_; repeat' ((first | (with_reducible refine gate_in ?_) | (with_reducible refine spK_intro ?_ ?_ <;> intro hp) | (with_reducible refine brK_intro ?_ ?_ <;> intro hb <;> try rw [hb]) | (with_reducible refine draw_in (by unfold DrawOk; decide +kernel) ?_) | (with_reducible refine And.intro (by first | omega | (simp only [List.length_map, List.length_take]; omega)) ?_) | fail) <;> try simp only [go_sem, simprocAttr, PF, r1, r3, m1, m3, m8, hrec, ha, hb, Txn.enc_eq]))
    · have hbt : beforeB l i k = true := by rw [hbe, decide_eq_true (show 2 ≤ a.st by omega), decide_eq_true ‹a.last < b.first›]; rfl
      have hor : bitsN (beforeB l i) k ||| 2 ^ k = bitsN (beforeB l i) (k + 1) := by rw [bitsN_or, bitsN, hbt]; rfl
      (refine of_gate ?_; repeat' ((first | (with_reducible refine gate_in ?_) | (with_reducible refine spK_intro ?_ ?_ <;> intro hp) | (with_reducible refine brK_intro ?_ ?_ <;> intro hb <;> try rw [hb]) | (with_reducible refine draw_in (by unfold DrawOk; decide +kernel) ?_) | (with_reducible refine And.intro (by first | omega | (simp only [List.length_map, List.length_take]; omega)) ?_) | fail) <;> try simp only [go_sem, simprocAttr, PF, r1, r3, m1, m3, m8, hrec, hra, uenc_eq, u32_shl hk32, u32_or hlt2 hlt3, hor]))
      have hy : ((rowsAt l (i * l.length + k)).map uenc)[i]? = some (uenc (bitsN (beforeB l i) k)) := by rw [List.getElem?_map, hra]; rfl
      rw [st_eref_one (sz := 1) (j := 0) (ti := ⟨1, 4, false, [.int .u32 0]⟩) (e := 28) (xs := (rowsAt l (i * l.length + k)).map uenc) (by kernel_rfl) (by simp only [go_sem, simprocAttr, PF, m8]) hy rfl (by omega) rfl]
      (refine of_gate ?_; repeat' ((first | (with_reducible refine gate_in ?_) | (with_reducible refine spK_intro ?_ ?_ <;> intro hp) | (with_reducible refine brK_intro ?_ ?_ <;> intro hb <;> try rw [hb]) | (with_reducible refine draw_in (by unfold DrawOk; decide +kernel) ?_) | (with_reducible refine And.intro (by first | omega | (simp only [List.length_map, List.length_take]; omega)) ?_) | fail) <;> try simp only [go_sem, simprocAttr, PF, r1, r3, m1, m3, m8, hrec]))
      refine ⟨by simp only [go_sem, simprocAttr, PF, r1], by simp only [go_sem, simprocAttr, PF, r3], by simp only [go_sem, simprocAttr, PF, m1], by simp only [go_sem, simprocAttr, PF, m3], ?_⟩
      simp only [go_sem, simprocAttr, PF, hrs, List.map_set]; rfl
    · have hbf := hsame (by rw [hbe, decide_eq_false ‹¬ a.last < b.first›, Bool.and_false])
      exact ⟨by simp only [go_sem, simprocAttr, PF, r1], by simp only [go_sem, simprocAttr, PF, r3], by simp only [go_sem, simprocAttr, PF, m1], by simp only [go_sem, simprocAttr, PF, m3], by simp only [go_sem, simprocAttr, PF, m8, hbf]⟩
    · have hbf := hsame (by rw [hbe, decide_eq_false (show ¬ 2 ≤ a.st by omega), Bool.false_and])
      exact ⟨by simp only [go_sem, simprocAttr, PF, r1], by simp only [go_sem, simprocAttr, PF, r3], by simp only [go_sem, simprocAttr, PF, m1], by simp only [go_sem, simprocAttr, PF, m3], by simp only [go_sem, simprocAttr, PF, m8, hbf]⟩
  · obtain ⟨r1, r3, m1, m3, m8⟩ := hI
    have hpl : (pairsX l.length).length = l.length * l.length := by simp [pairsX]
    rw [hpl, rowsAt_n] at m8
    (refine of_gate ?_; repeat' ((first | (with_reducible refine gate_in ?_) | (with_reducible refine spK_intro ?_ ?_ <;> intro hp) | (with_reducible refine brK_intro ?_ ?_ <;> intro hb <;> try rw [hb]) | (with_reducible refine draw_in (by unfold DrawOk; decide +kernel) ?_) | (with_reducible refine And.intro (by first | omega | (simp only [List.length_map, List.length_take]; omega)) ?_) | fail) <;> try simp only [go_sem, simprocAttr, PF, r1, r3, m1, m3, m8]))
theorem t15f (h : List Ev) : Holds Tryd.prog GL 15 [evsA h] [.fresh 28 1 ((aftersV h).map uenc), .a (I (checkE h))] := by
  refine fn_holds (vs := [.tmp 2, .tmp 3]) (by kernel_rfl) Tryd.func15 rfl rfl (by kernel_rfl) (by kernel_rfl) rfl ?_
  (refine of_gate ?_; repeat' ((first | (with_reducible refine gate_in ?_) | (with_reducible refine spK_intro ?_ ?_ <;> intro hp) | (with_reducible refine brK_intro ?_ ?_ <;> intro hb <;> try rw [hb]) | (with_reducible refine draw_in (by unfold DrawOk; decide +kernel) ?_) | (with_reducible apply c56) | (with_reducible refine And.intro (by first | omega | (simp only [List.length_map, List.length_take]; omega)) ?_) | fail) <;> try simp only [go_sem, simprocAttr]))
  · have h0 : checkE h = 0 := ‹_›
    refine call_dat (t57f (txns h) (by have := txns_len6 h; omega)) ?_
    (refine of_gate ?_; repeat' ((first | (with_reducible refine gate_in ?_) | (with_reducible refine spK_intro ?_ ?_ <;> intro hp) | (with_reducible refine brK_intro ?_ ?_ <;> intro hb <;> try rw [hb]) | (with_reducible refine draw_in (by unfold DrawOk; decide +kernel) ?_) | (with_reducible refine And.intro (by first | omega | (simp only [List.length_map, List.length_take]; omega)) ?_) | fail) <;> try simp only [go_sem, simprocAttr, al_fa]))
    simp [aftersV, h0]
  · have h0 : ¬ checkE h = 0 := ‹_›
    simp only [al_fa, true_and]
    simp [aftersV, h0]
/-- Where a row has what. -/
def placeF (r : List Int) (n : Nat) : List Int := (List.range n).map fun (i : Nat) => idxOf (fun y => (i : Int) == y) r
def placeTo (r : List Int) (n k : Nat) : List Int := (List.range n).map fun (i : Nat) => if i < k then idxOf (fun y => (i : Int) == y) r else 0
theorem placeTo_len {r : List Int} {n k : Nat} : (placeTo r n k).length = n := by simp [placeTo]
theorem placeTo_0 {r : List Int} {n : Nat} : placeTo r n 0 = List.replicate n 0 := by
  refine List.ext_getElem? fun i => ?_
  simp only [placeTo, List.getElem?_map, List.getElem?_replicate, Nat.not_lt_zero, if_false]
  by_cases hi : i < n
  · rw [List.getElem?_range hi, if_pos hi]; rfl
  · rw [List.getElem?_eq_none (by simpa using hi), if_neg hi]; rfl
theorem placeTo_n {r : List Int} {n : Nat} : placeTo r n n = placeF r n := by
  unfold placeTo placeF
  exact List.map_congr_left fun i hi => if_pos (List.mem_range.1 hi)
theorem placeTo_s {r : List Int} {n k : Nat} (hk : k < n) : placeTo r n (k + 1) = (placeTo r n k).set k (idxOf (fun y => (k : Int) == y) r) := by
  refine List.ext_getElem? fun i => ?_
  rw [List.getElem?_set, placeTo_len]
  by_cases hi : i < n
  · simp only [placeTo, List.getElem?_map, List.getElem?_range hi, Option.map_some]
    by_cases e : k = i
    · subst e; rw [if_pos (by omega), if_pos rfl, if_pos hi]
    · rw [if_neg e]; congr 1
      have : (i < k + 1) = (i < k) := by apply propext; omega
      simp only [this]
  · rw [List.getElem?_eq_none (by simpa [placeTo] using hi)]
    split
    · omega
    · rw [List.getElem?_eq_none (by simpa [placeTo] using hi)]
/-- Is a row one of all places? -/
def wholeTo (r : List Int) (n k : Nat) : Bool := (List.range k).all fun (i : Nat) => decide (0 ≤ idxOf (fun y => (i : Int) == y) r) && decide (r.length = n)
def wholeB (r : List Int) (n : Nat) : Bool := decide (r.length = n) && wholeTo r n n
def buildE (h : List Ev) (C : Nat) (r : List Int) : Int := if lookE h C = 0 then (if wholeB r (txns h).length then (if allRFrom (txns h) (sourcesR h) C 0 then 0 else 7) else 1) else lookE h C
def buildV (h : List Ev) (C : Nat) (r : List Int) : List Nat := if buildE h C r = 0 then edgesF (txns h) (sourcesR h) C (placeF r (txns h).length) (afterR (txns h)) else []
theorem wholeB_at {r : List Int} {n k : Nat} (h : wholeB r n = true) (hk : k < n) : 0 ≤ idxOf (fun y => (k : Int) == y) r ∧ r.length = n := by
  simp only [wholeB, wholeTo, Bool.and_eq_true, decide_eq_true_eq, List.all_eq_true, List.mem_range] at h
  exact h.2 k hk
theorem wholeTo_s {r : List Int} {n k : Nat} (h : wholeTo r n k = true) (h1 : 0 ≤ idxOf (fun y => (k : Int) == y) r) (h2 : r.length = n) : wholeTo r n (k + 1) = true := by
  rw [wholeTo, List.range_succ, List.all_append]
  simp only [wholeTo] at h
  rw [h]
  simp [h1, h2]
theorem after_ok (l : List Txn) (hl : l.length ≤ 30) : RowsOk l.length (afterR l) := by
  refine ⟨afterR_len l, fun b hb => ?_⟩
  obtain ⟨i, _, rfl⟩ := List.mem_map.1 hb
  exact bits32 _ hl
theorem t35 (h : List Ev) (C : Nat) (hC : C < 2 ^ 32) (r : List Int) (hrl : r.length ≤ 1000000) : Holds Tryd.prog GL 35 [evsA h, U C, intsA r] [.a (unsA (buildV h C r)), .a (I (buildE h C r))] := by
  refine fn_holds (vs := [.tmp 6, .tmp 7]) (by kernel_rfl) Tryd.func35 rfl rfl (by kernel_rfl) (by kernel_rfl) rfl ?_
  by_cases hE : lookE h C = 0
  · have hA : lookA h C = trA (txns h) (sourcesR h) C := by rw [lookA, if_pos hE]
    have hsE : sourcesE h = 0 := by
      unfold lookE at hE
      split at hE
      · assumption
      · rename_i hn; exact absurd hE hn
    have hcE := sourcesE_check hsE
    have hS := srcT hsE
    have hl6 := txns_len6 h
    have hV : aftersV h = afterR (txns h) := by simp [aftersV, hcE]
    have e1 : buildE h C r = if wholeB r (txns h).length then (if allRFrom (txns h) (sourcesR h) C 0 then 0 else 7) else 1 := by rw [buildE, if_pos hE]
    have hfit : FitT (txns h) := tab_fit2 h (by have := check60 hcE; omega)
    unfold buildV
    rw [e1]
    generalize txns h = l at *
    generalize sourcesR h = sr at *
    have hok := after_ok l (by omega)
    (refine of_gate ?_; repeat' ((first | (with_reducible refine gate_in ?_) | (with_reducible refine spK_intro ?_ ?_ <;> intro hp) | (with_reducible refine brK_intro ?_ ?_ <;> intro hb <;> try rw [hb]) | (with_reducible refine draw_in (by unfold DrawOk; decide +kernel) ?_) | (with_reducible refine And.intro (by first | omega | (simp only [List.length_map, List.length_take]; omega)) ?_) | fail) <;> try simp only [go_sem, simprocAttr]))
    refine call_dat (t69 h C hC) ?_
    rw [hA, hE]
    (refine of_gate ?_; repeat' ((first | (with_reducible refine gate_in ?_) | (with_reducible refine spK_intro ?_ ?_ <;> intro hp) | (with_reducible refine brK_intro ?_ ?_ <;> intro hb <;> try rw [hb]) | (with_reducible refine draw_in (by unfold DrawOk; decide +kernel) ?_) | (with_reducible refine And.intro (by first | omega | (simp only [List.length_map, List.length_take]; omega)) ?_) | fail) <;> try simp only [go_sem, simprocAttr, List.length_map]))
    refine sem_make (e := 3) (ti := ⟨1, 8, false, [.int .i64 0]⟩) (z0 := .int .i64 0) (n := l.length) (by kernel_rfl) (by kernel_rfl) rfl rfl rfl (by simp only [go_sem, simprocAttr]) (by simp only [go_sem, simprocAttr]) (by omega) (by decide) ?_
    (refine of_gate ?_; repeat' ((first | (with_reducible refine gate_in ?_) | (with_reducible refine spK_intro ?_ ?_ <;> intro hp) | (with_reducible refine brK_intro ?_ ?_ <;> intro hb <;> try rw [hb]) | (with_reducible refine draw_in (by unfold DrawOk; decide +kernel) ?_) | (with_reducible refine And.intro (by first | omega | (simp only [List.length_map, List.length_take]; omega)) ?_) | fail) <;> try simp only [go_sem, simprocAttr, List.length_map, List.length_replicate]))
    refine awp_loopA (fun k : Nat => [(0, .a (evsA h)), (2, .a (intsA r)), (8, .ref 8 0), (10, .own 26), (28, .a (I l.length)), (29, .a (I k))]) (fun k => [(8, .box [.a (.d (.sl (l.map Txn.enc))), .a (.d (.sl (sr.map intRow))), .a (.d (.v (.int .u32 C)))]), (26, .log 3 1 ((placeTo r l.length k).map ienc))]) (fun k => k ≤ l.length ∧ wholeTo r l.length k = true) (l.length - ·) 0 ?_ ?_ ⟨Nat.zero_le _, rfl⟩ ?_
    · simp only [go_sem, simprocAttr, List.length_replicate]
    · simp only [go_sem, simprocAttr, placeTo_0, List.map_replicate]; try rfl
    intro k j ⟨hk, hq⟩
    (refine of_gate ?_; repeat' ((first | (with_reducible refine gate_in ?_) | (with_reducible refine spK_intro ?_ ?_ <;> intro hp) | (with_reducible refine brK_intro ?_ ?_ <;> intro hb <;> try rw [hb]) | (with_reducible refine draw_in (by unfold DrawOk; decide +kernel) ?_) | (with_reducible refine And.intro (by first | omega | (simp only [List.length_map, List.length_take]; omega)) ?_) | fail) <;> try simp only [go_sem, simprocAttr]))
    · have hkl : k < l.length := by omega
      have hw := wrap_succ (n := l.length) hkl (by simp only [maxLen]; omega)
      have hpl := placeTo_len (r := r) (n := l.length) (k := k)
      have hpl2 := placeTo_len (r := r) (n := l.length) (k := k + 1)
      obtain ⟨z, hz⟩ : ∃ z, (placeTo r l.length k)[k]? = some z := ⟨_, List.getElem?_eq_getElem (by omega)⟩
      have hz2 : ((placeTo r l.length k).map ienc)[k]? = some (ienc z) := by rw [List.getElem?_map, hz]; rfl
      have hset : ((placeTo r l.length k).map ienc).set k ((ienc z).set 0 (dI (idxOf (fun y => (k : Int) == y) r))) = (placeTo r l.length (k + 1)).map ienc := by rw [placeTo_s hkl, List.map_set]; rfl
      have hat : (placeTo r l.length (k + 1))[k]? = some (idxOf (fun y => (k : Int) == y) r) := by rw [placeTo_s hkl, List.getElem?_set_self (by omega)]
      have hWk := @wholeTo_s r l.length k hq
      have hBk : wholeB r l.length = true → _ := fun h => wholeB_at (k := k) h hkl
      (refine of_gate ?_; repeat' ((first | (with_reducible refine gate_in ?_) | (with_reducible refine spK_intro ?_ ?_ <;> intro hp) | (with_reducible refine brK_intro ?_ ?_ <;> intro hb <;> try rw [hb]) | (with_reducible refine draw_in (by unfold DrawOk; decide +kernel) ?_) | (with_reducible apply c70) | (with_reducible refine And.intro (by first | omega | (simp only [List.length_map, List.length_take]; omega)) ?_) | fail) <;> try simp only [go_sem, simprocAttr, hz, hpl, ienc_eq, List.length_map]))
      rw [st_eref_one (sz := 1) (j := 0) (ti := ⟨1, 8, false, [.int .i64 0]⟩) (e := 3) (xs := (placeTo r l.length k).map ienc) (by kernel_rfl) (by simp only [go_sem, simprocAttr]) hz2 rfl (by omega) rfl, hset]
      generalize idxOf (fun y => (k : Int) == y) r = q at hat hWk hBk
      (refine of_gate ?_; repeat' ((first | (with_reducible refine gate_in ?_) | (with_reducible refine spK_intro ?_ ?_ <;> intro hp) | (with_reducible refine brK_intro ?_ ?_ <;> intro hb <;> try rw [hb]) | (with_reducible refine draw_in (by unfold DrawOk; decide +kernel) ?_) | (with_reducible refine And.intro (by first | omega | (simp only [List.length_map, List.length_take]; omega)) ?_) | fail) <;> try simp only [go_sem, simprocAttr, hat, hpl2, ienc_eq, List.length_map, hw]))
      · have hB : wholeB r l.length = false := by
          cases hB : wholeB r l.length with
          | false => rfl
          | true => have := (hBk hB).1; omega
        simp [hB]
      · (refine ⟨k + 1, ?_, ?_, ⟨hkl, hWk (by omega) (by omega)⟩, by dsimp only; omega⟩ <;> simp only [go_sem, simprocAttr, hw])
      · have hB : wholeB r l.length = false := by
          cases hB : wholeB r l.length with
          | false => rfl
          | true => have := (hBk hB).2; omega
        simp [hB]
    · obtain rfl : k = l.length := by omega
      have hpl := placeTo_len (r := r) (n := l.length) (k := l.length)
      simp only [List.length_map, hpl] at hp
      have hB : wholeB r l.length = true := by
        have : r.length = l.length := by omega
        simp [wholeB, this, hq]
      rw [hB, if_pos rfl]
      refine c71 hfit (by omega) hS hC ?_
      cases hR : allRFrom l sr C 0 with
      | false =>
        (refine of_gate ?_; repeat' ((first | (with_reducible refine gate_in ?_) | (with_reducible refine spK_intro ?_ ?_ <;> intro hp) | (with_reducible refine brK_intro ?_ ?_ <;> intro hb <;> try rw [hb]) | (with_reducible refine draw_in (by unfold DrawOk; decide +kernel) ?_) | (with_reducible refine And.intro (by first | omega | (simp only [List.length_map, List.length_take]; omega)) ?_) | fail) <;> try simp only [go_sem, simprocAttr]))
      | true =>
        (refine of_gate ?_; repeat' ((first | (with_reducible refine gate_in ?_) | (with_reducible refine spK_intro ?_ ?_ <;> intro hp) | (with_reducible refine brK_intro ?_ ?_ <;> intro hb <;> try rw [hb]) | (with_reducible refine draw_in (by unfold DrawOk; decide +kernel) ?_) | (with_reducible refine And.intro (by first | omega | (simp only [List.length_map, List.length_take]; omega)) ?_) | fail) <;> try simp only [go_sem, simprocAttr]))
        refine call_dat (t15f h) ?_
        rw [hV, hcE, t_fa (by decide)]
        (refine of_gate ?_; repeat' ((first | (with_reducible refine gate_in ?_) | (with_reducible refine spK_intro ?_ ?_ <;> intro hp) | (with_reducible refine brK_intro ?_ ?_ <;> intro hb <;> try rw [hb]) | (with_reducible refine draw_in (by unfold DrawOk; decide +kernel) ?_) | (with_reducible refine And.intro (by first | omega | (simp only [List.length_map, List.length_take]; omega)) ?_) | fail) <;> try simp only [go_sem, simprocAttr]))
        refine sem_clo (caps := [(12, 0)]) (by simp only [go_sem, simprocAttr, List.map_cons, List.map_nil]) ?_
        (refine of_gate ?_; repeat' ((first | (with_reducible refine gate_in ?_) | (with_reducible refine spK_intro ?_ ?_ <;> intro hp) | (with_reducible refine brK_intro ?_ ?_ <;> intro hb <;> try rw [hb]) | (with_reducible refine draw_in (by unfold DrawOk; decide +kernel) ?_) | (with_reducible refine And.intro (by first | omega | (simp only [List.length_map, List.length_take]; omega)) ?_) | fail) <;> try simp only [go_sem, simprocAttr]))
        rw [placeTo_n]
        refine call_inl (edges_inl (place := placeF r l.length) hfit (by omega) hS hC (by simp [placeF]) hok (by simp only [go_sem, simprocAttr]) (by simp only [go_sem, simprocAttr]) (by simp only [go_sem, simprocAttr]) fun σ2 hL hm => ?_)
        have r12 := hL.r (t := 12) (r := .ref 12 0) (by simp only [go_sem, simprocAttr]) up_ref1
        have m12 := hL.m (o := 12) (x := .box [.own 2008]) rfl rfl (by simp only [go_sem, simprocAttr]) up_boxO
        (refine of_gate ?_; repeat' ((first | (with_reducible refine gate_in ?_) | (with_reducible refine spK_intro ?_ ?_ <;> intro hp) | (with_reducible refine brK_intro ?_ ?_ <;> intro hb <;> try rw [hb]) | (with_reducible refine draw_in (by unfold DrawOk; decide +kernel) ?_) | (with_reducible refine And.intro (by first | omega | (simp only [List.length_map, List.length_take]; omega)) ?_) | fail) <;> try simp only [go_sem, simprocAttr, one, r12, m12, hm]))
    · have hpl := placeTo_len (r := r) (n := l.length) (k := k)
      simp only [List.length_map, hpl] at hp
      have hB : wholeB r l.length = false := by
        have : ¬ r.length = l.length := by omega
        simp [wholeB, this]
      simp [hB]
  · have e1 : buildE h C r = lookE h C := by rw [buildE, if_neg hE]
    have e2 : buildV h C r = [] := by rw [buildV, e1, if_neg hE]
    have hA : lookA h C = trA [] [] 0 := by rw [lookA, if_neg hE]
    rw [e1, e2]
    (refine of_gate ?_; repeat' ((first | (with_reducible refine gate_in ?_) | (with_reducible refine spK_intro ?_ ?_ <;> intro hp) | (with_reducible refine brK_intro ?_ ?_ <;> intro hb <;> try rw [hb]) | (with_reducible refine draw_in (by unfold DrawOk; decide +kernel) ?_) | (with_reducible refine And.intro (by first | omega | (simp only [List.length_map, List.length_take]; omega)) ?_) | fail) <;> try simp only [go_sem, simprocAttr]))
    refine call_dat (t69 h C hC) ?_
    rw [hA]
    generalize lookE h C = c at hE
    (refine of_gate ?_; repeat' ((first | (with_reducible refine gate_in ?_) | (with_reducible refine spK_intro ?_ ?_ <;> intro hp) | (with_reducible refine brK_intro ?_ ?_ <;> intro hb <;> try rw [hb]) | (with_reducible refine draw_in (by unfold DrawOk; decide +kernel) ?_) | (with_reducible refine And.intro (by first | omega | (simp only [List.length_map, List.length_take]; omega)) ?_) | fail) <;> try simp only [go_sem, simprocAttr, hE]))
theorem c35 {h : List Ev} {C : Nat} (hC : C < 2 ^ 32) {r : List Int} (hrl : r.length ≤ 1000000) {dst : Option Tmp} {σ : S} {K : S → Prop} (hK : σ.ret dst [.a (unsA (buildV h C r)), .a (I (buildE h C r))] K) : callV Tryd.prog GL 35 [.a (evsA h), .a (U C), .a (intsA r)] dst σ K := call_dat (t35 h C hC r hrl) hK
/-- Two transactions, of which one reads what the other writes. -/
def aliveG : List Ev := [⟨0, 1, 0, 0⟩, ⟨1, 1, 0, 0⟩, ⟨4, 1, 0, 5⟩, ⟨5, 1, 0, 0⟩, ⟨6, 1, 0, 0⟩, ⟨0, 2, 0, 0⟩, ⟨1, 2, 0, 0⟩, ⟨2, 2, 0, 0⟩, ⟨3, 2, 0, 5⟩]
theorem aliveG_e : buildE aliveG 1 [1, 0] = 0 := by decide +kernel
theorem aliveG_v : buildV aliveG 1 [1, 0] = [2, 0] := by decide +kernel
theorem t36 : Holds Tryd.prog GL 36 [] [.a (B true)] := by
  refine fn_holds (vs := [.tmp 0]) (by kernel_rfl) Tryd.func36 rfl rfl (by kernel_rfl) (by kernel_rfl) rfl ?_
  have hrep : (List.replicate 9 [dI 0, dI 0, dI 0, dI 0]).flatten = [dI 0, dI 0, dI 0, dI 0, dI 0, dI 0, dI 0, dI 0, dI 0, dI 0, dI 0, dI 0, dI 0, dI 0, dI 0, dI 0, dI 0, dI 0, dI 0, dI 0, dI 0, dI 0, dI 0, dI 0, dI 0, dI 0, dI 0, dI 0, dI 0, dI 0, dI 0, dI 0, dI 0, dI 0, dI 0, dI 0] := rfl
  (refine of_gate ?_; repeat' ((first | (with_reducible refine gate_in ?_) | (with_reducible refine spK_intro ?_ ?_ <;> intro hp) | (with_reducible refine brK_intro ?_ ?_ <;> intro hb <;> try rw [hb]) | (with_reducible refine draw_in (by unfold DrawOk; decide +kernel) ?_) | (with_reducible refine And.intro (by first | omega | (simp only [List.length_map, List.length_take]; omega)) ?_) | fail) <;> try simp only [go_sem, simprocAttr, hrep]))
  refine call_rest _ (t35 aliveG 1 (by decide) [1, 0] (by decide)) ?_
  rw [aliveG_e, aliveG_v]
  simp only [go_sem, simprocAttr, aliveG, Ev.enc_eq, List.map_cons, List.map_nil, ienc_eq]
  refine ⟨rfl, ?_⟩
  (refine of_gate ?_; repeat' ((first | (with_reducible refine gate_in ?_) | (with_reducible refine spK_intro ?_ ?_ <;> intro hp) | (with_reducible refine brK_intro ?_ ?_ <;> intro hb <;> try rw [hb]) | (with_reducible refine draw_in (by unfold DrawOk; decide +kernel) ?_) | (with_reducible refine And.intro (by first | omega | (simp only [List.length_map, List.length_take]; omega)) ?_) | fail) <;> try simp only [go_sem, simprocAttr, uenc_eq, List.map_cons, List.map_nil]))
  all_goals simp_all
theorem c36 {dst : Option Tmp} {σ : S} {K : S → Prop} (hK : S.ret σ dst [.a (B true)] K) : callV Tryd.prog GL 36 [] dst σ K := call_dat t36 hK
end Go.VC
namespace Go.VC
open Go.RowKit Go.Proofs Go.IntWalk
theorem cutJ (N : Nat) (r : List Int) : List.take (min (r.length : Int) N).toNat (r.map ienc) = (r.take N).map ienc := by
  have : (min (r.length : Int) N).toNat = min r.length N := by omega
  rw [this, ← List.map_take]
  congr 1
  rcases Nat.le_total r.length N with hl | hl
  · rw [Nat.min_eq_left hl, List.take_of_length_le (Nat.le_refl _), List.take_of_length_le hl]
  · rw [Nat.min_eq_right hl]
/-- All bits of rows are in other rows. -/
structure LeR (a b : List Nat) : Prop where
  len : a.length = b.length
  bit : ∀ (i x y : Nat), a[i]? = some x → b[i]? = some y → ∀ q, x.testBit q = true → y.testBit q = true
theorem LeR.refl (a : List Nat) : LeR a a := ⟨rfl, fun i x y h1 h2 q h => by rw [h1] at h2; cases h2; exact h⟩
theorem or_bit {x k q : Nat} : (x ||| 2 ^ k).testBit q = (x.testBit q || decide (k = q)) := by
  rw [Nat.testBit_or, Nat.testBit_two_pow]
theorem addE_get {a : List Nat} {i k j x : Nat} (h : (addE a i k)[j]? = some x) : ∃ x0, a[j]? = some x0 ∧ ∀ q, x.testBit q = (x0.testBit q || (decide (i = j) && decide (k = q))) := by
  unfold addE at h
  split at h
  · rename_i b hb
    rw [List.getElem?_set] at h
    split at h
    · rename_i e
      subst e
      rw [if_pos (List.getElem?_eq_some_iff.1 hb).1] at h
      cases h
      exact ⟨b, hb, fun q => by rw [or_bit]; simp⟩
    · rename_i e
      exact ⟨x, h, fun q => by simp [e]⟩
  · rename_i hn
    exact ⟨x, h, fun q => by
      have : ¬ i = j := fun e => by subst e; rw [hn] at h; cases h
      simp [this]⟩
theorem addE_len {a : List Nat} {i k : Nat} : (addE a i k).length = a.length := by
  unfold addE; split <;> simp
theorem LeR.add {a b : List Nat} (h : LeR a b) (i k : Nat) : LeR (addE a i k) (addE b i k) := by
  refine ⟨by rw [addE_len, addE_len]; exact h.len, fun j x y hx hy q hq => ?_⟩
  obtain ⟨x0, hx0, ex⟩ := addE_get hx
  obtain ⟨y0, hy0, ey⟩ := addE_get hy
  rw [ex] at hq
  rw [ey]
  cases hx : x0.testBit q with
  | true => rw [h.bit j x0 y0 hx0 hy0 q hx]; rfl
  | false => rw [hx, Bool.false_or] at hq; rw [hq, Bool.or_true]
theorem u32_nat {n : Int} (h : (Lit.int .u32 n).wf = true) : ∃ k : Nat, n = k ∧ k < 2 ^ 32 := by
  simp only [Lit.wf, Bool.and_eq_true, decide_eq_true_eq] at h
  obtain ⟨h1, h2⟩ := h
  have e1 : IntKind.u32.min = 0 := rfl
  have e2 : IntKind.u32.max = 4294967295 := rfl
  rw [e1] at h1; rw [e2] at h2
  exact ⟨n.toNat, by omega, by omega⟩
end Go.VC
end
section
set_option maxRecDepth 100000
set_option linter.unusedSimpArgs false
set_option linter.unusedVariables false
namespace Go.VC
open Go.RowKit Go.Proofs Go.IntWalk
theorem t96 (ops : List Op) (v : Int) : Holds Tryd.prog GL 96 [opsA' ops, I v] [.a (B (ownsR ops v))] := by
  refine fn_holds_is (vs := [.tmp 4]) (by kernel_rfl) Tryd.func96 rfl rfl (by kernel_rfl) (by kernel_rfl) rfl fun his => ?_
  have hlen := his.1.len
  rw [List.length_map] at hlen
  simp only [go_sem, simprocAttr, List.length_map]
  refine awp_loopA (fun k : Nat => [(1, .a (I v)), (7, .a (opsA' ops)), (8, .a (I ops.length)), (9, .a (I k))]) (fun _ => []) (fun k => k ≤ ops.length ∧ ownsR ops v = ownsR (ops.drop k) v) (ops.length - ·) 0 ?_ ?_ ⟨Nat.zero_le _, rfl⟩ ?_
  · simp only [go_sem, simprocAttr]
  · simp only [go_sem, simprocAttr]
  intro k j ⟨hk, hl⟩
  (refine of_gate ?_; repeat' ((first | (with_reducible refine gate_in ?_) | (with_reducible refine spK_intro ?_ ?_ <;> intro hp) | (with_reducible refine brK_intro ?_ ?_ <;> intro hb <;> try rw [hb]) | (with_reducible refine draw_in (by unfold DrawOk; decide +kernel) ?_) | (with_reducible refine And.intro (by first | omega | (simp only [List.length_map, List.length_take]; omega)) ?_) | fail) <;> try simp only [go_sem, simprocAttr]))
  · have hkl : k < ops.length := by omega
    have hx : ops[k]? = some ops[k] := List.getElem?_eq_getElem hkl
    have hw := wrap_succ hkl hlen
    rw [List.drop_eq_getElem_cons hkl] at hl
    generalize ops[k] = o at hx hl
    simp only [ownsR, List.any_cons] at hl
    (refine of_gate ?_; repeat' ((first | (with_reducible refine gate_in ?_) | (with_reducible refine spK_intro ?_ ?_ <;> intro hp) | (with_reducible refine brK_intro ?_ ?_ <;> intro hb <;> try rw [hb]) | (with_reducible refine draw_in (by unfold DrawOk; decide +kernel) ?_) | (with_reducible refine And.intro (by first | omega | (simp only [List.length_map, List.length_take]; omega)) ?_) | fail) <;> try simp only [go_sem, simprocAttr, hx, Op.enc_eq, hw]))
    all_goals first
      | exact ⟨k + 1, by simp only [go_sem, simprocAttr], by simp only [go_sem, simprocAttr], ⟨hkl, by rw [ownsR, hl]; simp [*, ownsR]⟩, by dsimp only; omega⟩
      | (rw [ownsR, hl]; simp [*])
  · have hd : ops.drop k = [] := List.drop_eq_nil_of_le (by omega)
    rw [hl, hd]; rfl
theorem c96 {ops : List Op} {v : Int} {dst : Option Tmp} {σ : S} {K : S → Prop} (hK : S.ret σ dst [.a (B (ownsR ops v))] K) : callV Tryd.prog GL 96 [.a (opsA' ops), .a (I v)] dst σ K :=
  call_dat (t96 ops v) hK
theorem q96 {ops : List Op} {v : Int} {σ : S} {KR : R → Prop} (hK : KR (retR [(B (ownsR ops v))])) : callVQ Tryd.prog GL 96 [.a (opsA' ops), .a (I v)] σ KR :=
  callQ_dat (res := [(B (ownsR ops v))]) (t96 ops v) hK
/-- Does a transaction write a value of a variable? -/
def writesR (ops : List Op) (v n : Int) : Bool := ops.any fun o => o.w && o.var == v && o.val == n
theorem t63 (t : Txn) (v n : Int) (hlen : t.ops.length ≤ maxLen) : Holds Tryd.prog GL 63 [t.a, I v, I n] [.a (B (writesR t.ops v n))] := by
  refine fn_holds (vs := [.tmp 6]) (by kernel_rfl) Tryd.func63 rfl rfl (by kernel_rfl) (by kernel_rfl) rfl ?_
  simp only [go_sem, simprocAttr, List.length_map]
  obtain ⟨t0, t1, t2, t3, ops⟩ := t
  dsimp only at hlen
  refine awp_loopA (fun k : Nat => [(1, .a (I v)), (2, .a (I n)), (10, .a (opsA' ops)), (11, .a (I ops.length)), (12, .a (I k))]) (fun _ => []) (fun k => k ≤ ops.length ∧ writesR ops v n = writesR (ops.drop k) v n) (ops.length - ·) 0 ?_ ?_ ⟨Nat.zero_le _, rfl⟩ ?_
  · simp only [go_sem, simprocAttr]
  · simp only [go_sem, simprocAttr]
  intro k j ⟨hk, hl⟩
  (refine of_gate ?_; repeat' ((first | (with_reducible refine gate_in ?_) | (with_reducible refine spK_intro ?_ ?_ <;> intro hp) | (with_reducible refine brK_intro ?_ ?_ <;> intro hb <;> try rw [hb]) | (with_reducible refine draw_in (by unfold DrawOk; decide +kernel) ?_) | (with_reducible refine And.intro (by first | omega | (simp only [List.length_map, List.length_take]; omega)) ?_) | fail) <;> try simp only [go_sem, simprocAttr]))
  · have hkl : k < ops.length := by omega
    have hx : ops[k]? = some ops[k] := List.getElem?_eq_getElem hkl
    have hw := wrap_succ hkl hlen
    rw [List.drop_eq_getElem_cons hkl] at hl
    generalize ops[k] = o at hx hl
    simp only [writesR, List.any_cons] at hl
    (refine of_gate ?_; repeat' ((first | (with_reducible refine gate_in ?_) | (with_reducible refine spK_intro ?_ ?_ <;> intro hp) | (with_reducible refine brK_intro ?_ ?_ <;> intro hb <;> try rw [hb]) | (with_reducible refine draw_in (by unfold DrawOk; decide +kernel) ?_) | (with_reducible refine And.intro (by first | omega | (simp only [List.length_map, List.length_take]; omega)) ?_) | fail) <;> try simp only [go_sem, simprocAttr, hx, Op.enc_eq, hw]))
    all_goals first
      | exact ⟨k + 1, by simp only [go_sem, simprocAttr], by simp only [go_sem, simprocAttr], ⟨hkl, by rw [writesR, hl]; simp [*, writesR]⟩, by dsimp only; omega⟩
      | (rw [writesR, hl]; simp [*])
  · have hd : ops.drop k = [] := List.drop_eq_nil_of_le (by omega)
    rw [hl, hd]; rfl
/-- Whose value an operation's is. -/
def othersR (l : List Txn) (t : Int) (v n : Int) : Nat → Option Int
  | k => ((List.range l.length).drop k).findSome? fun j => match l[j]? with
    | some x => if (j : Int) ≠ t ∧ writesR x.ops v n = true then some (j : Int) else none
    | none => none
def sourceR (l : List Txn) (t : Nat) (i : Nat) (x : Txn) (o : Op) : Int :=
  if o.w || ownsR (x.ops.take i) o.var then t else if o.val = 0 then -1 else (othersR l t o.var o.val 0).getD (-2)
theorem range_drop {n k : Nat} (h : k < n) : (List.range n).drop k = k :: (List.range n).drop (k + 1) := by
  rw [List.drop_eq_getElem_cons (by simpa using h)]; simp
theorem t68 (l : List Txn) (hf : FitT l) (t i : Nat) (x : Txn) (o : Op) (hx : l[t]? = some x) (ho : x.ops[i]? = some o) : Holds Tryd.prog GL 68 [txnsA l, I t, I i] [.a (I (sourceR l t i x o))] := by
  refine fn_holds (vs := [.tmp 6]) (by kernel_rfl) Tryd.func68 rfl rfl (by kernel_rfl) (by kernel_rfl) rfl ?_
  have hil := (List.getElem?_eq_some_iff.1 ho).1
  have hi1 : (i : Int) ≤ (x.ops.length : Int) := by omega
  have htk : List.take i (x.ops.map Op.enc) = (x.ops.take i).map Op.enc := by rw [List.map_take]
  (refine of_gate ?_; repeat' ((first | (with_reducible refine gate_in ?_) | (with_reducible refine spK_intro ?_ ?_ <;> intro hp) | (with_reducible refine brK_intro ?_ ?_ <;> intro hb <;> try rw [hb]) | (with_reducible refine draw_in (by unfold DrawOk; decide +kernel) ?_) | (with_reducible apply q96) | (with_reducible refine And.intro (by first | omega | (simp only [List.length_map, List.length_take]; omega)) ?_) | fail) <;> try simp only [go_sem, simprocAttr, hx, ho, Txn.enc_eq, Op.enc_eq, hi1, htk, Int.toNat_zero, ops_lenT, List.length_map]))
  · simp [sourceR, *]
  · simp [sourceR, *]
  · simp [sourceR, *]
  · have hres : sourceR l t i x o = (othersR l t o.var o.val 0).getD (-2) := by simp [sourceR, *]
    rw [hres]
    refine awp_loopA (fun k : Nat => [(1, .a (I t)), (7, .ref 7 0), (36, .a (txnsA l)), (37, .a (I l.length)), (38, .a (I k))]) (fun _ => [(7, .box [.a (B o.w), .a (I o.var), .a (I o.val)])]) (fun k => k ≤ l.length ∧ othersR l t o.var o.val 0 = othersR l t o.var o.val k) (l.length - ·) 0 ?_ ?_ ⟨Nat.zero_le _, rfl⟩ ?_
    · simp only [go_sem, simprocAttr, List.length_map]
    · simp only [go_sem, simprocAttr, ‹o.w = false›]
    intro k j ⟨hk, hl⟩
    (refine of_gate ?_; repeat' ((first | (with_reducible refine gate_in ?_) | (with_reducible refine spK_intro ?_ ?_ <;> intro hp) | (with_reducible refine brK_intro ?_ ?_ <;> intro hb <;> try rw [hb]) | (with_reducible refine draw_in (by unfold DrawOk; decide +kernel) ?_) | (with_reducible refine And.intro (by first | omega | (simp only [List.length_map, List.length_take]; omega)) ?_) | fail) <;> try simp only [go_sem, simprocAttr]))
    · have hkl : k < l.length := by omega
      have hx : l[k]? = some l[k] := List.getElem?_eq_getElem hkl
      have hw := wrap_succ (n := l.length) hkl (by have := hf.1; simp only [maxLen]; omega)
      have hol := hf.at hkl
      have hs : othersR l t o.var o.val k = if (k : Int) ≠ t ∧ writesR l[k].ops o.var o.val = true then some (k : Int) else othersR l t o.var o.val (k + 1) := by
        simp only [othersR, range_drop hkl, List.findSome?_cons, hx]
        by_cases hc : (k : Int) ≠ t ∧ writesR l[k].ops o.var o.val = true
        · rw [if_pos hc, if_pos hc]
        · rw [if_neg hc, if_neg hc]
      rw [hs] at hl
      generalize l[k] = y at hx hol hl
      (refine of_gate ?_; repeat' ((first | (with_reducible refine gate_in ?_) | (with_reducible refine spK_intro ?_ ?_ <;> intro hp) | (with_reducible refine brK_intro ?_ ?_ <;> intro hb <;> try rw [hb]) | (with_reducible refine draw_in (by unfold DrawOk; decide +kernel) ?_) | (with_reducible refine And.intro (by first | omega | (simp only [List.length_map, List.length_take]; omega)) ?_) | fail) <;> try simp only [go_sem, simprocAttr, hx, Txn.enc_eq, hw]))
      · rw [if_neg (by simp [*])] at hl
        (refine ⟨k + 1, ?_, ?_, ⟨hkl, hl⟩, by dsimp only; omega⟩ <;> simp only [go_sem, simprocAttr])
      · refine call_dat (t63 y o.var o.val (by simp only [maxLen]; omega)) ?_
        (refine of_gate ?_; repeat' ((first | (with_reducible refine gate_in ?_) | (with_reducible refine spK_intro ?_ ?_ <;> intro hp) | (with_reducible refine brK_intro ?_ ?_ <;> intro hb <;> try rw [hb]) | (with_reducible refine draw_in (by unfold DrawOk; decide +kernel) ?_) | (with_reducible refine And.intro (by first | omega | (simp only [List.length_map, List.length_take]; omega)) ?_) | fail) <;> try simp only [go_sem, simprocAttr, hx, Txn.enc_eq, hw]))
        · rw [if_pos ⟨by assumption, by assumption⟩] at hl
          rw [hl]; rfl
        · rw [if_neg (by simp [*])] at hl
          (refine ⟨k + 1, ?_, ?_, ⟨hkl, hl⟩, by dsimp only; omega⟩ <;> simp only [go_sem, simprocAttr])
    · rw [hl, othersR, List.drop_eq_nil_of_le (by simp; omega)]; rfl
theorem c68 {l : List Txn} {t i : Nat} {x : Txn} {o : Op} (hf : FitT l) (hx : l[t]? = some x) (ho : x.ops[i]? = some o) {dst : Option Tmp} {σ : S} {K : S → Prop} (hK : S.ret σ dst [.a (I (sourceR l t i x o))] K) : callV Tryd.prog GL 68 [.a (txnsA l), .a (I t), .a (I i)] dst σ K := call_dat (t68 l hf t i x o hx ho) hK
def srcRowR (l : List Txn) (t : Nat) (x : Txn) (k : Nat) : List Int := (List.range k).map fun i => match x.ops[i]? with
  | some o => sourceR l t i x o
  | none => 0
def sourcesTo (l : List Txn) (k : Nat) : List (List Int) := (List.range k).map fun t => match l[t]? with
  | some x => srcRowR l t x x.ops.length
  | none => []
def clash (l : List Txn) (i : Int) (o : Op) (k0 : Nat) : Bool := ((List.range l.length).drop k0).any fun k => match l[k]? with
  | some x => !decide ((k : Int) = i) && writesR x.ops o.var o.val
  | none => false
def okOp (l : List Txn) (i : Int) (o : Op) : Bool := !(o.w && (o.val == 0 || clash l i o 0))
def uniqTo (l : List Txn) (i0 : Nat) : Bool := ((List.range l.length).drop i0).all fun i => match l[i]? with
  | some t => t.ops.all (okOp l i)
  | none => true
theorem t31 (l : List Txn) (hf : FitT l) : Holds Tryd.prog GL 31 [txnsA l] [.a (B (uniqTo l 0))] := by
  refine fn_holds (vs := [.tmp 2]) (by kernel_rfl) Tryd.func31 rfl rfl (by kernel_rfl) (by kernel_rfl) rfl ?_
  have hfl := hf.1
  (refine of_gate ?_; repeat' ((first | (with_reducible refine gate_in ?_) | (with_reducible refine spK_intro ?_ ?_ <;> intro hp) | (with_reducible refine brK_intro ?_ ?_ <;> intro hb <;> try rw [hb]) | (with_reducible refine draw_in (by unfold DrawOk; decide +kernel) ?_) | (with_reducible refine And.intro (by first | omega | (simp only [List.length_map, List.length_take]; omega)) ?_) | fail) <;> try simp only [go_sem, simprocAttr, List.length_map]))
  refine awp_loopA (fun k : Nat => [(0, .a (txnsA l)), (9, .a (txnsA l)), (10, .a (I l.length)), (11, .a (I k))]) (fun k => []) (fun k => k ≤ l.length ∧ uniqTo l 0 = uniqTo l k) (l.length - ·) 0 ?_ ?_ ⟨Nat.zero_le _, rfl⟩ ?_
  · simp only [go_sem, simprocAttr]
  · simp only [go_sem, simprocAttr]
  intro k j ⟨hk, hu⟩
  (refine of_gate ?_; repeat' ((first | (with_reducible refine gate_in ?_) | (with_reducible refine spK_intro ?_ ?_ <;> intro hp) | (with_reducible refine brK_intro ?_ ?_ <;> intro hb <;> try rw [hb]) | (with_reducible refine draw_in (by unfold DrawOk; decide +kernel) ?_) | (with_reducible refine And.intro (by first | omega | (simp only [List.length_map, List.length_take]; omega)) ?_) | fail) <;> try simp only [go_sem, simprocAttr]))
  · have hkl : k < l.length := by omega
    have hx : l[k]? = some l[k] := List.getElem?_eq_getElem hkl
    have hw := wrap_succ (n := l.length) hkl (by simp only [maxLen]; omega)
    have hol := hf.at hkl
    have hs : uniqTo l k = (l[k].ops.all (okOp l k) && uniqTo l (k + 1)) := by
      simp only [uniqTo, range_drop hkl, List.all_cons, hx]
    rw [hs] at hu
    generalize l[k] = x at hx hol hu
    (refine of_gate ?_; repeat' ((first | (with_reducible refine gate_in ?_) | (with_reducible refine spK_intro ?_ ?_ <;> intro hp) | (with_reducible refine brK_intro ?_ ?_ <;> intro hb <;> try rw [hb]) | (with_reducible refine draw_in (by unfold DrawOk; decide +kernel) ?_) | (with_reducible refine And.intro (by first | omega | (simp only [List.length_map, List.length_take]; omega)) ?_) | fail) <;> try simp only [go_sem, simprocAttr, hx, Txn.enc_eq, hw, List.length_map]))
    refine awp_loopA (fun i : Nat => [(0, .a (txnsA l)), (3, .a (I k)), (9, .a (txnsA l)), (10, .a (I l.length)), (11, .a (I k)), (17, .a (opsA' x.ops)), (18, .a (I x.ops.length)), (19, .a (I i))]) (fun i => []) (fun i => i ≤ x.ops.length ∧ uniqTo l 0 = ((x.ops.drop i).all (okOp l k) && uniqTo l (k + 1))) (x.ops.length - ·) 0 ?_ ?_ ⟨Nat.zero_le _, hu⟩ ?_
    · simp only [go_sem, simprocAttr]
    · simp only [go_sem, simprocAttr]
    intro i j ⟨hi, hv⟩
    (refine of_gate ?_; repeat' ((first | (with_reducible refine gate_in ?_) | (with_reducible refine spK_intro ?_ ?_ <;> intro hp) | (with_reducible refine brK_intro ?_ ?_ <;> intro hb <;> try rw [hb]) | (with_reducible refine draw_in (by unfold DrawOk; decide +kernel) ?_) | (with_reducible refine And.intro (by first | omega | (simp only [List.length_map, List.length_take]; omega)) ?_) | fail) <;> try simp only [go_sem, simprocAttr]))
    · have hil : i < x.ops.length := by omega
      have hy : x.ops[i]? = some x.ops[i] := List.getElem?_eq_getElem hil
      have hwi := wrap_succ (n := x.ops.length) hil (by simp only [maxLen]; omega)
      rw [List.drop_eq_getElem_cons hil, List.all_cons] at hv
      generalize x.ops[i] = o at hy hv
      have key : ∀ (bo : Bool), o.w = bo → o.w = false ∨ ¬ o.val = 0 → (bo = true → uniqTo l 0 = (!clash l k o 0 && (x.ops.drop (i + 1)).all (okOp l k) && uniqTo l (k + 1))) ∧ (bo = false → uniqTo l 0 = ((x.ops.drop (i + 1)).all (okOp l k) && uniqTo l (k + 1))) := by
        intro bo hb hz
        refine ⟨fun h => ?_, fun h => ?_⟩
        · rw [hv, okOp, hb, h]
          have : (o.val == 0) = false := by
            rcases hz with hz | hz
            · rw [hb, h] at hz; cases hz
            · simpa using hz
          rw [this]; rfl
        · rw [hv, okOp, hb, h]; rfl
      (refine of_gate ?_; repeat' ((first | (with_reducible refine gate_in ?_) | (with_reducible refine spK_intro ?_ ?_ <;> intro hp) | (with_reducible refine brK_intro ?_ ?_ <;> intro hb <;> try rw [hb]) | (with_reducible refine draw_in (by unfold DrawOk; decide +kernel) ?_) | (with_reducible refine And.intro (by first | omega | (simp only [List.length_map, List.length_take]; omega)) ?_) | fail) <;> try simp only [go_sem, simprocAttr, hy, Op.enc_eq, List.length_map]))
      · rw [hv, okOp, ‹o.w = true›, ‹o.val = 0›]; rfl
      · have hv := (key true ‹_› (.inr ‹_›)).1 rfl
        refine awp_loopA (fun m : Nat => [(0, .a (txnsA l)), (3, .a (I k)), (6, .ref 6 0), (9, .a (txnsA l)), (10, .a (I l.length)), (11, .a (I k)), (17, .a (opsA' x.ops)), (18, .a (I x.ops.length)), (19, .a (I i)), (30, .a (txnsA l)), (31, .a (I l.length)), (32, .a (I m))]) (fun _ => [(6, .box [.a (B true), .a (I o.var), .a (I o.val)])]) (fun m => m ≤ l.length ∧ clash l k o 0 = clash l k o m) (l.length - ·) 0 ?_ ?_ ⟨Nat.zero_le _, rfl⟩ ?_
        · simp only [go_sem, simprocAttr, List.length_map]
        · simp only [go_sem, simprocAttr]
        intro m j ⟨hm, hc⟩
        (refine of_gate ?_; repeat' ((first | (with_reducible refine gate_in ?_) | (with_reducible refine spK_intro ?_ ?_ <;> intro hp) | (with_reducible refine brK_intro ?_ ?_ <;> intro hb <;> try rw [hb]) | (with_reducible refine draw_in (by unfold DrawOk; decide +kernel) ?_) | (with_reducible refine And.intro (by first | omega | (simp only [List.length_map, List.length_take]; omega)) ?_) | fail) <;> try simp only [go_sem, simprocAttr]))
        · have hml : m < l.length := by omega
          have hz : l[m]? = some l[m] := List.getElem?_eq_getElem hml
          have hwm := wrap_succ (n := l.length) hml (by simp only [maxLen]; omega)
          have hzl := hf.at hml
          have hs : clash l k o m = ((!decide ((m : Int) = k) && writesR l[m].ops o.var o.val) || clash l k o (m + 1)) := by
            simp only [clash, range_drop hml, List.any_cons, hz]
          rw [hs] at hc
          generalize l[m] = y at hz hzl hc
          (refine of_gate ?_; repeat' ((first | (with_reducible refine gate_in ?_) | (with_reducible refine spK_intro ?_ ?_ <;> intro hp) | (with_reducible refine brK_intro ?_ ?_ <;> intro hb <;> try rw [hb]) | (with_reducible refine draw_in (by unfold DrawOk; decide +kernel) ?_) | (with_reducible refine And.intro (by first | omega | (simp only [List.length_map, List.length_take]; omega)) ?_) | fail) <;> try simp only [go_sem, simprocAttr, hz, Txn.enc_eq, hwm]))
          · rw [decide_eq_true ‹_›] at hc
            (refine ⟨m + 1, ?_, ?_, ⟨hml, hc⟩, by dsimp only; omega⟩ <;> simp only [go_sem, simprocAttr])
          · rw [decide_eq_false ‹_›] at hc
            refine call_dat (t63 y o.var o.val (by simp only [maxLen]; omega)) ?_
            (refine of_gate ?_; repeat' ((first | (with_reducible refine gate_in ?_) | (with_reducible refine spK_intro ?_ ?_ <;> intro hp) | (with_reducible refine brK_intro ?_ ?_ <;> intro hb <;> try rw [hb]) | (with_reducible refine draw_in (by unfold DrawOk; decide +kernel) ?_) | (with_reducible refine And.intro (by first | omega | (simp only [List.length_map, List.length_take]; omega)) ?_) | fail) <;> try simp only [go_sem, simprocAttr, hwm]))
            · rw [hv, hc, ‹writesR _ _ _ = true›]; rfl
            · rw [‹writesR _ _ _ = false›] at hc
              (refine ⟨m + 1, ?_, ?_, ⟨hml, hc⟩, by dsimp only; omega⟩ <;> simp only [go_sem, simprocAttr])
        · have hc0 : clash l k o m = false := by rw [clash, List.drop_eq_nil_of_le (by simp; omega)]; rfl
          rw [hc0] at hc
          rw [hc] at hv
          (refine of_gate ?_; repeat' ((first | (with_reducible refine gate_in ?_) | (with_reducible refine spK_intro ?_ ?_ <;> intro hp) | (with_reducible refine brK_intro ?_ ?_ <;> intro hb <;> try rw [hb]) | (with_reducible refine draw_in (by unfold DrawOk; decide +kernel) ?_) | (with_reducible refine And.intro (by first | omega | (simp only [List.length_map, List.length_take]; omega)) ?_) | fail) <;> try simp only [go_sem, simprocAttr, hwi]))
          (refine ⟨i + 1, ?_, ?_, ⟨hil, hv⟩, by dsimp only; omega⟩ <;> simp only [go_sem, simprocAttr])
      · have hv := (key false ‹_› (.inl ‹_›)).2 rfl
        refine awp_loopA (fun m : Nat => [(0, .a (txnsA l)), (3, .a (I k)), (6, .ref 6 0), (9, .a (txnsA l)), (10, .a (I l.length)), (11, .a (I k)), (17, .a (opsA' x.ops)), (18, .a (I x.ops.length)), (19, .a (I i)), (30, .a (txnsA l)), (31, .a (I l.length)), (32, .a (I m))]) (fun _ => [(6, .box [.a (B false), .a (I o.var), .a (I o.val)])]) (fun m => m ≤ l.length) (l.length - ·) 0 ?_ ?_ (Nat.zero_le _) ?_
        · simp only [go_sem, simprocAttr, List.length_map]
        · simp only [go_sem, simprocAttr]
        intro m j hm
        (refine of_gate ?_; repeat' ((first | (with_reducible refine gate_in ?_) | (with_reducible refine spK_intro ?_ ?_ <;> intro hp) | (with_reducible refine brK_intro ?_ ?_ <;> intro hb <;> try rw [hb]) | (with_reducible refine draw_in (by unfold DrawOk; decide +kernel) ?_) | (with_reducible refine And.intro (by first | omega | (simp only [List.length_map, List.length_take]; omega)) ?_) | fail) <;> try simp only [go_sem, simprocAttr]))
        · have hml : m < l.length := by omega
          have hz : l[m]? = some l[m] := List.getElem?_eq_getElem hml
          have hwm := wrap_succ (n := l.length) hml (by simp only [maxLen]; omega)
          (refine of_gate ?_; repeat' ((first | (with_reducible refine gate_in ?_) | (with_reducible refine spK_intro ?_ ?_ <;> intro hp) | (with_reducible refine brK_intro ?_ ?_ <;> intro hb <;> try rw [hb]) | (with_reducible refine draw_in (by unfold DrawOk; decide +kernel) ?_) | (with_reducible refine And.intro (by first | omega | (simp only [List.length_map, List.length_take]; omega)) ?_) | fail) <;> try simp only [go_sem, simprocAttr, hz, Txn.enc_eq, hwm]))
          (refine ⟨m + 1, ?_, ?_, hml, by dsimp only; omega⟩ <;> simp only [go_sem, simprocAttr])
        · (refine of_gate ?_; repeat' ((first | (with_reducible refine gate_in ?_) | (with_reducible refine spK_intro ?_ ?_ <;> intro hp) | (with_reducible refine brK_intro ?_ ?_ <;> intro hb <;> try rw [hb]) | (with_reducible refine draw_in (by unfold DrawOk; decide +kernel) ?_) | (with_reducible refine And.intro (by first | omega | (simp only [List.length_map, List.length_take]; omega)) ?_) | fail) <;> try simp only [go_sem, simprocAttr, hwi]))
          (refine ⟨i + 1, ?_, ?_, ⟨hil, hv⟩, by dsimp only; omega⟩ <;> simp only [go_sem, simprocAttr])
    · rw [List.drop_eq_nil_of_le (show x.ops.length ≤ i by omega)] at hv
      (refine of_gate ?_; repeat' ((first | (with_reducible refine gate_in ?_) | (with_reducible refine spK_intro ?_ ?_ <;> intro hp) | (with_reducible refine brK_intro ?_ ?_ <;> intro hb <;> try rw [hb]) | (with_reducible refine draw_in (by unfold DrawOk; decide +kernel) ?_) | (with_reducible refine And.intro (by first | omega | (simp only [List.length_map, List.length_take]; omega)) ?_) | fail) <;> try simp only [go_sem, simprocAttr, hw]))
      (refine ⟨k + 1, ?_, ?_, ⟨hkl, by simpa using hv⟩, by dsimp only; omega⟩ <;> simp only [go_sem, simprocAttr])
  · rw [hu, uniqTo, List.drop_eq_nil_of_le (by simp; omega)]; rfl
end Go.VC
end
section
set_option maxRecDepth 100000
set_option linter.unusedSimpArgs false
set_option linter.unusedVariables false
namespace Go.VC
open Go.RowKit Go.Proofs Go.IntWalk
theorem t20 (h : List Ev) (hl : h.length ≤ 60) : Holds Tryd.prog GL 20 [evsA h] [.a (txnsA (refTab h))] := by
  refine fn_holds (vs := [.tmp 2]) (by kernel_rfl) Tryd.func20 rfl rfl (by kernel_rfl) (by kernel_rfl) rfl ?_
  (refine of_gate ?_; repeat' ((first | (with_reducible refine gate_in ?_) | (with_reducible refine spK_intro ?_ ?_ <;> intro hp) | (with_reducible refine brK_intro ?_ ?_ <;> intro hb <;> try rw [hb]) | (with_reducible refine draw_in (by unfold DrawOk; decide +kernel) ?_) | (with_reducible refine And.intro (by first | omega | (simp only [List.length_map, List.length_take]; omega)) ?_) | fail) <;> try simp only [go_sem, simprocAttr]))
  refine call_dat (t32 h hl) ?_
  (refine of_gate ?_; repeat' ((first | (with_reducible refine gate_in ?_) | (with_reducible refine spK_intro ?_ ?_ <;> intro hp) | (with_reducible refine brK_intro ?_ ?_ <;> intro hb <;> try rw [hb]) | (with_reducible refine draw_in (by unfold DrawOk; decide +kernel) ?_) | (with_reducible refine And.intro (by first | omega | (simp only [List.length_map, List.length_take]; omega)) ?_) | fail) <;> try simp only [go_sem, simprocAttr]))
theorem t21 (a b : List Nat) (hal : a.length ≤ 1000000) : Holds Tryd.prog GL 21 [unsA a, unsA b] [.a (B (a == b))] := by
  refine fn_holds (vs := [.tmp 4]) (by kernel_rfl) Tryd.func21 rfl rfl (by kernel_rfl) (by kernel_rfl) rfl ?_
  by_cases hl : a.length = b.length
  · have hli : (a.length : Int) = (b.length : Int) := by omega
    (refine of_gate ?_; repeat' ((first | (with_reducible refine gate_in ?_) | (with_reducible refine spK_intro ?_ ?_ <;> intro hp) | (with_reducible refine brK_intro ?_ ?_ <;> intro hb <;> try rw [hb]) | (with_reducible refine draw_in (by unfold DrawOk; decide +kernel) ?_) | (with_reducible refine And.intro (by first | omega | (simp only [List.length_map, List.length_take]; omega)) ?_) | fail) <;> try simp only [go_sem, simprocAttr, List.length_map, hli]))
    refine awp_loopA (fun k : Nat => [(0, .a (unsA a)), (1, .a (unsA b)), (12, .a (I b.length)), (13, .a (I k))]) (fun _ => []) (fun k => k ≤ a.length ∧ a.take k = b.take k) (a.length - ·) 0 ?_ ?_ ⟨Nat.zero_le _, rfl⟩ ?_
    · simp only [go_sem, simprocAttr, List.length_map]
    · simp only [go_sem, simprocAttr]
    intro k j ⟨hk, hq⟩
    (refine of_gate ?_; repeat' ((first | (with_reducible refine gate_in ?_) | (with_reducible refine spK_intro ?_ ?_ <;> intro hp) | (with_reducible refine brK_intro ?_ ?_ <;> intro hb <;> try rw [hb]) | (with_reducible refine draw_in (by unfold DrawOk; decide +kernel) ?_) | (with_reducible refine And.intro (by first | omega | (simp only [List.length_map, List.length_take]; omega)) ?_) | fail) <;> try simp only [go_sem, simprocAttr]))
    · have hkl : k < a.length := by omega
      have hkb : k < b.length := by omega
      have hw := wrap_succ hkl (by simp only [maxLen]; omega)
      have hx : a[k]? = some a[k] := List.getElem?_eq_getElem hkl
      have hy : b[k]? = some b[k] := List.getElem?_eq_getElem hkb
      (refine of_gate ?_; repeat' ((first | (with_reducible refine gate_in ?_) | (with_reducible refine spK_intro ?_ ?_ <;> intro hp) | (with_reducible refine brK_intro ?_ ?_ <;> intro hb <;> try rw [hb]) | (with_reducible refine draw_in (by unfold DrawOk; decide +kernel) ?_) | (with_reducible refine And.intro (by first | omega | (simp only [List.length_map, List.length_take]; omega)) ?_) | fail) <;> try simp only [go_sem, simprocAttr, hx, hy, uenc_eq, hw, List.length_map]))
      · have he : a[k] = b[k] := by omega
        (refine ⟨k + 1, ?_, ?_, ⟨hkl, by rw [List.take_succ_eq_append_getElem hkl, List.take_succ_eq_append_getElem hkb, hq, he]⟩, by dsimp only; omega⟩ <;> simp only [go_sem, simprocAttr])
      · have : ¬ a = b := fun e => by subst e; simp at *
        simp [this]
    · rw [List.take_of_length_le (by omega), List.take_of_length_le (by omega)] at hq
      subst hq; simp
  · have hne : ¬ a = b := fun e => hl (by rw [e])
    (refine of_gate ?_; repeat' ((first | (with_reducible refine gate_in ?_) | (with_reducible refine spK_intro ?_ ?_ <;> intro hp) | (with_reducible refine brK_intro ?_ ?_ <;> intro hb <;> try rw [hb]) | (with_reducible refine draw_in (by unfold DrawOk; decide +kernel) ?_) | (with_reducible refine And.intro (by first | omega | (simp only [List.length_map, List.length_take]; omega)) ?_) | fail) <;> try simp only [go_sem, simprocAttr, List.length_map]))
    · omega
    · simp [hne]
theorem t23 (l : List Txn) (r : List Int) (hrl : r.length ≤ 1000000) : Holds Tryd.prog GL 23 [txnsA l, intsA r] [.a (B (r.all (inT l.length)))] := by
  refine fn_holds (vs := [.tmp 4]) (by kernel_rfl) Tryd.func23 rfl rfl (by kernel_rfl) (by kernel_rfl) rfl ?_
  (refine of_gate ?_; repeat' ((first | (with_reducible refine gate_in ?_) | (with_reducible refine spK_intro ?_ ?_ <;> intro hp) | (with_reducible refine brK_intro ?_ ?_ <;> intro hb <;> try rw [hb]) | (with_reducible refine draw_in (by unfold DrawOk; decide +kernel) ?_) | (with_reducible refine And.intro (by first | omega | (simp only [List.length_map, List.length_take]; omega)) ?_) | fail) <;> try simp only [go_sem, simprocAttr, List.length_map]))
  refine awp_loopA (fun k : Nat => [(0, .a (txnsA l)), (7, .a (intsA r)), (8, .a (I r.length)), (9, .a (I k))]) (fun _ => []) (fun k => k ≤ r.length ∧ r.all (inT l.length) = (r.drop k).all (inT l.length)) (r.length - ·) 0 ?_ ?_ ⟨Nat.zero_le _, rfl⟩ ?_
  · simp only [go_sem, simprocAttr, List.length_map]
  · simp only [go_sem, simprocAttr]
  intro k j ⟨hk, hq⟩
  (refine of_gate ?_; repeat' ((first | (with_reducible refine gate_in ?_) | (with_reducible refine spK_intro ?_ ?_ <;> intro hp) | (with_reducible refine brK_intro ?_ ?_ <;> intro hb <;> try rw [hb]) | (with_reducible refine draw_in (by unfold DrawOk; decide +kernel) ?_) | (with_reducible refine And.intro (by first | omega | (simp only [List.length_map, List.length_take]; omega)) ?_) | fail) <;> try simp only [go_sem, simprocAttr]))
  · have hkl : k < r.length := by omega
    have hw := wrap_succ hkl (by simp only [maxLen]; omega)
    have hx : r[k]? = some r[k] := List.getElem?_eq_getElem hkl
    rw [List.drop_eq_getElem_cons hkl, List.all_cons] at hq
    generalize r[k] = x at hx hq
    (refine of_gate ?_; repeat' ((first | (with_reducible refine gate_in ?_) | (with_reducible refine spK_intro ?_ ?_ <;> intro hp) | (with_reducible refine brK_intro ?_ ?_ <;> intro hb <;> try rw [hb]) | (with_reducible refine draw_in (by unfold DrawOk; decide +kernel) ?_) | (with_reducible refine And.intro (by first | omega | (simp only [List.length_map, List.length_take]; omega)) ?_) | fail) <;> try simp only [go_sem, simprocAttr, hx, ienc_eq, hw, List.length_map]))
    all_goals first
      | (have hi : inT l.length x = true := by simp only [inT, Bool.and_eq_true, decide_eq_true_eq]; omega
         rw [hi, Bool.true_and] at hq
         (refine ⟨k + 1, ?_, ?_, ⟨hkl, hq⟩, by dsimp only; omega⟩ <;> simp only [go_sem, simprocAttr])
         done)
      | (have hi : inT l.length x = false := by
           cases h : inT l.length x with
           | false => rfl
           | true => simp only [inT, Bool.and_eq_true, decide_eq_true_eq] at h; omega
         rw [hq, hi]; rfl)
  · rw [hq, List.drop_eq_nil_of_le (by omega)]; rfl
/-- States of transactions. -/
def StT (l : List Txn) : Prop := ∀ t ∈ l, t.st ≤ 3
theorem t24 (l : List Txn) (hs : StT l) (i k : Nat) (hi : i < l.length) (hk : k < l.length) : Holds Tryd.prog GL 24 [txnsA l, I i, I k] [.a (B (beforeB l i k))] := by
  refine fn_holds (vs := [.tmp 6]) (by kernel_rfl) Tryd.func24 rfl rfl (by kernel_rfl) (by kernel_rfl) rfl ?_
  have hx : l[i]? = some l[i] := List.getElem?_eq_getElem hi
  have hy : l[k]? = some l[k] := List.getElem?_eq_getElem hk
  have h3 := hs _ (List.getElem_mem hi)
  have hb : beforeB l i k = (decide (2 ≤ l[i].st) && decide (l[i].last < l[k].first)) := by simp only [beforeB, hx, hy]
  rw [hb]
  generalize l[i] = a at *
  generalize l[k] = b at *
  (refine of_gate ?_; repeat' ((first | (with_reducible refine gate_in ?_) | (with_reducible refine spK_intro ?_ ?_ <;> intro hp) | (with_reducible refine brK_intro ?_ ?_ <;> intro hb <;> try rw [hb]) | (with_reducible refine draw_in (by unfold DrawOk; decide +kernel) ?_) | (with_reducible refine And.intro (by first | omega | (simp only [List.length_map, List.length_take]; omega)) ?_) | fail) <;> try simp only [go_sem, simprocAttr, hx, hy, Txn.enc_eq, List.length_map, txns_len]))
  all_goals first
    | (rw [decide_eq_true (show 2 ≤ a.st by omega), decide_eq_true (show a.last < b.first by omega)]; rfl)
    | (rw [decide_eq_false (show ¬ a.last < b.first by omega), Bool.and_false])
    | (rw [decide_eq_false (show ¬ 2 ≤ a.st by omega), Bool.false_and])
theorem c24 {l : List Txn} (hs : StT l) {i k : Nat} (hi : i < l.length) (hk : k < l.length) {dst : Option Tmp} {σ : S} {K : S → Prop} (hK : S.ret σ dst [.a (B (beforeB l i k))] K) : callV Tryd.prog GL 24 [.a (txnsA l), .a (I i), .a (I k)] dst σ K := call_dat (t24 l hs i k hi hk) hK
theorem u32_dbl {j : Nat} (hj : j < 31) : IntKind.u32.wrap (2 * ((2 ^ j : Nat) : Int)) = ((2 ^ (j + 1) : Nat) : Int) := by
  have h2 : (2 : Nat) ^ (j + 1) ≤ 2 ^ 31 := Nat.pow_le_pow_right (by omega) (by omega)
  have e : (2 : Nat) ^ (j + 1) = 2 * 2 ^ j := by rw [Nat.pow_succ, Nat.mul_comm]
  rw [e] at h2 ⊢
  generalize 2 ^ j = q at h2 ⊢
  rw [u32_in _ (by omega)]; omega
theorem t60 (k : Nat) (hk : k < 32) : Holds Tryd.prog GL 60 [I k] [.a (U (2 ^ k))] := by
  refine fn_holds (vs := [.tmp 2]) (by kernel_rfl) Tryd.func60 rfl rfl (by kernel_rfl) (by kernel_rfl) rfl ?_
  (refine of_gate ?_; repeat' ((first | (with_reducible refine gate_in ?_) | (with_reducible refine spK_intro ?_ ?_ <;> intro hp) | (with_reducible refine brK_intro ?_ ?_ <;> intro hb <;> try rw [hb]) | (with_reducible refine draw_in (by unfold DrawOk; decide +kernel) ?_) | (with_reducible refine And.intro (by first | omega | (simp only [List.length_map, List.length_take]; omega)) ?_) | fail) <;> try simp only [go_sem, simprocAttr]))
  refine awp_loopA (fun j : Nat => [(0, .a (I k)), (3, .a (U (2 ^ j))), (4, .a (I j))]) (fun _ => []) (fun j => j ≤ k) (k - ·) 0 ?_ ?_ (Nat.zero_le _) ?_
  · simp only [go_sem, simprocAttr, Nat.pow_zero]; try rfl
  · simp only [go_sem, simprocAttr]
  intro j j2 hj
  (refine of_gate ?_; repeat' ((first | (with_reducible refine gate_in ?_) | (with_reducible refine spK_intro ?_ ?_ <;> intro hp) | (with_reducible refine brK_intro ?_ ?_ <;> intro hb <;> try rw [hb]) | (with_reducible refine draw_in (by unfold DrawOk; decide +kernel) ?_) | (with_reducible refine And.intro (by first | omega | (simp only [List.length_map, List.length_take]; omega)) ?_) | fail) <;> try simp only [go_sem, simprocAttr]))
  · have hjl : j < k := by omega
    have hw := wrap_succ (n := k) hjl (by simp only [maxLen]; omega)
    have hd := u32_dbl (j := j) (by omega)
    (refine of_gate ?_; repeat' ((first | (with_reducible refine gate_in ?_) | (with_reducible refine spK_intro ?_ ?_ <;> intro hp) | (with_reducible refine brK_intro ?_ ?_ <;> intro hb <;> try rw [hb]) | (with_reducible refine draw_in (by unfold DrawOk; decide +kernel) ?_) | (with_reducible refine And.intro (by first | omega | (simp only [List.length_map, List.length_take]; omega)) ?_) | fail) <;> try simp only [go_sem, simprocAttr, hw, hd]))
    (refine ⟨j + 1, ?_, ?_, hjl, by dsimp only; omega⟩ <;> simp only [go_sem, simprocAttr, hw, hd])
  · rw [show j = k by omega]
theorem c60 {k : Nat} (hk : k < 32) {dst : Option Tmp} {σ : S} {K : S → Prop} (hK : S.ret σ dst [.a (U (2 ^ k))] K) : callV Tryd.prog GL 60 [.a (I k)] dst σ K := call_dat (t60 k hk) hK
theorem u32_add {a b : Nat} (h : a + b < 2 ^ 32) : IntKind.u32.wrap ((a : Int) + (b : Int)) = ((a + b : Nat) : Int) := by
  rw [u32_in _ (by omega)]; omega
theorem t22 (l : List Txn) (hs : StT l) (hl : l.length ≤ 30) : Holds Tryd.prog GL 22 [txnsA l] [.a (unsA (afterR l))] := by
  refine fn_holds (vs := [.tmp 2]) (by kernel_rfl) Tryd.func22 rfl rfl (by kernel_rfl) (by kernel_rfl) rfl ?_
  (refine of_gate ?_; repeat' ((first | (with_reducible refine gate_in ?_) | (with_reducible refine spK_intro ?_ ?_ <;> intro hp) | (with_reducible refine brK_intro ?_ ?_ <;> intro hb <;> try rw [hb]) | (with_reducible refine draw_in (by unfold DrawOk; decide +kernel) ?_) | (with_reducible refine And.intro (by first | omega | (simp only [List.length_map, List.length_take]; omega)) ?_) | fail) <;> try simp only [go_sem, simprocAttr, List.length_map]))
  refine awp_loopA (fun i : Nat => [(0, .a (txnsA l)), (3, .own 7), (8, .a (txnsA l)), (9, .a (I l.length)), (10, .a (I i))]) (fun i => [(7, .log 28 1 ((((List.range i).map fun q => bitsN (beforeB l q) l.length)).map uenc))]) (fun i => i ≤ l.length) (l.length - ·) 0 ?_ ?_ (Nat.zero_le _) ?_
  · simp only [go_sem, simprocAttr, List.length_map]
  · simp only [go_sem, simprocAttr]; try rfl
  intro i j hi
  (refine of_gate ?_; repeat' ((first | (with_reducible refine gate_in ?_) | (with_reducible refine spK_intro ?_ ?_ <;> intro hp) | (with_reducible refine brK_intro ?_ ?_ <;> intro hb <;> try rw [hb]) | (with_reducible refine draw_in (by unfold DrawOk; decide +kernel) ?_) | (with_reducible refine And.intro (by first | omega | (simp only [List.length_map, List.length_take]; omega)) ?_) | fail) <;> try simp only [go_sem, simprocAttr]))
  · have hil : i < l.length := by omega
    have hw := wrap_succ (n := l.length) hil (by simp only [maxLen]; omega)
    (refine of_gate ?_; repeat' ((first | (with_reducible refine gate_in ?_) | (with_reducible refine spK_intro ?_ ?_ <;> intro hp) | (with_reducible refine brK_intro ?_ ?_ <;> intro hb <;> try rw [hb]) | (with_reducible refine draw_in (by unfold DrawOk; decide +kernel) ?_) | (with_reducible refine And.intro (by first | omega | (simp only [List.length_map, List.length_take]; omega)) ?_) | fail) <;> try simp only [go_sem, simprocAttr, List.length_map]))
    refine awp_loopA (fun k : Nat => [(0, .a (txnsA l)), (3, .own 7), (4, .a (I i)), (5, .a (U (bitsN (beforeB l i) k))), (8, .a (txnsA l)), (9, .a (I l.length)), (10, .a (I i)), (13, .a (txnsA l)), (14, .a (I l.length)), (15, .a (I k))]) (fun _ => [(7, .log 28 1 ((((List.range i).map fun q => bitsN (beforeB l q) l.length)).map uenc))]) (fun k => k ≤ l.length) (l.length - ·) 0 ?_ ?_ (Nat.zero_le _) ?_
    · simp only [go_sem, simprocAttr, List.length_map, bitsN]; try rfl
    · simp only [go_sem, simprocAttr]
    intro k j2 hk
    (refine of_gate ?_; repeat' ((first | (with_reducible refine gate_in ?_) | (with_reducible refine spK_intro ?_ ?_ <;> intro hp) | (with_reducible refine brK_intro ?_ ?_ <;> intro hb <;> try rw [hb]) | (with_reducible refine draw_in (by unfold DrawOk; decide +kernel) ?_) | (with_reducible refine And.intro (by first | omega | (simp only [List.length_map, List.length_take]; omega)) ?_) | fail) <;> try simp only [go_sem, simprocAttr]))
    · have hkl : k < l.length := by omega
      have hwk := wrap_succ (n := l.length) hkl (by simp only [maxLen]; omega)
      (refine of_gate ?_; repeat' ((first | (with_reducible refine gate_in ?_) | (with_reducible refine spK_intro ?_ ?_ <;> intro hp) | (with_reducible refine brK_intro ?_ ?_ <;> intro hb <;> try rw [hb]) | (with_reducible refine draw_in (by unfold DrawOk; decide +kernel) ?_) | (with_reducible refine And.intro (by first | omega | (simp only [List.length_map, List.length_take]; omega)) ?_) | fail) <;> try simp only [go_sem, simprocAttr, hwk]))
      refine c24 hs hil hkl ?_
      have hs2 : bitsN (beforeB l i) (k + 1) = bitsN (beforeB l i) k + if beforeB l i k then 2 ^ k else 0 := rfl
      cases hB : beforeB l i k with
      | true =>
        have hlt := bits32 (beforeB l i) (n := k + 1) (by omega)
        rw [hs2, hB, if_pos rfl] at hlt
        rw [hB, if_pos rfl] at hs2
        (refine of_gate ?_; repeat' ((first | (with_reducible refine gate_in ?_) | (with_reducible refine spK_intro ?_ ?_ <;> intro hp) | (with_reducible refine brK_intro ?_ ?_ <;> intro hb <;> try rw [hb]) | (with_reducible refine draw_in (by unfold DrawOk; decide +kernel) ?_) | (with_reducible refine And.intro (by first | omega | (simp only [List.length_map, List.length_take]; omega)) ?_) | fail) <;> try simp only [go_sem, simprocAttr, hwk]))
        refine c60 (by omega) ?_
        (refine of_gate ?_; repeat' ((first | (with_reducible refine gate_in ?_) | (with_reducible refine spK_intro ?_ ?_ <;> intro hp) | (with_reducible refine brK_intro ?_ ?_ <;> intro hb <;> try rw [hb]) | (with_reducible refine draw_in (by unfold DrawOk; decide +kernel) ?_) | (with_reducible refine And.intro (by first | omega | (simp only [List.length_map, List.length_take]; omega)) ?_) | fail) <;> try simp only [go_sem, simprocAttr, hwk, u32_add hlt, List.length_map]))
        (refine ⟨k + 1, ?_, ?_, hkl, by dsimp only; omega⟩ <;> simp only [go_sem, simprocAttr, hwk, hs2, u32_add hlt])
      | false =>
        rw [hB] at hs2
        simp only [Bool.false_eq_true, if_false, Nat.add_zero] at hs2
        (refine of_gate ?_; repeat' ((first | (with_reducible refine gate_in ?_) | (with_reducible refine spK_intro ?_ ?_ <;> intro hp) | (with_reducible refine brK_intro ?_ ?_ <;> intro hb <;> try rw [hb]) | (with_reducible refine draw_in (by unfold DrawOk; decide +kernel) ?_) | (with_reducible refine And.intro (by first | omega | (simp only [List.length_map, List.length_take]; omega)) ?_) | fail) <;> try simp only [go_sem, simprocAttr, hwk]))
        (refine ⟨k + 1, ?_, ?_, hkl, by dsimp only; omega⟩ <;> simp only [go_sem, simprocAttr, hwk, hs2])
    · rw [show k = l.length by omega]
      have hs3 : (List.range (i + 1)).map (fun q => bitsN (beforeB l q) l.length) = (List.range i).map (fun q => bitsN (beforeB l q) l.length) ++ [bitsN (beforeB l i) l.length] := by
        rw [List.range_succ, List.map_append]; rfl
      have hll : ((List.range i).map (fun q => bitsN (beforeB l q) l.length)).length = i := by simp
      (refine of_gate ?_; repeat' ((first | (with_reducible refine gate_in ?_) | (with_reducible refine spK_intro ?_ ?_ <;> intro hp) | (with_reducible refine brK_intro ?_ ?_ <;> intro hb <;> try rw [hb]) | (with_reducible refine draw_in (by unfold DrawOk; decide +kernel) ?_) | (with_reducible refine And.intro (by first | omega | (simp only [List.length_map, List.length_take]; omega)) ?_) | fail) <;> try simp only [go_sem, simprocAttr, hw, List.length_map, hll]))
      (refine ⟨i + 1, ?_, ?_, hil, by dsimp only; omega⟩ <;> simp only [go_sem, simprocAttr, hw, hs3, List.map_append, uenc_eq])
  · rw [show i = l.length by omega]; rfl
theorem t25 (l : List Txn) (hs : StT l) (r : List Int) (hrl : r.length ≤ 1000000) (hr : r.all (inT l.length) = true) : Holds Tryd.prog GL 25 [txnsA l, intsA r] [.a (B (keepsFrom l r 0))] := by
  refine fn_holds (vs := [.tmp 4]) (by kernel_rfl) Tryd.func25 rfl rfl (by kernel_rfl) (by kernel_rfl) rfl ?_
  (refine of_gate ?_; repeat' ((first | (with_reducible refine gate_in ?_) | (with_reducible refine spK_intro ?_ ?_ <;> intro hp) | (with_reducible refine brK_intro ?_ ?_ <;> intro hb <;> try rw [hb]) | (with_reducible refine draw_in (by unfold DrawOk; decide +kernel) ?_) | (with_reducible refine And.intro (by first | omega | (simp only [List.length_map, List.length_take]; omega)) ?_) | fail) <;> try simp only [go_sem, simprocAttr, List.length_map]))
  refine awp_loopA (fun k : Nat => [(0, .a (txnsA l)), (1, .a (intsA r)), (9, .a (intsA r)), (10, .a (I r.length)), (11, .a (I k))]) (fun _ => []) (fun k => k ≤ r.length ∧ keepsFrom l r 0 = keepsFrom l r k) (r.length - ·) 0 ?_ ?_ ⟨Nat.zero_le _, rfl⟩ ?_
  · simp only [go_sem, simprocAttr, List.length_map]
  · simp only [go_sem, simprocAttr]
  intro k j ⟨hk, hq⟩
  (refine of_gate ?_; repeat' ((first | (with_reducible refine gate_in ?_) | (with_reducible refine spK_intro ?_ ?_ <;> intro hp) | (with_reducible refine brK_intro ?_ ?_ <;> intro hb <;> try rw [hb]) | (with_reducible refine draw_in (by unfold DrawOk; decide +kernel) ?_) | (with_reducible refine And.intro (by first | omega | (simp only [List.length_map, List.length_take]; omega)) ?_) | fail) <;> try simp only [go_sem, simprocAttr]))
  · have hkl : k < r.length := by omega
    have hw := wrap_succ hkl (by simp only [maxLen]; omega)
    have hin := List.all_eq_true.1 hr
    obtain ⟨x, hx, hxl⟩ := inT_iff.1 (hin r[k] (List.getElem_mem hkl))
    have hy : r[k]? = some (x : Int) := by rw [List.getElem?_eq_getElem hkl, hx]
    have hi1 : (k : Int) ≤ (r.length : Int) := by omega
    have htk : List.take k (r.map ienc) = (r.take k).map ienc := by rw [List.map_take]
    have hok : okAt l r k = (r.take k).all fun y => !((x : Int) == y || beforeB l x y.toNat) := by simp only [okAt, hy, Int.toNat_natCast]
    rw [keeps_s hkl, hok] at hq
    have hg : ∀ y ∈ r.take k, inT l.length y = true := fun y h => hin y (List.mem_of_mem_take h)
    have hgl : (r.take k).length ≤ 1000000 := by simp; omega
    generalize r.take k = g at *
    (refine of_gate ?_; repeat' ((first | (with_reducible refine gate_in ?_) | (with_reducible refine spK_intro ?_ ?_ <;> intro hp) | (with_reducible refine brK_intro ?_ ?_ <;> intro hb <;> try rw [hb]) | (with_reducible refine draw_in (by unfold DrawOk; decide +kernel) ?_) | (with_reducible refine And.intro (by first | omega | (simp only [List.length_map, List.length_take]; omega)) ?_) | fail) <;> try simp only [go_sem, simprocAttr, hy, ienc_eq, hi1, htk, Int.toNat_zero, List.length_map]))
    refine awp_loopA (fun i : Nat => [(0, .a (txnsA l)), (1, .a (intsA r)), (6, .a (I x)), (9, .a (intsA r)), (10, .a (I r.length)), (11, .a (I k)), (18, .a (intsA g)), (19, .a (I g.length)), (20, .a (I i))]) (fun _ => []) (fun i => i ≤ g.length ∧ keepsFrom l r 0 = ((g.drop i).all (fun y => !((x : Int) == y || beforeB l x y.toNat)) && keepsFrom l r (k + 1))) (g.length - ·) 0 ?_ ?_ ⟨Nat.zero_le _, hq⟩ ?_
    · simp only [go_sem, simprocAttr, List.length_map, htk]
    · simp only [go_sem, simprocAttr]
    intro i j2 ⟨hi, hv⟩
    (refine of_gate ?_; repeat' ((first | (with_reducible refine gate_in ?_) | (with_reducible refine spK_intro ?_ ?_ <;> intro hp) | (with_reducible refine brK_intro ?_ ?_ <;> intro hb <;> try rw [hb]) | (with_reducible refine draw_in (by unfold DrawOk; decide +kernel) ?_) | (with_reducible refine And.intro (by first | omega | (simp only [List.length_map, List.length_take]; omega)) ?_) | fail) <;> try simp only [go_sem, simprocAttr]))
    · have hil : i < g.length := by omega
      have hwi := wrap_succ hil (by simp only [maxLen]; omega)
      obtain ⟨y, hy2, hyl⟩ := inT_iff.1 (hg g[i] (List.getElem_mem hil))
      have hz : g[i]? = some (y : Int) := by rw [List.getElem?_eq_getElem hil, hy2]
      rw [List.drop_eq_getElem_cons hil, List.all_cons, hy2, Int.toNat_natCast] at hv
      (refine of_gate ?_; repeat' ((first | (with_reducible refine gate_in ?_) | (with_reducible refine spK_intro ?_ ?_ <;> intro hp) | (with_reducible refine brK_intro ?_ ?_ <;> intro hb <;> try rw [hb]) | (with_reducible refine draw_in (by unfold DrawOk; decide +kernel) ?_) | (with_reducible refine And.intro (by first | omega | (simp only [List.length_map, List.length_take]; omega)) ?_) | fail) <;> try simp only [go_sem, simprocAttr, hz, ienc_eq, hwi]))
      · have : ((x : Int) == (y : Int)) = true := by simpa using ‹(x : Int) = (y : Int)›
        rw [hv, this]; rfl
      · have hne : ((x : Int) == (y : Int)) = false := by simpa using ‹¬ (x : Int) = (y : Int)›
        rw [hne, Bool.false_or] at hv
        refine c24 hs hxl hyl ?_
        cases hB : beforeB l x y with
        | true =>
          (refine of_gate ?_; repeat' ((first | (with_reducible refine gate_in ?_) | (with_reducible refine spK_intro ?_ ?_ <;> intro hp) | (with_reducible refine brK_intro ?_ ?_ <;> intro hb <;> try rw [hb]) | (with_reducible refine draw_in (by unfold DrawOk; decide +kernel) ?_) | (with_reducible refine And.intro (by first | omega | (simp only [List.length_map, List.length_take]; omega)) ?_) | fail) <;> try simp only [go_sem, simprocAttr, hwi]))
          rw [hv, hB]; rfl
        | false =>
          rw [hB] at hv
          (refine of_gate ?_; repeat' ((first | (with_reducible refine gate_in ?_) | (with_reducible refine spK_intro ?_ ?_ <;> intro hp) | (with_reducible refine brK_intro ?_ ?_ <;> intro hb <;> try rw [hb]) | (with_reducible refine draw_in (by unfold DrawOk; decide +kernel) ?_) | (with_reducible refine And.intro (by first | omega | (simp only [List.length_map, List.length_take]; omega)) ?_) | fail) <;> try simp only [go_sem, simprocAttr, hwi]))
          (refine ⟨i + 1, ?_, ?_, ⟨hil, by simpa using hv⟩, by dsimp only; omega⟩ <;> simp only [go_sem, simprocAttr, hwi])
    · rw [List.drop_eq_nil_of_le (show g.length ≤ i by omega)] at hv
      (refine of_gate ?_; repeat' ((first | (with_reducible refine gate_in ?_) | (with_reducible refine spK_intro ?_ ?_ <;> intro hp) | (with_reducible refine brK_intro ?_ ?_ <;> intro hb <;> try rw [hb]) | (with_reducible refine draw_in (by unfold DrawOk; decide +kernel) ?_) | (with_reducible refine And.intro (by first | omega | (simp only [List.length_map, List.length_take]; omega)) ?_) | fail) <;> try simp only [go_sem, simprocAttr, hw]))
      (refine ⟨k + 1, ?_, ?_, ⟨hkl, by simpa using hv⟩, by dsimp only; omega⟩ <;> simp only [go_sem, simprocAttr])
  · rw [hq, keeps_n (by omega)]
end Go.VC
end
