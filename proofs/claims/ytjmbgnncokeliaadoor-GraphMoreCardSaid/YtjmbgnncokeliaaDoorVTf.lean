/- Maps by pairs of numbers. -/
import Derived.Test.YtjmbgnncokeliaaDoorVTe
set_option maxRecDepth 100000
set_option linter.unusedSimpArgs false
set_option linter.unusedVariables false
namespace Go.VC
open Go.RowKit Go.Proofs
/-- A type of pairs of numbers. -/
structure PairT (P : Program) (k : TypeId) : Prop where
  ex : ∃ (f0 f1 : Field) (t : TypeId) (i : TypeInfo), P.underlying k = some (.struct #[f0, f1]) ∧ f0.name ≠ "_" ∧ f1.name ≠ "_" ∧ f0.offset = 0 ∧ f1.offset = 1 ∧ f0.type = t ∧ f1.type = t ∧ P.underlying t = some (.int .i64) ∧ P.stoodInHeld k = false
def pairV (p : Int × Int) : Value := .agg #[.int .i64 p.1, .int .i64 p.2]
section
variable {P : Program} {k : TypeId} {w : World}
theorem run_part_int {t : TypeId} (ht : P.underlying t = some (.int .i64)) {cs : Array Value} {off : Nat} {v : Value} (h : cs[off]? = some v) : (part t cs off).run P w = .ok v w := by
  simp [part, isAgg, run_under ht, h]
theorem run_check_pair0 (hk : PairT P k) (em : Bool) (n : Nat) (p : Int × Int) : (Instr.checkKey em (n + 2) k (pairV p)).run P w = .ok () w := by
  obtain ⟨f0, f1, t, i, hu, n0, n1, o0, o1, rfl, t1, ht, hh⟩ := hk.ex
  have h0 : (part f0.type #[.int .i64 p.1, .int .i64 p.2] f0.offset).run P w = .ok (.int .i64 p.1) w := run_part_int ht (by rw [o0]; rfl)
  have h1 : (part f0.type #[.int .i64 p.1, .int .i64 p.2] f1.offset).run P w = .ok (.int .i64 p.2) w := run_part_int ht (by rw [o1]; rfl)
  have hc : ∀ a : Int, (Instr.checkKey em (n + 1) f0.type (.int .i64 a)).run P w = .ok () w := fun a => by
    simp [Instr.checkKey, run_under ht]
  rw [Instr.checkKey]
  simp [pairV, run_under hu, n0, n1, t1, h0, h1, hc]
theorem run_check_pair (hk : PairT P k) (em : Bool) (p : Int × Int) : (Instr.checkKey em 10000 k (pairV p)).run P w = .ok () w := run_check_pair0 hk em 9998 p
theorem run_eq_pair0 (hk : PairT P k) (n : Nat) (p q : Int × Int) : (Op.equalIn (n + 2) k (pairV p) (pairV q)).run P w = .ok (decide (p = q)) w := by
  obtain ⟨f0, f1, t, i, hu, n0, n1, o0, o1, rfl, t1, ht, hh⟩ := hk.ex
  have h0 : ∀ p : Int × Int, (part f0.type #[.int .i64 p.1, .int .i64 p.2] f0.offset).run P w = .ok (.int .i64 p.1) w := fun p => run_part_int ht (by rw [o0]; rfl)
  have h1 : ∀ p : Int × Int, (part f0.type #[.int .i64 p.1, .int .i64 p.2] f1.offset).run P w = .ok (.int .i64 p.2) w := fun p => run_part_int ht (by rw [o1]; rfl)
  have hc : ∀ a b : Int, (Op.equalIn (n + 1) f0.type (.int .i64 a) (.int .i64 b)).run P w = .ok (a == b) w := fun a b => by
    simp [Op.equalIn, run_under ht]
  rw [Op.equalIn]
  obtain ⟨a, b⟩ := p
  obtain ⟨c, d⟩ := q
  have g := h0 (a, b); have g' := h1 (a, b); have k0 := h0 (c, d); have k1 := h1 (c, d)
  simp only at g g' k0 k1
  by_cases e1 : a = c
  · subst e1
    by_cases e2 : b = d
    · subst e2
      simp [pairV, run_under hu, hh, n0, n1, t1, g, g', hc]
    · simp [pairV, run_under hu, hh, n0, n1, t1, g, g', k0, k1, hc, e2]
  · simp [pairV, run_under hu, hh, n0, n1, t1, g, g', k0, k1, hc, e1]
theorem run_eq_pair (hk : PairT P k) (p q : Int × Int) : (Op.equal k (pairV p) (pairV q)).run P w = .ok (decide (p = q)) w := run_eq_pair0 hk 9998 p q
/-- A map by pairs: what it holds. -/
def pGet : List ((Int × Int) × Int) → Int × Int → Option Int
  | [], _ => none
  | (k, x) :: kv, n => if k = n then some x else pGet kv n
def pSet : List ((Int × Int) × Int) → Int × Int → Int → List ((Int × Int) × Int)
  | [], n, x => [(n, x)]
  | (k, y) :: kv, n, x => if k = n then (n, x) :: kv else (k, y) :: pSet kv n x
theorem find_pair0 (hk : PairT P k) (n : Int × Int) : ∀ (es : List MapEntry) (kv : List ((Int × Int) × Int)) (i : Nat), es.length = kv.length → (∀ (j : Nat) (e : MapEntry) (p : (Int × Int) × Int), es[j]? = some e → kv[j]? = some p → e.key = pairV p.1) →
    ((Instr.findAsking k (pairV n) es i).run P w = .ok none w ∧ pGet kv n = none ∧ (∀ y, pSet kv n y = kv ++ [(n, y)]) ∧ ∀ e ∈ es, e.key ≠ pairV n) ∨
    ∃ (j : Nat) (e : MapEntry) (p : (Int × Int) × Int), (Instr.findAsking k (pairV n) es i).run P w = .ok (some (i + j, e.val)) w ∧ es[j]? = some e ∧ kv[j]? = some p ∧ p.1 = n ∧ pGet kv n = some p.2 ∧ ∀ y, pSet kv n y = kv.set j (n, y)
  | [], [], i, _, _ => .inl ⟨rfl, rfl, fun _ => rfl, fun e he => by simp at he⟩
  | [], _ :: _, i, hl, _ => by simp at hl
  | _ :: _, [], i, hl, _ => by simp at hl
  | e :: es, (q, x) :: kv, i, hl, hkk => by
    have h0 : e.key = pairV q := hkk 0 e (q, x) rfl rfl
    have hpe : ∀ a b : Int × Int, pairV a = pairV b → a = b := fun a b h => by
      obtain ⟨a1, a2⟩ := a; obtain ⟨b1, b2⟩ := b
      simp [pairV] at h
      rw [h.1, h.2]
    by_cases e0 : q = n
    · subst e0
      exact .inr ⟨0, e, (q, x), by simp [Instr.findAsking, h0, run_eq_pair hk], rfl, rfl, rfl, by simp [pGet], fun y => by simp [pSet]⟩
    · have e0' : ¬ n = q := fun h => e0 h.symm
      rcases find_pair0 hk n es kv (i + 1) (by simpa using hl) (fun j e p h1 h2 => hkk (j + 1) e p (by simpa using h1) (by simpa using h2)) with ⟨h1, h2, h3, h4⟩ | ⟨j, e', p, h1, h2, h3, h4, h5, h6⟩
      · refine .inl ⟨?_, by simp [pGet, e0, h2], fun y => by simp [pSet, e0, h3 y], fun e' he' => ?_⟩
        · simp [Instr.findAsking, h0, run_eq_pair hk, e0', h1]
        · rcases List.mem_cons.1 he' with rfl | he'
          · rw [h0]; intro h; exact e0 (hpe _ _ h)
          · exact h4 e' he'
      · refine .inr ⟨j + 1, e', p, ?_, by simpa using h2, by simpa using h3, h4, by simp [pGet, e0, h5], fun y => by simp [pSet, e0, h6 y]⟩
        simp [Instr.findAsking, h0, run_eq_pair hk, e0', h1, Nat.add_assoc, Nat.add_comm 1 j]
theorem find_pair (hk : PairT P k) (n : Int × Int) (es : List MapEntry) (kv : List ((Int × Int) × Int)) (hl : es.length = kv.length) (hkk : ∀ (j : Nat) (e : MapEntry) (p : (Int × Int) × Int), es[j]? = some e → kv[j]? = some p → e.key = pairV p.1) :
    ((Instr.findKey k (pairV n) es).run P w = .ok none w ∧ pGet kv n = none ∧ (∀ y, pSet kv n y = kv ++ [(n, y)]) ∧ ∀ e ∈ es, e.key ≠ pairV n) ∨
    ∃ (j : Nat) (e : MapEntry) (p : (Int × Int) × Int), (Instr.findKey k (pairV n) es).run P w = .ok (some (j, e.val)) w ∧ es[j]? = some e ∧ kv[j]? = some p ∧ p.1 = n ∧ pGet kv n = some p.2 ∧ ∀ y, pSet kv n y = kv.set j (n, y) := by
  obtain ⟨f0, f1, t, i, hu, _⟩ := hk.ex
  have hf : (Instr.findKey k (pairV n) es).run P w = (Instr.findAsking k (pairV n) es 0).run P w := by
    cases es with
    | nil => simp [Instr.findKey, run_under hu, Instr.findNow, Instr.findAsking]
    | cons e es => simp [Instr.findKey, run_under hu, Instr.findNow, Instr.sameNow]
  rw [hf]
  rcases find_pair0 (w := w) hk n es kv 0 hl hkk with h | ⟨j, e, p, h1, h2⟩
  · exact .inl h
  · exact .inr ⟨j, e, p, by rw [h1, Nat.zero_add], h2⟩
end
/-- An object that is a map by pairs. -/
def PmIs (kv : List ((Int × Int) × Int)) (w : World) (bv : Value) : Prop :=
  ∃ (r clock : Nat) (es : Array MapEntry), bv = .map (some r) ∧ w.heap[r]? = some (.map es clock) ∧ es.size = kv.length ∧ MapKept.Stamped es clock ∧
    ∀ (i : Nat) (e : MapEntry) (p : (Int × Int) × Int), es[i]? = some e → kv[i]? = some p → e.key = pairV p.1 ∧ e.val = .int .i64 p.2
def pmap (kv : List ((Int × Int) × Int)) : SemOb where
  os := []
  p := fun _ _ w bv => PmIs kv w bv
  lt := fun h b hb => by
    obtain ⟨r, clock, es, rfl, hh, _⟩ := h
    cases hb
    exact (Array.getElem?_eq_some_iff.1 hh).1
  mono := fun H h k => by
    obtain ⟨r, clock, es, rfl, hh, hr⟩ := h
    exact ⟨r, clock, es, rfl, (k r rfl).trans hh, hr⟩
  dep := fun _ h => h
section
variable {P : Program} {gl : Nat → Option (List D)} {σ : S} {K : S → Prop} {dst : Option Tmp} {ty : TypeId} {pos : String} {after : Array Edge} {g : Option (Nat × Bool)}
theorem sem_mkp {t : TypeId} {d : Tmp} (hk : K ((σ.newOb d (.sem (pmap []))).put (some d) (.omp d))) : SemOp P gl ⟨some d, .makeMap t none, ty, pos, after, g⟩ σ K := by
  intro c β a w hP hgl hs hd
  have hs2 := hs.new (o := d) (x := .sem (pmap [])) (bv := .map (some w.heap.size)) (w' := w.alloc (.map #[] 0)) (Keep.alloc _ _ _) (fun b hb => by cases hb; exact .inl (Nat.le_refl _))
    ⟨w.heap.size, 0, #[], rfl, heap_alloc_new w _, rfl, MapKept.stamped_empty 0, fun i e p he => by simp at he⟩
  refine Run.val (v := .map (some w.heap.size)) (w' := w.alloc (.map #[] 0)) (fun _ e => by cases e) ?_ ⟨_, upd β d (.map (some w.heap.size)), hk, hs2.put hd (.omp (by simp [upd]) rfl)⟩
  have hr : (Instr.makeMap t none).run c.P w = .ok (.map (some w.heap.size)) (w.alloc (.map #[] 0)) := rfl
  simp [execOp, hr]
theorem pair_eval {c : Cx} {β : Nat → Value} {a : Act} {w : World} (hs : Sim c σ β a w) {x : Operand} {p : Int × Int} (hx : σ.eval c.gl x = .a (.ag [dI p.1, dI p.2])) : a.eval x = pairV p := by
  have hv := hs.eval x
  rw [hx] at hv
  obtain ⟨cells, e, hf⟩ := hv.inv_a
  rw [e]
  obtain ⟨u0, s0, e0, h0, hf⟩ := hf.of_cons
  obtain ⟨u1, s1, e1, h1, hf⟩ := hf.of_cons
  obtain rfl := hf.of_nil
  subst e1
  subst e0
  cases h0; cases h1
  rfl
theorem sem_lookp {t kt e : TypeId} (ht : P.underlying t = some (.map kt e)) (hk : PairT P kt) (hz : ∀ w, (zeroValue e).run P w = .ok (.int .i64 0) w) {x i : Operand} {o : Nat} {kv : List ((Int × Int) × Int)} {p : Int × Int} (hx : σ.eval gl x = .omp o) (hm : σ.mem o = some (.sem (pmap kv)))
    (hi : σ.eval gl i = .a (.ag [dI p.1, dI p.2])) (h1 : ∀ v, pGet kv p = some v → K (σ.put dst (.tp [.a (I v), .a (B true)]))) (h2 : pGet kv p = none → K (σ.put dst (.tp [.a (I 0), .a (B false)]))) : SemOp P gl ⟨dst, .lookup t x i true, ty, pos, after, g⟩ σ K := by
  intro c β a w hP hgl hs hd
  subst hP; subst hgl
  have hkv := pair_eval hs hi
  have hmv := hs.eval x
  rw [hx] at hmv
  have hmb : a.eval x = β o := by
    generalize a.eval x = mv at hmv ⊢
    cases hmv with | omp e _ => exact e.symm
  obtain ⟨r, clock, es, hbr, hh, hl, hsm, hkk⟩ := hs.obj o _ hm
  have hzero := hz w
  have fin : ∀ (v : Int) (b : Bool), RelR β (stF c σ β w) w (.tuple #[.int .i64 v, .bool b]) (.tp [.a (I v), .a (B b)]) := fun v b => by
    refine .tp (by rfl) fun j v' r' hv' hr' => ?_
    match j with
    | 0 => simp at hv' hr'; subst hv'; subst hr'; exact .a (x := I v) (.v rfl)
    | 1 => simp at hv' hr'; subst hv'; subst hr'; exact .a (x := B b) (.v rfl)
    | j + 2 => simp at hv'
  rcases find_pair (w := w) hk p es.toList kv (by simpa using hl) (fun j e p h1 h2 => (hkk j e p (by simpa using h1) h2).1) with ⟨g1, g2, _, _⟩ | ⟨j, e', p', g1, g2, g3, g4, g5, _⟩
  · refine Run.val (v := .tuple #[.int .i64 0, .bool false]) (w' := w) (fun _ e => by cases e) ?_ ⟨_, β, h2 g2, hs.put hd (fin 0 false)⟩
    simp only [execOp, hkv, hmb, hbr, Sem.run_bind]
    simp only [Instr.lookup, Sem.run_bind, run_underlying ht, Result.andThen_ok, Sem.run_pure, MapKept.run_getObj_map hh, run_check_pair hk, g1, hzero, if_true]
  · refine Run.val (v := .tuple #[.int .i64 p'.2, .bool true]) (w' := w) (fun _ e => by cases e) ?_ ⟨_, β, h1 _ g5, hs.put hd (fin _ true)⟩
    have hval := (hkk j e' p' (by simpa using g2) g3).2
    simp only [execOp, hkv, hmb, hbr, Sem.run_bind]
    simp only [Instr.lookup, Sem.run_bind, run_underlying ht, Result.andThen_ok, Sem.run_pure, MapKept.run_getObj_map hh, run_check_pair hk, g1, hval, if_true]
theorem run_stays_pair {P : Program} {w : World} (p : Int × Int) : (Instr.keyThatStays (pairV p) (pairV p)).run P w = .ok (pairV p) w := by
  have h0 : ∀ n, Instr.sameBits (n + 1) (pairV p) (pairV p) = true := fun n => by
    simp [Instr.sameBits, pairV]
  unfold Instr.keyThatStays
  rw [if_pos (h0 9999)]
  rfl
theorem run_updp {P : Program} {w : World} {t kt e : TypeId} (ht : P.underlying t = some (.map kt e)) (hk : PairT P kt) {r clock : Nat} {es : Array MapEntry} {kv : List ((Int × Int) × Int)} (hb : w.heap[r]? = some (.map es clock)) (hl : es.size = kv.length) (hs : MapKept.Stamped es clock)
    (hkk : ∀ (i : Nat) (e : MapEntry) (p : (Int × Int) × Int), es[i]? = some e → kv[i]? = some p → e.key = pairV p.1 ∧ e.val = .int .i64 p.2) (n : Int × Int) (x : Int) :
    ∃ (es' : Array MapEntry) (clock' : Nat), (Instr.mapUpdate t (.map (some r)) (pairV n) (.int .i64 x)).run P w = .ok () { w with heap := w.heap.setIfInBounds r (.map es' clock') } ∧ es'.size = (pSet kv n x).length ∧ MapKept.Stamped es' clock' ∧
      ∀ (i : Nat) (e : MapEntry) (p : (Int × Int) × Int), es'[i]? = some e → (pSet kv n x)[i]? = some p → e.key = pairV p.1 ∧ e.val = .int .i64 p.2 := by
  rcases find_pair (w := w) hk n es.toList kv (by simpa using hl) (fun j e p h1 h2 => (hkk j e p (by simpa using h1) h2).1) with ⟨h1, h2, h3, h4⟩ | ⟨j, e', p, h1, h2, h3, h4, h5, h6⟩
  · refine ⟨es.push { key := pairV n, val := .int .i64 x, born := clock }, clock + 1, ?_, by simp [h3, hl], MapKept.stamped_push hs h4, fun i e p he hp => ?_⟩
    · simp only [Instr.mapUpdate, Sem.run_bind, run_underlying ht, MapKept.run_getObj_map hb, run_check_pair hk, h1, MapKept.run_setObj_map _ hb, Result.andThen_ok]
    · rw [h3] at hp
      rw [Array.getElem?_push] at he
      split at he
      · rename_i hi
        cases he
        rw [hi, hl, List.getElem?_append_right (Nat.le_refl _)] at hp
        simp at hp
        subst hp
        exact ⟨rfl, rfl⟩
      · rename_i hi
        have hlt := (Array.getElem?_eq_some_iff.1 he).1
        rw [List.getElem?_append_left (by omega)] at hp
        exact hkk i e p he hp
  · have hj : es[j]? = some e' := by simpa using h2
    have he'k := (hkk j e' p hj h3).1
    rw [h4] at he'k
    have hjl := (List.getElem?_eq_some_iff.1 h3).1
    refine ⟨es.modify j fun e => { e with key := pairV n, val := .int .i64 x }, clock, ?_, by simp [h6, hl], MapKept.stamped_modify hs _ _ (fun _ _ => rfl) (fun e'' _ he'' => ?_), fun i e p' he hp => ?_⟩
    · simp only [Instr.mapUpdate, Sem.run_bind, run_underlying ht, MapKept.run_getObj_map hb, run_check_pair hk, h1, Result.andThen_ok, hj, Option.map_some, Option.getD_some, he'k, run_stays_pair, MapKept.run_setObj_map _ hb]
    · rw [hj] at he''; cases he''; exact he'k.symm
    · rw [h6] at hp
      rw [Array.getElem?_modify] at he
      by_cases hi : j = i
      · subst hi
        rw [if_pos rfl, hj] at he
        simp at he; subst he
        rw [List.getElem?_set_self hjl] at hp
        cases hp
        exact ⟨rfl, rfl⟩
      · rw [if_neg hi] at he
        rw [List.getElem?_set_ne hi] at hp
        exact hkk i e p' he hp
theorem sem_updp {t kt e : TypeId} (ht : P.underlying t = some (.map kt e)) (hk : PairT P kt) {m k v : Operand} {o : Nat} {kv : List ((Int × Int) × Int)} {p : Int × Int} {x : Int} (hx : σ.eval gl m = .omp o) (hm : σ.mem o = some (.sem (pmap kv)))
    (hi : σ.eval gl k = .a (.ag [dI p.1, dI p.2])) (hv : σ.eval gl v = .a (I x)) (h1 : K ((σ.setOb o (.sem (pmap (pSet kv p x)))).put dst .any)) : SemOp P gl ⟨dst, .mapUpdate t m k v, ty, pos, after, g⟩ σ K := by
  intro c β a w hP hgl hs hd
  subst hP; subst hgl
  have hkv := pair_eval hs hi
  have hmv := hs.eval m
  rw [hx] at hmv
  have hmb : β o = a.eval m := by
    generalize a.eval m = mv at hmv ⊢
    cases hmv with | omp e _ => exact e
  have hvv := hs.eval v
  rw [hv] at hvv
  have hvv := hvv.inv_v
  obtain ⟨r, clock, es, hbr, hh, hl, hsm, hkk⟩ := hs.obj o _ hm
  obtain ⟨es', clock', hrun, hl', hs', hk'⟩ := run_updp ht hk hh hl hsm hkk p x
  have hset := MapKept.heap_set (o' := Obj.map es' clock') hh
  have keep : Keep (fun b => ownB (β o) = some b) w { w with heap := w.heap.setIfInBounds r (.map es' clock') } := ⟨rfl, rfl, rfl, by simp, fun b _ hb' => hset.2 b fun e => hb' (by rw [hbr, e]; rfl)⟩
  have hz := hs.setOb (x := .sem (pmap (pSet kv p x))) hm keep ⟨r, clock', es', hbr, hset.1, hl', hs', hk'⟩
  refine Run.skip (fun _ e => by cases e) ?_ ⟨_, β, h1, hz.put hd .any⟩
  simp only [execOp]
  rw [hkv, hvv, ← hmb, hbr]
  simp only [Sem.run_bind, hrun, Result.andThen_ok, Sem.run_pure]
end
end Go.VC
