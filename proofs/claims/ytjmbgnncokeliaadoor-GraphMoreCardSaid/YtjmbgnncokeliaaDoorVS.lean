/- How a state of the abstract machine stands to the machine's own: the relation, and what keeps it. -/
import Derived.Test.YtjmbgnncokeliaaDoorVB
set_option linter.unusedVariables false
set_option linter.unusedSimpArgs false
namespace Go.VC
open Go.RowKit

theorem Keep.refl (X : Nat → Prop) (w : World) : Keep X w w := ⟨rfl, rfl, rfl, Nat.le_refl _, fun _ _ _ => rfl⟩
theorem Keep.trans {X Y : Nat → Prop} {a b c : World} (h : Keep X a b) (k : Keep Y b c) (H : ∀ j, Y j → j < a.heap.size → X j) : Keep X a c :=
  ⟨k.os.trans h.os, k.tape.trans h.tape, k.output.trans h.output, Nat.le_trans h.size k.size,
    fun j hj hx => (k.block j (Nat.lt_of_lt_of_le hj h.size) fun hy => hx (H j hy hj)).trans (h.block j hj hx)⟩
theorem Keep.mono {X Y : Nat → Prop} {a b : World} (h : Keep X a b) (H : ∀ j, X j → Y j) : Keep Y a b :=
  ⟨h.os, h.tape, h.output, h.size, fun j hj hy => h.block j hj fun hx => hy (H j hx)⟩
theorem Keep.below {w w' : World} (h : Keep (fun _ => False) w w') : Below w.heap.size w w' := ⟨h.os, h.tape, h.output, h.size, fun k hk => h.block k hk id⟩
theorem Keep.of_below {X : Nat → Prop} {w w' : World} (h : Below w.heap.size w w') : Keep X w w' := ⟨h.os, h.tape, h.output, h.size, fun k hk _ => h.block k hk⟩
theorem Keep.alloc (X : Nat → Prop) (w : World) (o : Obj) : Keep X w (w.alloc o) := ⟨rfl, rfl, rfl, by simp, fun k hk _ => heap_alloc_old w o k hk⟩
theorem Keep.grown {X : Nat → Prop} {w w' : World} {row : Option Nat} (h : w.grownBy w' row) (H : ∀ k, row = some k → X k) : Keep X w w' :=
  ⟨h.os, h.tape, h.output, h.size, fun k hk hx => h.block k hk fun e => hx (H k e.symm)⟩

theorem nd_cells {w : World} {b : Nat} {arr : Array Value} {e : TypeId} {fr : Nat × Nat} (h : w.heap[b]? = some (.cells arr e fr)) : NotDef w b := fun x hx => by rw [h] at hx; cases hx
theorem nd_map {w : World} {b clock : Nat} {es : Array MapEntry} (h : w.heap[b]? = some (.map es clock)) : NotDef w b := fun x hx => by rw [h] at hx; cases hx
theorem NotDef.same {w w' : World} {b : Nat} (h : NotDef w b) (e : w'.heap[b]? = w.heap[b]?) : NotDef w' b := fun x hx => h x (by rw [← e]; exact hx)
theorem Rd.here {st : Nat → Prop} {w : World} {v : Value} {d : D} (h : Rd st w v d) : Rd (fun b => st b ∧ b < w.heap.size ∧ NotDef w b) w v d := by
  induction h with
  | v h => exact .v h
  | nil => exact .nil
  | sl hst hb hn hcap hm hlen hc _ ih => exact .sl ⟨hst, (Array.getElem?_eq_some_iff.1 hb).1, nd_cells hb⟩ hb hn hcap hm hlen hc ih
  | pt hst hb hc _ ih => exact .pt ⟨hst, (Array.getElem?_eq_some_iff.1 hb).1, nd_cells hb⟩ hb hc ih
  | fn hl _ ih => exact .fn hl ih
  | mpn => exact .mpn
  | mp hst hb hl hs hk _ ih => exact .mp ⟨hst, (Array.getElem?_eq_some_iff.1 hb).1, nd_map hb⟩ hb hl hs hk ih
theorem RelA.here {st : Nat → Prop} {w : World} {v : Value} {x : A} (h : RelA st w v x) : RelA (fun b => st b ∧ b < w.heap.size ∧ NotDef w b) w v x := by
  cases x with
  | d x => exact Rd.here h
  | ag xs => obtain ⟨cs, e, k⟩ := h; exact ⟨cs, e, k.mono fun _ _ => Rd.here⟩
theorem EnvOk.here {gl : Nat → Option (List D)} {st : Nat → Prop} {w : World} (h : EnvOk gl st w) : EnvOk gl (fun b => st b ∧ b < w.heap.size ∧ NotDef w b) w := fun g cs hg => (h g cs hg).here
theorem EnvOk.mono {gl : Nat → Option (List D)} {st st' : Nat → Prop} {w w' : World} (H : ∀ b, st b → st' b ∧ w'.heap[b]? = w.heap[b]?) (h : EnvOk gl st w) : EnvOk gl st' w' := fun g cs hg => (h g cs hg).mono H

theorem RowIs.lt {w : World} {e : TypeId} {sz n : Nat} {v : Value} {cells : List Value} (h : RowIs w e sz v n cells) {b : Nat} (hb : ownB v = some b) : b < w.heap.size := by
  rcases h with h | ⟨_, _, p, rfl⟩
  · rcases h.2 with ⟨rfl, _⟩ | ⟨g, cap, cur, rfl, _, hg, _⟩
    · cases hb
    · cases cap with
      | zero => cases hb
      | succ k => cases hb; exact (Array.getElem?_eq_some_iff.1 hg).1
  · cases p <;> cases hb
theorem RowIs.nd {w : World} {e : TypeId} {sz n : Nat} {v : Value} {cells : List Value} (h : RowIs w e sz v n cells) {b : Nat} (hb : ownB v = some b) : NotDef w b := by
  rcases h with h | ⟨_, _, p, rfl⟩
  · rcases h.2 with ⟨rfl, _⟩ | ⟨g, cap, cur, rfl, _, hg, _⟩
    · cases hb
    · cases cap with
      | zero => cases hb
      | succ k => cases hb; exact nd_cells hg
  · cases p <;> cases hb
theorem ObRel.lt {β : Nat → Value} {st : Nat → Prop} {w : World} {bv : Value} {x : Ob} (h : ObRel β st w bv x) {b : Nat} (hb : ownB bv = some b) : b < w.heap.size := by
  cases x with
  | box cs => obtain ⟨b', arr, e, rfl, hh, _⟩ := h; cases hb; exact (Array.getElem?_eq_some_iff.1 hh).1
  | log e sz xs => obtain ⟨cells, hr, _⟩ := h; exact hr.lt hb
  | mpo kv => obtain ⟨r, clock, es, vs, rfl, hh, _⟩ := h; cases hb; exact (Array.getElem?_eq_some_iff.1 hh).1
  | iter kv seen =>
    obtain ⟨b', rfl, h | ⟨m, clock, es, vs, arr, hm, hh, _⟩⟩ := h
    · cases hb; exact (Array.getElem?_eq_some_iff.1 h.2.2).1
    · cases hb; exact (Array.getElem?_eq_some_iff.1 hh).1
  | frame vs rs => rw [h.1] at hb; cases hb
  | sem x => exact x.lt h b hb
  | lost => exact h b hb

section
variable {c : Cx} {σ : S} {β : Nat → Value} {a : Act} {w : World}

theorem lt_of_some {w : World} {b : Nat} {x : Obj} (h : w.heap[b]? = some x) : b < w.heap.size := (Array.getElem?_eq_some_iff.1 h).1
/-- Marks abide what turns other blocks. -/
theorem MarksOk.keep {w' : World} {σ' : S} {β' : Nat → Value} {Ds : List Nat} (h : MarksOk c σ β w Ds) (H : ∀ D, D < w.heap.size → (∀ o x, σ.mem o = some x → ownB (β o) ≠ some D) → w'.heap[D]? = w.heap[D]?)
    (K : ∀ o x, σ'.mem o = some x → (∃ o' x', σ.mem o' = some x' ∧ β' o = β o') ∨ ∀ b, ownB (β' o) = some b → w.heap.size ≤ b ∨ ∃ o' x', σ.mem o' = some x' ∧ ownB (β o') = some b) : MarksOk c σ' β' w' Ds :=
  ⟨h.nd, fun D hD => by
    obtain ⟨h1, h2, h3⟩ := h.ok D hD
    refine ⟨h1, (H D (lt_of_some h2) h3).trans h2, fun o x hx e => ?_⟩
    rcases K o x hx with ⟨o', x', hx', e'⟩ | k
    · exact h3 o' x' hx' (e' ▸ e)
    · rcases k D e with k | ⟨o', x', hx', e'⟩
      · have := lt_of_some h2; omega
      · exact h3 o' x' hx' e'⟩
theorem Sim.dfs (h : Sim c σ β a w) {w' : World} {σ' : S} {β' : Nat → Value} (H : ∀ D, D < w.heap.size → w'.heap[D]? = w.heap[D]?)
    (K : ∀ o x, σ'.mem o = some x → (∃ o' x', σ.mem o' = some x' ∧ β' o = β o') ∨ ∀ b, ownB (β' o) = some b → w.heap.size ≤ b ∨ ∃ o' x', σ.mem o' = some x' ∧ ownB (β o') = some b) :
    ∃ Ds : List Nat, a.defers = Ds.map markD ++ c.df ∧ MarksOk c σ' β' w' (Ds ++ c.M) :=
  let ⟨Ds, e, m⟩ := h.df; ⟨Ds, e, m.keep (fun D hD _ => H D hD) K⟩
theorem Sim.grow (h : Sim c σ β a w) {w' : World} (k : Keep (fun _ => False) w w') : Sim c σ β a w' ∧ ∀ b, stF c σ β w b → stF c σ β w' b ∧ w'.heap[b]? = w.heap[b]? := by
  have H : ∀ b, stF c σ β w b → stF c σ β w' b ∧ w'.heap[b]? = w.heap[b]? := fun b hb => ⟨⟨Nat.lt_of_lt_of_le hb.1 k.size, hb.2.1, hb.2.2.1, hb.2.2.2.same (k.block b hb.1 id)⟩, k.block b hb.1 id⟩
  exact ⟨⟨h.keep.trans k (fun _ hf => hf.elim), h.size, h.dfs (fun D hD => k.block D hD id) (fun o' x' hx' => .inl ⟨o', x', hx', rfl⟩), c.hE H h.ext, fun o x ho => (h.obj o x ho).mono H fun b hb => k.block b ((h.obj o x ho).lt hb) id, h.blk, h.dis, fun t => (h.reg t).mono H, h.env.mono H⟩, H⟩
theorem Sim.drawn (h : Sim c σ β a w) (n : Nat) : Sim c σ β a { w with drawn := n } :=
  (h.grow (w' := { w with drawn := n }) ⟨rfl, rfl, rfl, Nat.le_refl _, fun _ _ _ => rfl⟩).1

theorem Sim.eval (h : Sim c σ β a w) (x : Operand) : RelR β (stF c σ β w) w (a.eval x) (σ.eval c.gl x) := by
  cases x with
  | tmp t => exact h.reg t
  | const v =>
    have cd : ∀ v : Value, v.oneCell' = true → Rd (stF c σ β w) w v (cellD v) := by
      intro v hv
      unfold cellD
      split
      · exact .nil
      · exact .mpn
      · exact .v hv
    show RelR β _ w v (constR v)
    unfold constR
    split
    · rename_i cs
      split
      · rename_i hcs
        refine .a ⟨cs.toList, rfl, by simp, fun i u d hu hd => ?_⟩
        simp only [List.getElem?_map, hu, Option.map_some, Option.some.injEq] at hd
        subst hd
        exact cd u (List.all_eq_true.1 hcs u (List.mem_of_getElem? hu))
      · exact .any
    · exact .any
    · exact .cs .nil
    · rename_i h1 h2 h3
      refine .a (cd v ?_)
      cases v <;> first | rfl | (rename_i cs; first | exact absurd rfl (h1 cs) | exact absurd rfl (h2 cs))
  | global g =>
    show RelR β _ w _ (match c.gl g with | some cs => R.a (.d (.pt cs)) | none => .any)
    cases hg : c.gl g with
    | none => exact .any
    | some cs => exact .a (h.env g cs hg)
  | func f => exact .a (Rd.fn (vs := []) rfl fun j d v hd => by simp at hd)

theorem act_put_get (a : Act) (d t : Nat) (v : Value) (hd : d < a.tmps.size) : (a.put (some d) v).tmps.getD t undef = if t = d then v else a.tmps.getD t undef := by
  simp only [Act.put, Array.getD_eq_getD_getElem?, Array.getElem?_setIfInBounds]
  by_cases e : d = t
  · subst e; simp [hd]
  · rw [if_neg e, if_neg (fun e' => e e'.symm)]
theorem Sim.put (h : Sim c σ β a w) {dst : Option Tmp} (hd : ∀ d, dst = some d → d < c.N) {v : Value} {r : R} (hr : RelR β (stF c σ β w) w v r) : Sim c (σ.put dst r) β (a.put dst v) w := by
  cases dst with
  | none => exact h
  | some d =>
    refine ⟨h.keep, by simpa [Act.put] using h.size, h.dfs (fun _ _ => rfl) (fun o x hx => .inl ⟨o, x, hx, rfl⟩), h.ext, h.obj, h.blk, h.dis, fun t => ?_, h.env⟩
    rw [act_put_get a d t v (by rw [h.size]; exact hd d rfl)]
    show RelR β _ w _ (upd σ.regs d r t)
    unfold upd
    by_cases e : t = d
    · rw [if_pos e, if_pos e]; exact hr
    · rw [if_neg e, if_neg e]; exact h.reg t

theorem st_new {o : Nat} {x : Ob} {bv : Value} {w' : World} (k : w.heap.size ≤ w'.heap.size) (ks : ∀ b, stF c σ β w b → w'.heap[b]? = w.heap[b]?)
    (hn : ∀ b, ownB bv = some b → w.heap.size ≤ b ∨ ∃ y, σ.mem o = some y ∧ ownB (β o) = some b) {b : Nat} (hb : stF c σ β w b) :
    stF c (σ.newOb o x) (upd β o bv) w' b := by
  refine ⟨Nat.lt_of_lt_of_le hb.1 k, hb.2.1, fun o' y hy => ?_, hb.2.2.2.same (ks b hb)⟩
  by_cases e : o' = o
  · subst e
    simp only [upd, if_pos rfl]
    intro hbv
    rcases hn b hbv with h1 | ⟨y', h1, h2⟩
    · exact Nat.lt_irrefl _ (Nat.lt_of_lt_of_le hb.1 h1)
    · exact hb.2.2.1 o' y' h1 h2
  · simp only [S.newOb, upd, if_neg e] at hy ⊢
    cases hm : σ.mem o' with
    | none => rw [hm] at hy; cases hy
    | some z => exact hb.2.2.1 o' z hm

/-- A new object, or an old one that has moved. -/
theorem Sim.new (h : Sim c σ β a w) {o : Nat} {x : Ob} {bv : Value} {w' : World} (k : Keep (fun b => ∃ y, σ.mem o = some y ∧ ownB (β o) = some b) w w')
    (hn : ∀ b, ownB bv = some b → w.heap.size ≤ b ∨ ∃ y, σ.mem o = some y ∧ ownB (β o) = some b)
    (hx : ObRel (upd β o bv) (stF c (σ.newOb o x) (upd β o bv) w') w' bv x) : Sim c (σ.newOb o x) (upd β o bv) a w' := by
  have H : ∀ b, stF c σ β w b → stF c (σ.newOb o x) (upd β o bv) w' b ∧ w'.heap[b]? = w.heap[b]? :=
    fun b hb => ⟨st_new k.size (fun b hb => k.block b hb.1 fun ⟨y, h1, h2⟩ => hb.2.2.1 o y h1 h2) hn hb, k.block b hb.1 fun ⟨y, h1, h2⟩ => hb.2.2.1 o y h1 h2⟩
  have T : ∀ o', o' ≠ o → upd β o bv o' = β o' := fun o' e => by simp [upd, e]
  have M : ∀ o' y, o' ≠ o → (σ.newOb o x).mem o' = some y → ∃ z, σ.mem o' = some z ∧ y = z.kill o := fun o' y e hy => by
    simp only [S.newOb, upd, if_neg e, Option.map_eq_some_iff] at hy
    obtain ⟨z, h1, h2⟩ := hy
    exact ⟨z, h1, h2.symm⟩
  have B : ∀ o' z b, o' ≠ o → σ.mem o' = some z → ownB (β o') = some b → ownB bv = some b → False := fun o' z b e hz h1 h2 => by
    rcases hn b h2 with h3 | ⟨y, h3, h4⟩
    · exact Nat.lt_irrefl _ (Nat.lt_of_lt_of_le ((h.obj o' z hz).lt h1) h3)
    · exact e (h.dis o' o z y b hz h3 h1 h4)
  have dfn : ∃ Ds : List Nat, a.defers = Ds.map markD ++ c.df ∧ MarksOk c (σ.newOb o x) (upd β o bv) w' (Ds ++ c.M) := by
    obtain ⟨Ds, e, m⟩ := h.df
    refine ⟨Ds, e, m.keep (fun D hD hno => k.block D hD fun ⟨y, h1, h2⟩ => hno o y h1 h2) fun o' y hy => ?_⟩
    by_cases e : o' = o
    · subst e
      refine .inr fun b hb => ?_
      simp only [upd, if_pos rfl] at hb
      exact (hn b hb).imp id fun ⟨y', h1, h2⟩ => ⟨o', y', h1, h2⟩
    · obtain ⟨z, hz, _⟩ := M o' y e hy
      exact .inl ⟨o', z, hz, T o' e⟩
  refine ⟨h.keep.trans k (fun j ⟨y, h1, h2⟩ hj => ((h.blk o y j h1 h2).resolve_left (Nat.not_le.2 hj)).1), h.size, dfn, c.hE H h.ext, fun o' y hy => ?_, fun o' y b hy hb => ?_, fun o1 o2 y1 y2 b h1 h2 h3 h4 => ?_, fun t => ?_, h.env.mono H⟩
  · by_cases e : o' = o
    · subst e
      obtain rfl : x = y := by simpa [S.newOb, upd] using hy
      simpa [upd] using hx
    · obtain ⟨z, hz, rfl⟩ := M o' y e hy
      rw [T o' e]
      refine ((h.obj o' z hz).mono H fun b hb => k.block b ((h.obj o' z hz).lt hb) fun ⟨y, h1, h2⟩ => e (h.dis o' o z y b hz h1 hb h2)).turn T
  · by_cases e : o' = o
    · subst e
      simp only [upd, if_pos rfl] at hb
      rcases hn b hb with h1 | ⟨y', h1, h2⟩
      · exact .inl (Nat.le_trans h.keep.size h1)
      · exact h.blk o' y' b h1 h2
    · obtain ⟨z, hz, rfl⟩ := M o' y e hy
      rw [T o' e] at hb
      exact h.blk o' z b hz hb
  · by_cases e1 : o1 = o
    · by_cases e2 : o2 = o
      · rw [e1, e2]
      · obtain ⟨z, hz, rfl⟩ := M o2 y2 e2 h2
        rw [T o2 e2] at h4
        subst e1
        simp only [upd, if_pos rfl] at h3
        exact (B o2 z b e2 hz h4 h3).elim
    · obtain ⟨z, hz, rfl⟩ := M o1 y1 e1 h1
      rw [T o1 e1] at h3
      by_cases e2 : o2 = o
      · subst e2
        simp only [upd, if_pos rfl] at h4
        exact (B o1 z b e1 hz h3 h4).elim
      · obtain ⟨z2, hz2, rfl⟩ := M o2 y2 e2 h2
        rw [T o2 e2] at h4
        exact h.dis o1 o2 z z2 b hz hz2 h3 h4
  · exact ((h.reg t).mono H).turn T

/-- An object is written in its place. -/
theorem Sim.setOb (h : Sim c σ β a w) {o : Nat} {x y : Ob} {w' : World} (ho : σ.mem o = some y) (k : Keep (fun b => ownB (β o) = some b) w w')
    (hx : ObRel β (stF c (σ.setOb o x) β w') w' (β o) x) : Sim c (σ.setOb o x) β a w' := by
  have M : ∀ o' z, (σ.setOb o x).mem o' = some z → ∃ z', σ.mem o' = some z' := fun o' z hz => by
    by_cases e : o' = o
    · exact ⟨y, e ▸ ho⟩
    · simp only [S.setOb, upd, if_neg e] at hz; exact ⟨z, hz⟩
  have st : ∀ b, stF c σ β w b → stF c (σ.setOb o x) β w' b := fun b hb => ⟨Nat.lt_of_lt_of_le hb.1 k.size, hb.2.1, fun o' z hz => by
    obtain ⟨z', hz'⟩ := M o' z hz
    exact hb.2.2.1 o' z' hz', hb.2.2.2.same (k.block b hb.1 fun h1 => hb.2.2.1 o y ho h1)⟩
  have H : ∀ b, stF c σ β w b → stF c (σ.setOb o x) β w' b ∧ w'.heap[b]? = w.heap[b]? := fun b hb => ⟨st b hb, k.block b hb.1 fun h1 => hb.2.2.1 o y ho h1⟩
  refine ⟨h.keep.trans k (fun j h2 hj => ((h.blk o y j ho h2).resolve_left (Nat.not_le.2 hj)).1), h.size, (let ⟨Ds, e, m⟩ := h.df; ⟨Ds, e, m.keep (fun D hD hno => k.block D hD fun h1 => hno o y ho h1) fun o' z hz => let ⟨z', hz'⟩ := M o' z hz; .inl ⟨o', z', hz', rfl⟩⟩), c.hE H h.ext, fun o' z hz => ?_, fun o' z b hz hb => ?_, fun o1 o2 z1 z2 b h1 h2 h3 h4 => ?_, fun t => (h.reg t).mono H, h.env.mono H⟩
  · by_cases e : o' = o
    · subst e
      obtain rfl : x = z := by simpa [S.setOb, upd] using hz
      exact hx
    · simp only [S.setOb, upd, if_neg e] at hz
      exact (h.obj o' z hz).mono H fun b hb => k.block b ((h.obj o' z hz).lt hb) fun h2 => e (h.dis o' o z y b hz ho hb h2)
  · obtain ⟨z', hz'⟩ := M o' z hz
    exact h.blk o' z' b hz' hb
  · obtain ⟨z1', hz1⟩ := M o1 z1 h1
    obtain ⟨z2', hz2⟩ := M o2 z2 h2
    exact h.dis o1 o2 _ _ b hz1 hz2 h3 h4

theorem RelR.frz {st : Nat → Prop} {o : Nat} {f : Nat → D} (h0 : Rd st w (β o) (f 0) ∨ ∃ b, β o = .pointer (some ⟨b, 0, none⟩)) (hp : ∀ off b, β o = .pointer (some ⟨b, 0, none⟩) → Rd st w (.pointer (some ⟨b, off, none⟩)) (f off)) {v : Value} {r : R} (h : RelR β st w v r) :
    RelR β st w v (r.frz o f) := by
  cases h with
  | any => exact .any
  | a h => exact .a h
  | cs h => exact .cs h
  | ref h =>
    simp only [R.frz]
    split
    · rename_i e; subst e; exact .a (hp _ _ h)
    · exact .ref h
  | eref h => simp only [R.frz]; split <;> first | exact .any | exact .eref h
  | own h h1 =>
    simp only [R.frz]
    split
    · rename_i e; subst e; subst h
      rcases h0 with h0 | ⟨b, hb⟩
      · exact .a h0
      · rw [hb]; exact .a (hp 0 b hb)
    · exact .own h h1
  | omp h h1 =>
    simp only [R.frz]
    split
    · rename_i e; subst e; subst h
      rcases h0 with h0 | ⟨b, hb⟩
      · exact .a h0
      · rw [hb]; exact .a (hp 0 b hb)
    · exact .omp h h1
  | clo h => simp only [R.frz]; split <;> first | exact .any | exact .clo h
  | tp hl hd => simp only [R.frz]; split <;> first | exact .any | exact .tp hl hd
  | sem h hp => simp only [R.frz]; split <;> first | exact .any | exact .sem h hp
  | agr hl h1 hd => simp only [R.frz]; split <;> first | exact .any | exact .agr hl h1 hd

/-- An object is laid to rest: nobody writes it any more. -/
theorem Sim.frz (h : Sim c σ β a w) {o : Nat} {y : Ob} {f : Nat → D} (ho : σ.mem o = some y)
    (h0 : ∀ st, (∀ b, stF c σ β w b → st b) → (∀ b, ownB (β o) = some b → st b) → Rd st w (β o) (f 0) ∨ ∃ b, β o = .pointer (some ⟨b, 0, none⟩))
    (h1 : ∀ st, (∀ b, stF c σ β w b → st b) → (∀ b, ownB (β o) = some b → st b) → ∀ off b, β o = .pointer (some ⟨b, 0, none⟩) → Rd st w (.pointer (some ⟨b, off, none⟩)) (f off))
    (hlow : o < 1000000000) (hnd : ∀ b, ownB (β o) = some b → NotDef w b) : Sim c (σ.frz o f) β a w ∧ (∀ b, stF c σ β w b → stF c (σ.frz o f) β w b) ∧ ∀ b, ownB (β o) = some b → stF c (σ.frz o f) β w b := by
  have hX : ∀ b, ownB (β o) = some b → c.w0.heap.size ≤ b := fun b hb => (h.blk o y b ho hb).resolve_right fun hx => absurd hx.2 (Nat.not_le.2 hlow)
  have M : ∀ o' z, (σ.frz o f).mem o' = some z → ∃ z', o' ≠ o ∧ σ.mem o' = some z' ∧ z = z'.frz o f := fun o' z hz => by
    simp only [S.frz] at hz
    split at hz
    · cases hz
    · rename_i e
      obtain ⟨z', h1, h2⟩ := Option.map_eq_some_iff.1 hz
      exact ⟨z', e, h1, h2.symm⟩
  have st : ∀ b, stF c σ β w b → stF c (σ.frz o f) β w b := fun b hb => ⟨hb.1, hb.2.1, fun o' z hz => by
    obtain ⟨z', _, hz', _⟩ := M o' z hz
    exact hb.2.2.1 o' z' hz', hb.2.2.2⟩
  have sto : ∀ b, ownB (β o) = some b → stF c (σ.frz o f) β w b := fun b hb => ⟨(h.obj o y ho).lt hb, fun hlt => absurd (hX b hb) (Nat.not_le.2 hlt), fun o' z hz hb' => by
    obtain ⟨z', e, hz', _⟩ := M o' z hz
    exact e (h.dis o' o z' y b hz' ho hb' hb), hnd b hb⟩
  have H : ∀ b, stF c σ β w b → stF c (σ.frz o f) β w b ∧ w.heap[b]? = w.heap[b]? := fun b hb => ⟨st b hb, rfl⟩
  refine ⟨⟨h.keep, h.size, h.dfs (fun _ _ => rfl) (fun o' z hz => let ⟨z', _, hz', _⟩ := M o' z hz; .inl ⟨o', z', hz', rfl⟩), c.hE H h.ext, fun o' z hz => ?_, fun o' z b hz hb => ?_, fun o1 o2 z1 z2 b h1 h2 h3 h4 => ?_, fun t => ((h.reg t).mono H).frz (h0 _ st sto) (h1 _ st sto), h.env.mono H⟩, st, sto⟩
  · obtain ⟨z', e, hz', rfl⟩ := M o' z hz
    have hr := (h.obj o' z' hz').mono H fun b _ => rfl
    cases z' with
    | box cs =>
      obtain ⟨b, arr, e', hb, hh, hf⟩ := hr
      refine ⟨b, arr, e', hb, hh, by simp [hf.1], fun i v r hv hr' => ?_⟩
      simp only [List.getElem?_map, Option.map_eq_some_iff] at hr'
      obtain ⟨r0, hr0, rfl⟩ := hr'
      exact ⟨(hf.2 i v r0 hv hr0).1, (hf.2 i v r0 hv hr0).2.frz (h0 _ st sto) (h1 _ st sto)⟩
    | log e sz xs => exact hr
    | mpo kv => exact hr
    | iter kv seen => exact hr
    | frame vs rs => exact ⟨hr.1, fun t => (hr.2 t).frz (h0 _ st sto) (h1 _ st sto)⟩
    | sem x =>
      simp only [Ob.frz]
      split
      · exact fun b hb => x.lt hr b hb
      · exact hr
    | lost => exact hr
  · obtain ⟨z', e, hz', _⟩ := M o' z hz
    exact h.blk o' z' b hz' hb
  · obtain ⟨z1', _, hz1, _⟩ := M o1 z1 h1
    obtain ⟨z2', _, hz2, _⟩ := M o2 z2 h2
    exact h.dis o1 o2 _ _ b hz1 hz2 h3 h4
end
end Go.VC
