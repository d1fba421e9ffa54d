/- From what a row reads to what the contracts take. -/
import Derived.Test.YtjmbgnncokeliaaDoorVG
import Derived.Deep.Slices
set_option maxRecDepth 100000
set_option linter.unusedSimpArgs false
set_option linter.unusedVariables false
namespace Go.VC
open Go.RowKit Go.Proofs Go.IntWalk
section
variable {H : Type} {enc : TypeId × Value → H} {w : World} {base : Nat} {sp : Nat → Bool} {held : Bool}
theorem int_cell {P : Program} {t : TypeId} {k : IntKind} (ht : P.underlying t = some (.int k)) {fuel : Nat} {a : Value} {y : DataW H × List MemPlace} (h : DataW.trod enc P w base sp held fuel t [a] = some y) : ∃ n, a = .int k n := by
  cases fuel with
  | zero => simp [DataW.trod] at h
  | succ fuel =>
    unfold DataW.trod at h
    rw [ht] at h
    cases a <;> simp at h
    rename_i k' n
    exact ⟨n, by rw [h.1.1]⟩
theorem ev_cells {fuel : Nat} {cs : List Value} {y : DataW H × List MemPlace} (h : DataW.trod enc Tryd.prog w base sp held fuel 69 cs = some y) : ∃ e : Ev, cs = [.int .i64 e.kind, .int .i64 e.tx, .int .i64 e.var, .int .i64 e.val] := by
  obtain ⟨xs, n, _, rfl, hl, hlen, hf⟩ := DataW.trod_struct Tryd.underlying69 h
  have h4 : cs.length = 4 := by rw [hl]; kernel_rfl
  have c3 : Tryd.prog.cellsOf 3 = 1 := by kernel_rfl
  match cs, h4, xs, hlen with
  | [a, b, c, d], _, [x0, x1, x2, x3], _ =>
    have g := fun i f hi => hf i f hi
    obtain ⟨n0, e0⟩ := int_cell Tryd.underlying3 (by simpa [c3] using g 0 _ rfl)
    obtain ⟨n1, e1⟩ := int_cell Tryd.underlying3 (by simpa [c3] using g 1 _ rfl)
    obtain ⟨n2, e2⟩ := int_cell Tryd.underlying3 (by simpa [c3] using g 2 _ rfl)
    obtain ⟨n3, e3⟩ := int_cell Tryd.underlying3 (by simpa [c3] using g 3 _ rfl)
    exact ⟨⟨n0, n1, n2, n3⟩, by rw [e0, e1, e2, e3]⟩
/-- Events, as a row reads them, are data. -/
theorem rd_events {fuel : Nat} {v : Value} {y : DataW H × List MemPlace} (h : DataW.trod enc Tryd.prog w base (fun _ => true) held fuel 22 [v] = some y) : ∃ l : List Ev, Rd (fun _ => True) w v (.sl (l.map Ev.enc)) := by
  rcases Go.Deep.open_slice Tryd.underlying22 h with ⟨hcs, _⟩ | ⟨a, len, cap, m, n, D0, Pl, hcs, hb, hlc, hcm, hm, _, hel⟩
  · cases hcs; exact ⟨[], .nil⟩
  · cases hcs
    simp only [if_true] at hm
    subst hm
    have c69 : Tryd.prog.cellsOf 69 = 4 := by kernel_rfl
    rw [c69] at hel
    have hev : ∀ i, i < m → ∃ e : Ev, w.cells? base (a.add (i * 4)) 4 = some [.int .i64 e.kind, .int .i64 e.tx, .int .i64 e.var, .int .i64 e.val] := fun i hi => by
      obtain ⟨cs', h1, h2⟩ := hel i hi
      obtain ⟨e, rfl⟩ := ev_cells h2
      exact ⟨e, h1⟩
    have hevs : ∃ f : Nat → Ev, ∀ i, i < m → w.cells? base (a.add (i * 4)) 4 = some [.int .i64 (f i).kind, .int .i64 (f i).tx, .int .i64 (f i).var, .int .i64 (f i).val] :=
      ⟨fun i => if hi : i < m then (hev i hi).choose else ⟨0, 0, 0, 0⟩, fun i hi => by simp only [hi, dite_true]; exact (hev i hi).choose_spec⟩
    obtain ⟨f, hf⟩ := hevs
    have hcell : ∀ i, i < m → ∀ j, j < 4 → w.cell? ((a.add (i * 4)).add j) = [Value.int .i64 (f i).kind, .int .i64 (f i).tx, .int .i64 (f i).var, .int .i64 (f i).val][j]? := fun i hi j hj => by
      obtain ⟨_, _, h3⟩ := World.cells?_some (hf i hi)
      exact h3 j hj
    by_cases hm0 : m = 0
    · subst hm0
      obtain rfl : len = 0 := by omega
      exact ⟨[], .nil⟩
    · have h00 := hcell 0 (by omega) 0 (by omega)
      obtain ⟨b, off, spot⟩ := a
      simp only [Nat.zero_mul, Addr.add, if_true, World.cell?] at h00
      split at h00
      · rename_i arr e fr hblk
        cases spot with
        | some s => simp at h00
        | none =>
          have harr : ∀ i, i < m → ∀ j, j < 4 → arr[off + i * 4 + j]? = [Value.int .i64 (f i).kind, .int .i64 (f i).tx, .int .i64 (f i).var, .int .i64 (f i).val][j]? := fun i hi j hj => by
            have := hcell i hi j hj
            rw [add_at, add_at] at this
            simpa [World.cell?, hblk] using this
          refine ⟨(List.range len).map f, .sl (b := b) (off := off) (arr := arr) (e := e) (fr := fr) (sz := 4) (vs := fun i j => [Value.int .i64 (f i).kind, .int .i64 (f i).tx, .int .i64 (f i).var, .int .i64 (f i).val].getD j undef) trivial hblk (by simp) hlc hcm evs_len (fun i hi j hj => ?_) (fun i x j d hx hd => ?_)⟩
          · simp only [List.length_map, List.length_range] at hi
            rw [harr i (by omega) j hj]
            match j, hj with
            | 0, _ => rfl
            | 1, _ => rfl
            | 2, _ => rfl
            | 3, _ => rfl
          · simp only [List.getElem?_map, Option.map_eq_some_iff] at hx
            obtain ⟨e', ⟨i', hi', rfl⟩, rfl⟩ := hx
            have : i' = i := by
              obtain ⟨h1, h2⟩ := List.getElem?_eq_some_iff.1 hi'
              simpa using h2.symm
            subst this
            match j with
            | 0 => cases hd; exact .v rfl
            | 1 => cases hd; exact .v rfl
            | 2 => cases hd; exact .v rfl
            | 3 => cases hd; exact .v rfl
            | j + 4 => simp [Ev.enc] at hd
      · cases h00
/-- Whole numbers, as a row reads them, are data. -/
theorem rd_ints30 {fuel : Nat} {v : Value} {y : DataW H × List MemPlace} (h : DataW.trod enc Tryd.prog w base (fun _ => true) held fuel 30 [v] = some y) : ∃ l : List Int, Rd (fun _ => True) w v (.sl (l.map ienc)) := by
  rcases Go.Deep.open_slice Tryd.underlying30 h with ⟨hcs, _⟩ | ⟨a, len, cap, m, n, D0, Pl, hcs, hb, hlc, hcm, hm, _, hel⟩
  · cases hcs; exact ⟨[], .nil⟩
  · cases hcs
    simp only [if_true] at hm
    subst hm
    have c3 : Tryd.prog.cellsOf 3 = 1 := by kernel_rfl
    rw [c3] at hel
    have hev : ∀ i, i < m → ∃ e : Int, w.cells? base (a.add (i * 1)) 1 = some [.int .i64 e] := fun i hi => by
      obtain ⟨cs', h1, h2⟩ := hel i hi
      obtain ⟨hl, _⟩ := World.cells?_some h1
      match cs', hl with
      | [c], _ =>
        obtain ⟨e, rfl⟩ := int_cell Tryd.underlying3 h2
        exact ⟨e, h1⟩
    have hevs : ∃ f : Nat → Int, ∀ i, i < m → w.cells? base (a.add (i * 1)) 1 = some [.int .i64 (f i)] :=
      ⟨fun i => if hi : i < m then (hev i hi).choose else 0, fun i hi => by simp only [hi, dite_true]; exact (hev i hi).choose_spec⟩
    obtain ⟨f, hf⟩ := hevs
    have hcell : ∀ i, i < m → ∀ j, j < 1 → w.cell? ((a.add (i * 1)).add j) = [Value.int .i64 (f i)][j]? := fun i hi j hj => by
      obtain ⟨_, _, h3⟩ := World.cells?_some (hf i hi)
      exact h3 j hj
    by_cases hm0 : m = 0
    · subst hm0
      obtain rfl : len = 0 := by omega
      exact ⟨[], .nil⟩
    · have h00 := hcell 0 (by omega) 0 (by omega)
      obtain ⟨b, off, spot⟩ := a
      simp only [Nat.zero_mul, Addr.add, if_true, World.cell?] at h00
      split at h00
      · rename_i arr e fr hblk
        cases spot with
        | some s => simp at h00
        | none =>
          have harr : ∀ i, i < m → ∀ j, j < 1 → arr[off + i * 1 + j]? = [Value.int .i64 (f i)][j]? := fun i hi j hj => by
            have := hcell i hi j hj
            rw [add_at, add_at] at this
            simpa [World.cell?, hblk] using this
          refine ⟨(List.range len).map f, .sl (b := b) (off := off) (arr := arr) (e := e) (fr := fr) (sz := 1) (vs := fun i j => [Value.int .i64 (f i)].getD j undef) trivial hblk (by simp) hlc hcm ints_len (fun i hi j hj => ?_) (fun i x j d hx hd => ?_)⟩
          · simp only [List.length_map, List.length_range] at hi
            rw [harr i (by omega) j hj]
            match j, hj with
            | 0, _ => rfl
          · simp only [List.getElem?_map, Option.map_eq_some_iff] at hx
            obtain ⟨e', ⟨i', hi', rfl⟩, rfl⟩ := hx
            have : i' = i := by
              obtain ⟨h1, h2⟩ := List.getElem?_eq_some_iff.1 hi'
              simpa using h2.symm
            subst this
            match j with
            | 0 => cases hd; exact .v rfl
            | j + 1 => simp [ienc] at hd
      · cases h00
def evV (e : Ev) : Value := .agg #[.int .i64 e.kind, .int .i64 e.tx, .int .i64 e.var, .int .i64 e.val]
theorem relA_ev {st : Nat → Prop} {w : World} (e : Ev) : RelA st w (evV e) e.a :=
  ⟨[.int .i64 e.kind, .int .i64 e.tx, .int .i64 e.var, .int .i64 e.val], rfl, F2.cons (.v rfl) (F2.cons (.v rfl) (F2.cons (.v rfl) (F2.cons (.v rfl) F2.nil)))⟩
theorem open_ev {r : Reach} {base' : Nat} {v : Value} {d : DataW H} {p : List MemPlace} (hv : Value.okWide Tryd.prog w r base' 69 v) (h : DataW.Trod enc Tryd.prog w base sp held 69 v d p) : ∃ e : Ev, v = evV e := by
  unfold Value.okWide at hv
  rw [Tryd.underlying69] at hv
  obtain ⟨cs, rfl, _⟩ := hv
  obtain ⟨fuel, hf⟩ := h
  obtain ⟨e, he⟩ := ev_cells hf
  refine ⟨e, ?_⟩
  have : cs.toList = [.int .i64 e.kind, .int .i64 e.tx, .int .i64 e.var, .int .i64 e.val] := he
  unfold evV
  congr 1
  exact Array.toList_inj.1 this
end
end Go.VC
