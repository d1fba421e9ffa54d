/- Rows with the laid variable text.kinds. -/
import Derived.Test.YtjmbgnncokeliaaDoorVH
import Derived.Test.YtjmbgnncokeliaaDoorRows
import Derived.ChangeSame
import Derived.ChangeVars
import Derived.JoinedOf
import Derived.RowKit
import Derived.LaidLaws
import Derived.LaidHandle
import Derived.OpenShut
set_option maxRecDepth 100000
set_option linter.unusedSimpArgs false
set_option linter.unusedVariables false
namespace Go.VC
open Go.RowKit Go.Proofs Go.IntWalk Go.ChangeShapes Go.WideShapes
def kindsL : List (String × DataW Unit) := [("recant/text.kinds", Go.Proofs.YtjmbgnncokeliaaDoor.Rows.laid_recant_text_kinds)]
def kindCells : Array Value := ((kindW.zip kindB).flatMap fun p => [Value.string ⟨p.1.toArray⟩, .bool p.2.1, .bool p.2.2]).toArray
noncomputable def laidWorld (os : Os) : World :=
  let w0 := World.holding Tryd.prog os ⟨#[], #[], []⟩
  { w0 with heap := w0.heap.modify 0 fun
      | .cells _ t frozen => .cells kindCells t frozen
      | o => o }
theorem laidWorld_met (os : Os) (args : Array Value) : laidMetH Tryd.prog kindsL ((laidWorld os).forCall (fun _ _ => 0) ⟨#[], args, []⟩).memory :=
  laidMetH_of_parts (laidMet_of_run' 8 (by kernel_rfl) (by kernel_rfl)) (by kernel_rfl)
section
variable {H : Type} {enc : TypeId × Value → H} {w : World} {base : Nat} {sp : Nat → Bool} {held : Bool}
theorem str_cell {P : Program} {t : TypeId} (ht : P.underlying t = some .string) {fuel : Nat} {a : Value} {s : List UInt8} {p : List MemPlace} (h : DataW.trod enc P w base sp held fuel t [a] = some (.lit (.string s), p)) : a = .string ⟨s.toArray⟩ := by
  cases fuel with
  | zero => simp [DataW.trod] at h
  | succ fuel =>
    unfold DataW.trod at h
    rw [ht] at h
    cases a <;> simp at h
    rename_i b
    obtain ⟨_, h, _⟩ := h
    rw [← h]
theorem bool_cell {P : Program} {t : TypeId} (ht : P.underlying t = some .bool) {fuel : Nat} {a : Value} {s : Bool} {p : List MemPlace} (h : DataW.trod enc P w base sp held fuel t [a] = some (.lit (.bool s), p)) : a = .bool s := by
  cases fuel with
  | zero => simp [DataW.trod] at h
  | succ fuel =>
    unfold DataW.trod at h
    rw [ht] at h
    cases a <;> simp at h
    rw [h.1]
theorem kind_cells {fuel : Nat} {cs : List Value} {s : List UInt8} {x y : Bool} {p : List MemPlace} (h : DataW.trod enc Tryd.prog w base sp held fuel 157 cs = some (.agg [.lit (.string s), .lit (.bool x), .lit (.bool y)], p)) : cs = [.string ⟨s.toArray⟩, .bool x, .bool y] := by
  obtain ⟨xs, n, _, e, hl, hlen, hf⟩ := DataW.trod_struct Tryd.underlying157 h
  have h3 : cs.length = 3 := by rw [hl]; kernel_rfl
  have c9 : Tryd.prog.cellsOf 9 = 1 := by kernel_rfl
  have c4 : Tryd.prog.cellsOf 4 = 1 := by kernel_rfl
  match cs, h3, xs, hlen with
  | [a, b, c], _, [x0, x1, x2], _ =>
    simp only [List.map_cons, List.map_nil, Prod.mk.injEq, DataW.agg.injEq, List.cons.injEq, and_true] at e
    obtain ⟨⟨e0, e1, e2⟩, _⟩ := e
    have g := fun i f hi => hf i f hi
    have g0 : DataW.trod enc Tryd.prog w base sp held n 9 [a] = some x0 := by simpa [c9] using g 0 _ rfl
    have g1 : DataW.trod enc Tryd.prog w base sp held n 4 [b] = some x1 := by simpa [c4] using g 1 _ rfl
    have g2 : DataW.trod enc Tryd.prog w base sp held n 4 [c] = some x2 := by simpa [c4] using g 2 _ rfl
    have k0 : a = .string ⟨s.toArray⟩ := str_cell (p := x0.2) Tryd.underlying9 (by rw [g0, e0])
    have k1 : b = .bool x := bool_cell (p := x1.2) Tryd.underlying4 (by rw [g1, e1])
    have k2 : c = .bool y := bool_cell (p := x2.2) Tryd.underlying4 (by rw [g2, e2])
    rw [k0, k1, k2]
end
end Go.VC
namespace Go.VC
open Go.RowKit Go.Proofs Go.IntWalk Go.ChangeShapes Go.WideShapes
theorem kinds_cells {w : World} (h : laidMetH Tryd.prog kindsL w) : ∃ t fr, w.heap[0]? = some (.cells kindCells t fr) := by
  have h' : laidMet Tryd.prog kindsL w := h
  obtain ⟨ps, ⟨g, t, cs, fuel, p, q, e1, e2, e3, e4, _⟩, _⟩ := h'
  have hg : Tryd.prog.globalNamed "recant/text.kinds" = some 0 := by kernel_rfl
  obtain rfl : g = 0 := (Option.some.inj (hg.symm.trans e1)).symm
  have ht : (Tryd.prog.globals[0]?).map (·.type) = some 158 := by kernel_rfl
  obtain rfl : t = 158 := (Option.some.inj (ht.symm.trans e2)).symm
  have hcs : cs = kindCells := by
    obtain ⟨xs, m, _, e, hl, hlen, hf⟩ := DataW.trod_array Tryd.underlying158 e4
    have h30 : cs.toList.length = 30 := by rw [hl]; kernel_rfl
    have c157 : Tryd.prog.cellsOf 157 = 3 := by kernel_rfl
    rw [c157] at hf
    have hrow : ∀ i, i < 10 → (cs.toList.drop (i * 3)).take 3 = (kindCells.toList.drop (i * 3)).take 3 := by
      match xs, hlen with
      | [x0, x1, x2, x3, x4, x5, x6, x7, x8, x9], _ =>
        unfold Go.Proofs.YtjmbgnncokeliaaDoor.Rows.laid_recant_text_kinds at e
        simp only [List.map_cons, List.map_nil, Prod.mk.injEq, DataW.agg.injEq, List.cons.injEq, and_true] at e
        obtain ⟨⟨e0, e1, e2, e3, e4, e5, e6, e7, e8, e9⟩, _⟩ := e
        intro i hi
        have hc : i = 0 ∨ i = 1 ∨ i = 2 ∨ i = 3 ∨ i = 4 ∨ i = 5 ∨ i = 6 ∨ i = 7 ∨ i = 8 ∨ i = 9 := by omega
        rcases hc with rfl | rfl | rfl | rfl | rfl | rfl | rfl | rfl | rfl | rfl
        · exact kind_cells (p := x0.2) ((hf 0 (by omega)).trans (by rw [e0]; rfl))
        · exact kind_cells (p := x1.2) ((hf 1 (by omega)).trans (by rw [e1]; rfl))
        · exact kind_cells (p := x2.2) ((hf 2 (by omega)).trans (by rw [e2]; rfl))
        · exact kind_cells (p := x3.2) ((hf 3 (by omega)).trans (by rw [e3]; rfl))
        · exact kind_cells (p := x4.2) ((hf 4 (by omega)).trans (by rw [e4]; rfl))
        · exact kind_cells (p := x5.2) ((hf 5 (by omega)).trans (by rw [e5]; rfl))
        · exact kind_cells (p := x6.2) ((hf 6 (by omega)).trans (by rw [e6]; rfl))
        · exact kind_cells (p := x7.2) ((hf 7 (by omega)).trans (by rw [e7]; rfl))
        · exact kind_cells (p := x8.2) ((hf 8 (by omega)).trans (by rw [e8]; rfl))
        · exact kind_cells (p := x9.2) ((hf 9 (by omega)).trans (by rw [e9]; rfl))
    have : cs.toList = kindCells.toList := by
      apply List.ext_getElem?
      intro j
      by_cases hj : j < 30
      · have h1 := congrArg (·[j % 3]?) (hrow (j / 3) (by omega))
        simp only [List.getElem?_take, List.getElem?_drop, show j % 3 < 3 by omega, if_true, show j / 3 * 3 + j % 3 = j by omega] at h1
        exact h1
      · rw [List.getElem?_eq_none (by omega), List.getElem?_eq_none (by have : kindCells.toList.length = 30 := rfl; omega)]
    exact Array.toList_inj.1 this
  subst hcs
  simp only [World.var?, hg, Option.bind_some] at e3
  split at e3
  · rename_i cs' t' fr hh
    cases e3
    exact ⟨_, _, hh⟩
  · cases e3
theorem env_of_laid {w : World} (h : laidMetH Tryd.prog kindsL w) : EnvOk GL (fun _ => True) w := fun g cs hg => by
  unfold GL at hg
  split at hg
  · rename_i h0
    subst h0
    cases hg
    obtain ⟨t, fr, hh⟩ := kinds_cells h
    have hlen : (kindD kindW).length = 30 := rfl
    refine .pt (vs := fun j => kindCells.toList.getD j undef) trivial hh (fun j hj => ?_) (fun j d hd => ?_)
    · rw [hlen] at hj
      have h30 : kindCells.toList.length = 30 := rfl
      rw [Nat.zero_add, ← Array.getElem?_toList, List.getD_eq_getElem?_getD, List.getElem?_eq_getElem (by omega)]; rfl
    · have hj := (List.getElem?_eq_some_iff.1 hd).1
      rw [hlen] at hj
      have hc : j = 0 ∨ j = 1 ∨ j = 2 ∨ j = 3 ∨ j = 4 ∨ j = 5 ∨ j = 6 ∨ j = 7 ∨ j = 8 ∨ j = 9 ∨ j = 10 ∨ j = 11 ∨ j = 12 ∨ j = 13 ∨ j = 14 ∨ j = 15 ∨ j = 16 ∨ j = 17 ∨ j = 18 ∨ j = 19 ∨ j = 20 ∨ j = 21 ∨ j = 22 ∨ j = 23 ∨ j = 24 ∨ j = 25 ∨ j = 26 ∨ j = 27 ∨ j = 28 ∨ j = 29 := by omega
      rcases hc with rfl | rfl | rfl | rfl | rfl | rfl | rfl | rfl | rfl | rfl | rfl | rfl | rfl | rfl | rfl | rfl | rfl | rfl | rfl | rfl | rfl | rfl | rfl | rfl | rfl | rfl | rfl | rfl | rfl | rfl <;> (cases hd; exact .v rfl)
  · cases hg
end Go.VC
