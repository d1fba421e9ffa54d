/- The rules in one bundle, and rules for results that lie in cells. -/
import Derived.Test.YtjmbgnncokeliaaDoorVM
set_option linter.unusedVariables false
set_option linter.unusedSimpArgs false
set_option linter.defProp false
namespace Go.VC
open Go.RowKit Go.Proofs
section
variable {P : Program} {σ : S}
def pair2c (x : Option D) (y : Option (List D)) : Option (List D) := match x, y with
  | some a, some b => some (a :: b)
  | _, _ => none
theorem p2_s {x : D} {y : List D} : pair2c (some x) (some y) = some (x :: y) := rfl
theorem es_nil : endDs σ [] = some [] := rfl
theorem es_cons {r : R} {rs : List R} : endDs σ (r :: rs) = pair2c (endD σ r) (endDs σ rs) := by
  simp only [endDs, pair2c]
  cases endD σ r <;> cases endDs σ rs <;> rfl
def cellG (σ : S) (m : Option Ob) (ti : Option TI) (off : Nat) (xs : List D) : Prop := match m, ti with
  | some (.box cs), some ti => ti.ag = true ∧ off + ti.sz ≤ cs.length ∧ endDs σ ((cs.drop off).take ti.sz) = some xs
  | _, _ => False
theorem en_cell {t : Tmp} {u : TypeId} {o off : Nat} {xs : List D} : endR P σ (.cell t u) (.ref o off) (.a (.ag xs)) = cellG σ (σ.mem o) (tinf P u) off xs := rfl
theorem cg_b {cs : List R} {sz bs off : Nat} {z : List Value} {xs : List D} : cellG σ (some (.box cs)) (some ⟨sz, bs, true, z⟩) off xs = (off + sz ≤ cs.length ∧ endDs σ ((cs.drop off).take sz) = some xs) := by simp [cellG]
def cellH (σ : S) (m : Option Ob) (ti : Option TI) (off : Nat) (x : D) : Prop := match m, ti with
  | some (.box cs), some ti => ti.ag = false ∧ (match cs[off]? with
    | some r => endD σ r = some x
    | none => False)
  | _, _ => False
theorem en_celd {t : Tmp} {u : TypeId} {o off : Nat} {x : D} : endR P σ (.cell t u) (.ref o off) (.a (.d x)) = cellH σ (σ.mem o) (tinf P u) off x := rfl
theorem ch_b {cs : List R} {sz bs off : Nat} {z : List Value} {x : D} : cellH σ (some (.box cs)) (some ⟨sz, bs, false, z⟩) off x = mat cs[off]? fun r => endD σ r = some x := by
  simp only [cellH, mat, true_and]
  cases cs[off]? <;> rfl
end
def gate (p : Prop) : Prop := p
theorem of_gate {p : Prop} (h : gate p) : p := h
theorem gate_in {p : Prop} (h : p) : gate p := h
def PX :=
  And.intro @Bool.false_or <| And.intro @evs_lenT <| And.intro @ints_lenT <| And.intro @List.reverse_cons.{0} <| And.intro @List.reverse_nil.{0} <| And.intro @ne_eq.{1} <| And.intro @not_false_eq_true <| And.intro @not_true_eq_false <| And.intro @Int.cast_ofNat_Int <| And.intro @Int.toNat_natCast <|
  And.intro @en_cell <| And.intro @cg_b <| And.intro @en_celd <| And.intro @ch_b <| And.intro @es_nil <| And.intro @es_cons <| @p2_s
end Go.VC
