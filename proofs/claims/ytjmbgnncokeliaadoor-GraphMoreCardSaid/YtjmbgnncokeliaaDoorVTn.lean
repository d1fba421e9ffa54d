/- Plain laws of tables. -/
import Derived.Test.YtjmbgnncokeliaaDoorVTe
import Derived.Test.YtjmbgnncokeliaaDoorVDg
set_option linter.unusedSimpArgs false
set_option linter.unusedVariables false
namespace Go.VC
open Go.RowKit Go.Proofs Go.IntWalk
theorem check60 {h : List Ev} (h0 : checkE h = 0) : h.length ≤ 60 := by
  rcases Nat.lt_or_ge 60 h.length with h1 | h1
  · exfalso
    have : rightH h = false := by simp [rightH]; omega
    simp [checkE, this] at h0
  · exact h1
/-! ### A prefix's table -/
def tabOf (h : List Ev) : List Kp := tabAt h h.length
theorem tabAt_take {h : List Ev} {n : Nat} : ∀ k, k ≤ n → tabAt (h.take n) k = tabAt h k
  | 0, _ => rfl
  | k + 1, hk => by
    have hk' : k < n := by omega
    have ih := tabAt_take (h := h) (n := n) k (by omega)
    simp only [tabAt, List.getElem?_take, if_pos hk', ih]
theorem tabOf_take {h : List Ev} {k : Nat} (hk : k ≤ h.length) : tabOf (h.take k) = tabAt h k := by
  unfold tabOf
  rw [List.length_take, Nat.min_eq_left hk]
  exact tabAt_take k (Nat.le_refl k)
structure KExt (a b : Kp) : Prop where
  name : b.name = a.name
  first : b.first = a.first
  ops : a.ops <+: b.ops
def TExt (ks ks' : List Kp) : Prop := ∀ (j : Nat) a, ks[j]? = some a → ∃ b, ks'[j]? = some b ∧ KExt a b
theorem TExt.refl (ks : List Kp) : TExt ks ks := fun j a h => ⟨a, h, rfl, rfl, List.prefix_refl _⟩
theorem TExt.trans {a b c : List Kp} (h : TExt a b) (k : TExt b c) : TExt a c := fun j x hx => by
  obtain ⟨y, hy, n1, f1, o1⟩ := h j x hx
  obtain ⟨z, hz, n2, f2, o2⟩ := k j y hy
  exact ⟨z, hz, n2.trans n1, f2.trans f1, o1.trans o2⟩
theorem takeK_ext (kp : Kp) (i : Int) (e : Ev) : KExt kp (takeK kp i e) := by
  unfold takeK
  (repeat' split) <;> exact ⟨rfl, rfl, by simp⟩
theorem tabStep_ext (ks : List Kp) (i : Int) (e : Ev) : TExt ks (tabStep ks i e) := by
  unfold tabStep
  split
  · rename_i j hj
    split
    · rename_i kp hkp
      intro j' a ha
      by_cases hjj : j = j'
      · subst hjj
        rw [hkp] at ha; cases ha
        exact ⟨_, List.getElem?_set_self (List.getElem?_eq_some_iff.1 hkp).1, takeK_ext _ _ _⟩
      · exact ⟨a, by rw [List.getElem?_set_ne hjj]; exact ha, rfl, rfl, List.prefix_refl _⟩
    · exact TExt.refl ks
  · intro j' a ha
    exact ⟨a, by rw [List.getElem?_append_left (List.getElem?_eq_some_iff.1 ha).1]; exact ha, rfl, rfl, List.prefix_refl _⟩
theorem tab_ext (h : List Ev) (k : Nat) : ∀ m, TExt (tabAt h k) (tabAt h (k + m))
  | 0 => TExt.refl _
  | m + 1 => (tab_ext h k m).trans (by
    show TExt _ (tabAt h (k + m + 1))
    simp only [tabAt]
    split
    · exact tabStep_ext _ _ _
    · exact TExt.refl _)
theorem TExt.len {a b : List Kp} (h : TExt a b) : a.length ≤ b.length := by
  rcases Nat.lt_or_ge b.length a.length with hl | hl
  · obtain ⟨y, hy, _⟩ := h b.length a[b.length] (List.getElem?_eq_getElem hl)
    simp at hy
  · exact hl
theorem check_take {h : List Ev} (h0 : checkE h = 0) {k : Nat} (hk : k ≤ h.length) : checkE (h.take k) = 0 := by
  have hr : rightH h = true := by
    cases hr : rightH h with
    | true => rfl
    | false => rw [check_arg.2 hr] at h0; cases h0
  have := (goes_take hk (by rw [h0]; decide)).1
  rw [this]
  have := (check_form hr).2.1.1 h0
  omega
end Go.VC
