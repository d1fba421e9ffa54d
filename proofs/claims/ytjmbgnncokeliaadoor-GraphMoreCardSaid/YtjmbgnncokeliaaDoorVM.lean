/- The program's data, as Lean's. -/
import Derived.Test.YtjmbgnncokeliaaDoorVX
set_option linter.unusedVariables false
namespace Go.VC
open Go.RowKit Go.Proofs Go.IntWalk
abbrev dI (n : Int) : D := .v (.int .i64 n)
abbrev dB (b : Bool) : D := .v (.bool b)
abbrev I (n : Int) : A := .d (dI n)
abbrev B (b : Bool) : A := .d (dB b)
structure Ev where
  kind : Int
  tx : Int
  var : Int
  val : Int
def Ev.enc (e : Ev) : List D := [dI e.kind, dI e.tx, dI e.var, dI e.val]
abbrev Ev.a (e : Ev) : A := .ag [dI e.kind, dI e.tx, dI e.var, dI e.val]
abbrev evsA (h : List Ev) : A := .d (.sl (h.map Ev.enc))
def ienc (n : Int) : List D := [dI n]
abbrev intsA (l : List Int) : A := .d (.sl (l.map ienc))
theorem Ev.enc_eq (e : Ev) : e.enc = [dI e.kind, dI e.tx, dI e.var, dI e.val] := rfl
theorem ienc_eq (n : Int) : ienc n = [dI n] := rfl
theorem evs_len {h : List Ev} : ∀ c ∈ h.map Ev.enc, c.length = 4 := fun c hc => by
  obtain ⟨e, _, rfl⟩ := List.mem_map.1 hc; rfl
theorem ints_len {h : List Int} : ∀ c ∈ h.map ienc, c.length = 1 := fun c hc => by
  obtain ⟨e, _, rfl⟩ := List.mem_map.1 hc; rfl
theorem evs_lenT {h : List Ev} : (∀ c ∈ h.map Ev.enc, c.length = 4) = True := eq_true evs_len
theorem ints_lenT {h : List Int} : (∀ c ∈ h.map ienc, c.length = 1) = True := eq_true ints_len
def strD (s : List UInt8) : D := .v (.string ⟨s.toArray⟩)
/-- The words of the kinds, and which numbers they have. -/
def kindB : List (Bool × Bool) := [(false, false), (false, false), (true, false), (false, true), (true, true), (false, false), (false, false), (false, false), (false, false), (false, false)]
def kindD (ws : List (List UInt8)) : List D := (ws.zip kindB).flatMap fun p => [strD p.1, dB p.2.1, dB p.2.2]
def kindW : List (List UInt8) := [[98,101,103,105,110],[98,101,103,117,110],[114,101,97,100],[103,111,116],[119,114,105,116,101],[119,114,111,116,101],[99,111,109,109,105,116],[99,111,109,109,105,116,116,101,100],[99,97,110,99,101,108],[97,98,111,114,116,101,100]]
/-- What the globals hold. -/
def GL (g : Nat) : Option (List D) := if g = 0 then some (kindD kindW) else none
theorem glob0 {σ : S} : S.eval GL σ (.global 0) = .a (.d (.pt (kindD kindW))) := rfl
theorem kind_eq : kindD kindW = [strD (kindW.getD 0 []), dB false, dB false, strD (kindW.getD 1 []), dB false, dB false, strD (kindW.getD 2 []), dB true, dB false, strD (kindW.getD 3 []), dB false, dB true, strD (kindW.getD 4 []), dB true, dB true, strD (kindW.getD 5 []), dB false, dB false, strD (kindW.getD 6 []), dB false, dB false, strD (kindW.getD 7 []), dB false, dB false, strD (kindW.getD 8 []), dB false, dB false, strD (kindW.getD 9 []), dB false, dB false] := rfl
/-- A call to which rows of one's own are handed, whose results are flat: nothing is laid to rest. -/
theorem call_own {P : Program} {gl : Nat → Option (List D)} {f : FuncId} {rs : List R} (ys : List A) {res : List Rv} {dst : Option Tmp} {σ : S} {K : S → Prop} (h : Holds P gl f ys res) (ha : argsA σ rs = some ys) (hf : res.all Rv.flat = true) (k : S.ret σ dst res K) : callV P gl f rs dst σ K :=
  call_flat ha h hf k

/-! ### Plain laws of rounds -/
theorem wrap_succ {k n : Nat} (h : k < n) (hn : n ≤ maxLen) : IntKind.i64.wrap ((k : Int) + 1) = ((k + 1 : Nat) : Int) := by
  rw [i64_in _ (by simp only [maxLen] at hn; omega)]; omega
def idxOf {α : Type} (p : α → Bool) (l : List α) : Int := match l.findIdx? p with
  | some i => i
  | none => -1
def noneTo {α : Type} (p : α → Bool) (l : List α) (k : Nat) : Prop := ∀ y ∈ l.take k, p y = false
theorem noneTo_0 {α : Type} {p : α → Bool} {l : List α} : noneTo p l 0 := fun y hy => by simp at hy
theorem noneTo_s {α : Type} {p : α → Bool} {l : List α} {k : Nat} (hk : k < l.length) (h : noneTo p l k) (hp : p l[k] = false) : noneTo p l (k + 1) := fun y hy => by
  rw [List.take_succ_eq_append_getElem hk, List.mem_append] at hy
  rcases hy with hy | hy
  · exact h y hy
  · simp at hy; subst hy; exact hp
theorem idx_hit {α : Type} {p : α → Bool} {l : List α} {k : Nat} (hk : k < l.length) (h : noneTo p l k) (hp : p l[k] = true) : idxOf p l = (k : Int) := by
  have : l.findIdx? p = some k := by
    rw [List.findIdx?_eq_some_iff_getElem]
    refine ⟨hk, hp, fun j hj => ?_⟩
    have := h l[j] (List.mem_iff_getElem?.2 ⟨j, by rw [List.getElem?_take]; simp [hj]⟩)
    simp [this]
  simp [idxOf, this]
theorem idx_none {α : Type} {p : α → Bool} {l : List α} {k : Nat} (hk : l.length ≤ k) (h : noneTo p l k) : idxOf p l = -1 := by
  have : l.findIdx? p = none := by
    rw [List.findIdx?_eq_none_iff]
    intro x hx
    exact h x (by rw [List.take_of_length_le hk]; exact hx)
  simp [idxOf, this]
theorem idx_ge {α : Type} {p : α → Bool} {l : List α} : decide (0 ≤ idxOf p l) = l.any p := by
  unfold idxOf
  cases h : l.findIdx? p with
  | none =>
    rw [List.findIdx?_eq_none_iff] at h
    have : l.any p = false := by simpa using h
    rw [this]; rfl
  | some i =>
    rw [List.findIdx?_eq_some_iff_getElem] at h
    obtain ⟨hi, hp, _⟩ := h
    have : l.any p = true := List.any_eq_true.2 ⟨_, List.getElem_mem hi, hp⟩
    rw [this]; simp
end Go.VC
