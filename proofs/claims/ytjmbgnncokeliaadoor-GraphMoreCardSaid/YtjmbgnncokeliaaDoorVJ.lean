/- What all rows share. -/
import Derived.Test.YtjmbgnncokeliaaDoorVI
import Derived.WalkKit
import Derived.ProofKit
import Derived.ChangeOld
import Derived.Below
import Derived.SizedLaws
set_option maxRecDepth 100000
set_option linter.unusedSimpArgs false
set_option linter.unusedVariables false
namespace Go.VC
open Go.RowKit Go.Proofs Go.IntWalk Go.ChangeShapes Go.WideShapes Go.ChangeAt
theorem own : ownKnob Tryd.prog.godebug = none := by kernel_rfl
theorem laidOut : laidOutB Tryd.prog = true := by kernel_rfl
/-- A function that answers true, as a row's walk wants it. -/
theorem walk_true {f : FuncId} {xs : List A} {W : World} {vs : List Value} (h : Holds Tryd.prog GL f xs [.a (B true)]) (hl : laidMetH Tryd.prog kindsL W) (hv : F2 (RelA (fun _ => True) W) vs xs) :
    Calls Tryd.prog f vs.toArray W fun e W' => e = .returned (.bool true) ∧ Below W.heap.size W W' :=
  (h.2 _ W vs (env_of_laid hl) hv).mono fun e W' ⟨us, he, hk, hr, _⟩ => by
    obtain ⟨u, s, rfl, hu, hs⟩ := hr.of_cons
    obtain rfl := hs.of_nil
    have hu' : u = .bool true := by cases hu; rfl
    subst hu'
    exact ⟨he, hk.below⟩
end Go.VC
