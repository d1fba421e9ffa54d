/- The function ProperChecks answers true for every input, and its input reads behind the call as before: the tied card, with the package variable text.kinds laid as the program's text lays it. -/
import Derived.Test.YtjmbgnncokeliaaDoorVJ
import Derived.Test.YtjmbgnncokeliaaDoorTie
import Derived.Test.YtjmbgnncokeliaaDoorCards
import Derived.SevenTiedAt
namespace Go.Proofs.YtjmbgnncokeliaaDoor
open Go
theorem properChecks_card : Rows.ProperChecksCardSaid :=
  Claim7.holds_tied_plain_at .later [] [.widerDeep] true (true, "60f5019e461403b4d37feca27e8e78cf117b26b86c5b96795d02450f1d86111c") false
    Go.VC.checks_over (fun _ h => by cases h) (by kernel_rfl) (fun _ h => by cases h) properChecks_row_tie rfl ⟨rfl, rfl⟩ (by kernel_rfl) rfl
    (fun f fn hf hfn => by
      obtain rfl : f = 11 := Option.some.inj ((show Tryd.prog.funcNamed "recant/recantlaw05.ProperChecks" = some 11 by kernel_rfl).symm.trans hf) |>.symm
      obtain rfl : fn = Tryd.f11 := (Option.some.inj (Tryd.func11.symm.trans hfn)).symm
      exact ⟨by kernel_rfl, fun j t ht => by
        rw [Tryd.params11] at ht
        have h3 : t = 22 := by
          rcases j with _ | j
          · simpa using ht.symm
          · simp at ht
        subst h3
        exact (show Tryd.prog.wantsStandIn 22 = false by kernel_rfl)⟩)
    (by kernel_rfl)
#print axioms properChecks_card
end Go.Proofs.YtjmbgnncokeliaaDoor
