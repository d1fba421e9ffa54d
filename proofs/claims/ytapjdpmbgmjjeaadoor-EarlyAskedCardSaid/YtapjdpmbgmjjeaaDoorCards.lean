/-
  DERIVED. GIVEN WITH THE SEED: THE CARDS: each row of YtapjdpmbgmjjeaaDoorRows.lean that lists a variable, with what it lists TIED to the program's text (the seventh form; the later family's looks); each row that meets fmt, with fmt's text TOLD by the authors' own Lean function (tested against real Go, not proved from fmt's source: count such statements apart). THE CARD IS WHAT COUNTS. Prove the row's statement (the work); the ties are given (YtapjdpmbgmjjeaaDoorTie.lean); close each card by the builder's one call (the guide's Derived/Test/ToyasCard.lean, 'card_holds'). Laid BY PROGRAM, IN A SANDBOX (cutbox-door.mjs). By AI agents, Wed Nov 11 2026. No macro, syntax, notation, axiom, sorry.
-/
import Derived.Test.YtapjdpmbgmjjeaaDoorRows
import GoSem.ClaimSeven
namespace Go.Proofs.YtapjdpmbgmjjeaaDoor
namespace Rows

/-- THE TIED CARD OF 'recantlaw12.SerialRight'. -/
def serialRightCard : Claim7 := { stood := { row := serialRightRow, standIns := [], harness := (true, "5609529fa9d679e31aad79f287285f110975825acb68129b1acf13d2c5fd62ef"), looks := true }, kinds := [], alts := [], laidByText := true, laidKinds := [.widerDeep], laidTests := true, laidLooks := .later }
def SerialRightCardSaid : Prop := Claim7.holds Tryd.pinned (.plain (OpenSpec.ofChange serialRightSpec)) serialRightCard

/-- THE TIED CARD OF 'recantlaw20.EarlyAnswers'. -/
def earlyAnswersCard : Claim7 := { stood := { row := earlyAnswersRow, standIns := [], harness := (true, "5609529fa9d679e31aad79f287285f110975825acb68129b1acf13d2c5fd62ef"), looks := true }, kinds := [], alts := [], laidByText := true, laidKinds := [.widerDeep], laidTests := true, laidLooks := .later }
def EarlyAnswersCardSaid : Prop := Claim7.holds Tryd.pinned (.plain (OpenSpec.ofChange earlyAnswersSpec)) earlyAnswersCard

/-- THE TIED CARD OF 'recantlaw20.EarlyAsked'. -/
def earlyAskedCard : Claim7 := { stood := { row := earlyAskedRow, standIns := [], harness := (true, "5609529fa9d679e31aad79f287285f110975825acb68129b1acf13d2c5fd62ef"), looks := true }, kinds := [], alts := [], laidByText := true, laidKinds := [.widerDeep], laidTests := true, laidLooks := .later }
def EarlyAskedCardSaid : Prop := Claim7.holds Tryd.pinned (.plain (OpenSpec.ofChange earlyAskedSpec)) earlyAskedCard

/-- THE SECOND FORM's CARD OF 'recantlaw12.SerialRight'. -/
def serialRightUptoCard : Claim7 := { stood := { row := serialRightUptoRow, standIns := [], harness := (true, "5609529fa9d679e31aad79f287285f110975825acb68129b1acf13d2c5fd62ef"), looks := true }, kinds := [], alts := [], laidByText := true, laidKinds := [.widerDeep], laidTests := true, laidLooks := .later }
def SerialRightUptoCardSaid : Prop := Claim7.holds Tryd.pinned (.plain (OpenSpec.upto serialRightSpec)) serialRightUptoCard

/-- THE SECOND FORM's CARD OF 'recantlaw20.EarlyAnswers'. -/
def earlyAnswersUptoCard : Claim7 := { stood := { row := earlyAnswersUptoRow, standIns := [], harness := (true, "5609529fa9d679e31aad79f287285f110975825acb68129b1acf13d2c5fd62ef"), looks := true }, kinds := [], alts := [], laidByText := true, laidKinds := [.widerDeep], laidTests := true, laidLooks := .later }
def EarlyAnswersUptoCardSaid : Prop := Claim7.holds Tryd.pinned (.plain (OpenSpec.upto earlyAnswersSpec)) earlyAnswersUptoCard

/-- THE SECOND FORM's CARD OF 'recantlaw20.EarlyAsked'. -/
def earlyAskedUptoCard : Claim7 := { stood := { row := earlyAskedUptoRow, standIns := [], harness := (true, "5609529fa9d679e31aad79f287285f110975825acb68129b1acf13d2c5fd62ef"), looks := true }, kinds := [], alts := [], laidByText := true, laidKinds := [.widerDeep], laidTests := true, laidLooks := .later }
def EarlyAskedUptoCardSaid : Prop := Claim7.holds Tryd.pinned (.plain (OpenSpec.upto earlyAskedSpec)) earlyAskedUptoCard
end Rows
end Go.Proofs.YtapjdpmbgmjjeaaDoor
