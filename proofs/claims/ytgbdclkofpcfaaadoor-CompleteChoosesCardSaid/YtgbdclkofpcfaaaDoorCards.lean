/-
  DERIVED. GIVEN WITH THE SEED: THE CARDS: each row of YtgbdclkofpcfaaaDoorRows.lean that lists a variable, with what it lists TIED to the program's text (the seventh form; the later family's looks); each row that meets fmt, with fmt's text TOLD by the authors' own Lean function (tested against real Go, not proved from fmt's source: count such statements apart). THE CARD IS WHAT COUNTS. Prove the row's statement (the work); the ties are given (YtgbdclkofpcfaaaDoorTie.lean); close each card by the builder's one call (the guide's Derived/Test/ToyasCard.lean, 'card_holds'). Laid BY PROGRAM, IN A SANDBOX (cutbox-door.mjs). By AI agents, Wed Nov 11 2026. No macro, syntax, notation, axiom, sorry.
-/
import Derived.Test.YtgbdclkofpcfaaaDoorRows
import GoSem.ClaimSeven
namespace Go.Proofs.YtgbdclkofpcfaaaDoor
namespace Rows

/-- THE TIED CARD OF 'recantlaw09.CompleteChooses'. -/
def completeChoosesCard : Claim7 := { stood := { row := completeChoosesRow, standIns := [], harness := (true, "87e6843c520a4a2d4f1db8a98e64d3e451e4268888b118d728d9f1ca3aec302e"), looks := false }, kinds := [], alts := [], laidByText := true, laidKinds := [.widerDeep], laidTests := true, laidLooks := .later }
def CompleteChoosesCardSaid : Prop := Claim7.holds Tryd.pinned (.plain (OpenSpec.ofChange completeChoosesSpec)) completeChoosesCard

/-- THE TIED CARD OF 'recantlaw09.CompleteCount'. -/
def completeCountCard : Claim7 := { stood := { row := completeCountRow, standIns := [], harness := (true, "87e6843c520a4a2d4f1db8a98e64d3e451e4268888b118d728d9f1ca3aec302e"), looks := false }, kinds := [], alts := [], laidByText := true, laidKinds := [.widerDeep], laidTests := true, laidLooks := .later }
def CompleteCountCardSaid : Prop := Claim7.holds Tryd.pinned (.plain (OpenSpec.ofChange completeCountSpec)) completeCountCard

/-- THE TIED CARD OF 'recantlaw09.CompleteEnds'. -/
def completeEndsCard : Claim7 := { stood := { row := completeEndsRow, standIns := [], harness := (true, "87e6843c520a4a2d4f1db8a98e64d3e451e4268888b118d728d9f1ca3aec302e"), looks := false }, kinds := [], alts := [], laidByText := true, laidKinds := [.widerDeep], laidTests := true, laidLooks := .later }
def CompleteEndsCardSaid : Prop := Claim7.holds Tryd.pinned (.plain (OpenSpec.ofChange completeEndsSpec)) completeEndsCard

/-- THE SECOND FORM's CARD OF 'recantlaw09.CompleteChooses'. -/
def completeChoosesUptoCard : Claim7 := { stood := { row := completeChoosesUptoRow, standIns := [], harness := (true, "87e6843c520a4a2d4f1db8a98e64d3e451e4268888b118d728d9f1ca3aec302e"), looks := false }, kinds := [], alts := [], laidByText := true, laidKinds := [.widerDeep], laidTests := true, laidLooks := .later }
def CompleteChoosesUptoCardSaid : Prop := Claim7.holds Tryd.pinned (.plain (OpenSpec.upto completeChoosesSpec)) completeChoosesUptoCard

/-- THE SECOND FORM's CARD OF 'recantlaw09.CompleteCount'. -/
def completeCountUptoCard : Claim7 := { stood := { row := completeCountUptoRow, standIns := [], harness := (true, "87e6843c520a4a2d4f1db8a98e64d3e451e4268888b118d728d9f1ca3aec302e"), looks := false }, kinds := [], alts := [], laidByText := true, laidKinds := [.widerDeep], laidTests := true, laidLooks := .later }
def CompleteCountUptoCardSaid : Prop := Claim7.holds Tryd.pinned (.plain (OpenSpec.upto completeCountSpec)) completeCountUptoCard

/-- THE SECOND FORM's CARD OF 'recantlaw09.CompleteEnds'. -/
def completeEndsUptoCard : Claim7 := { stood := { row := completeEndsUptoRow, standIns := [], harness := (true, "87e6843c520a4a2d4f1db8a98e64d3e451e4268888b118d728d9f1ca3aec302e"), looks := false }, kinds := [], alts := [], laidByText := true, laidKinds := [.widerDeep], laidTests := true, laidLooks := .later }
def CompleteEndsUptoCardSaid : Prop := Claim7.holds Tryd.pinned (.plain (OpenSpec.upto completeEndsSpec)) completeEndsUptoCard
end Rows
end Go.Proofs.YtgbdclkofpcfaaaDoor
