/-
  DERIVED. GIVEN WITH THE SEED: THE CARDS: each row of YtmdedloggaibjaaDoorRows.lean that lists a variable, with what it lists TIED to the program's text (the seventh form; the later family's looks); each row that meets fmt, with fmt's text TOLD by the authors' own Lean function (tested against real Go, not proved from fmt's source: count such statements apart). THE CARD IS WHAT COUNTS. Prove the row's statement (the work); the ties are given (YtmdedloggaibjaaDoorTie.lean); close each card by the builder's one call (the guide's Derived/Test/ToyasCard.lean, 'card_holds'). Laid BY PROGRAM, IN A SANDBOX (cutbox-door.mjs). By AI agents, Wed Nov 11 2026. No macro, syntax, notation, axiom, sorry.
-/
import Derived.Test.YtmdedloggaibjaaDoorRows
import GoSem.ClaimSeven
namespace Go.Proofs.YtmdedloggaibjaaDoor
namespace Rows

/-- THE TIED CARD OF 'recantlaw09.CompleteEnds'. -/
def completeEndsCard : Claim7 := { stood := { row := completeEndsRow, standIns := [], harness := (true, "c047be635310ee404f97d6f2853049f27a1f41d7f7ca5b036d82100fe878f73f"), looks := true }, kinds := [], alts := [], laidByText := true, laidKinds := [.widerDeep], laidTests := true, laidLooks := .later }
def CompleteEndsCardSaid : Prop := Claim7.holds Tryd.pinned (.plain (OpenSpec.ofChange completeEndsSpec)) completeEndsCard

/-- THE TIED CARD OF 'recantlaw12.SerialRows'. -/
def serialRowsCard : Claim7 := { stood := { row := serialRowsRow, standIns := [], harness := (true, "c047be635310ee404f97d6f2853049f27a1f41d7f7ca5b036d82100fe878f73f"), looks := true }, kinds := [], alts := [], laidByText := true, laidKinds := [.widerDeep], laidTests := true, laidLooks := .later }
def SerialRowsCardSaid : Prop := Claim7.holds Tryd.pinned (.plain (OpenSpec.ofChange serialRowsSpec)) serialRowsCard

/-- THE TIED CARD OF 'recantlaw12.SerialPart'. -/
def serialPartCard : Claim7 := { stood := { row := serialPartRow, standIns := [], harness := (true, "c047be635310ee404f97d6f2853049f27a1f41d7f7ca5b036d82100fe878f73f"), looks := true }, kinds := [], alts := [], laidByText := true, laidKinds := [.widerDeep], laidTests := true, laidLooks := .later }
def SerialPartCardSaid : Prop := Claim7.holds Tryd.pinned (.plain (OpenSpec.ofChange serialPartSpec)) serialPartCard

/-- THE TIED CARD OF 'recantlaw12.SerialSearches'. -/
def serialSearchesCard : Claim7 := { stood := { row := serialSearchesRow, standIns := [], harness := (true, "c047be635310ee404f97d6f2853049f27a1f41d7f7ca5b036d82100fe878f73f"), looks := true }, kinds := [], alts := [], laidByText := true, laidKinds := [.widerDeep], laidTests := true, laidLooks := .later }
def SerialSearchesCardSaid : Prop := Claim7.holds Tryd.pinned (.plain (OpenSpec.ofChange serialSearchesSpec)) serialSearchesCard

/-- THE TIED CARD OF 'recantlaw14.StrictChecks'. -/
def strictChecksCard : Claim7 := { stood := { row := strictChecksRow, standIns := [], harness := (true, "c047be635310ee404f97d6f2853049f27a1f41d7f7ca5b036d82100fe878f73f"), looks := true }, kinds := [], alts := [], laidByText := true, laidKinds := [.widerDeep], laidTests := true, laidLooks := .later }
def StrictChecksCardSaid : Prop := Claim7.holds Tryd.pinned (.plain (OpenSpec.ofChange strictChecksSpec)) strictChecksCard

/-- THE TIED CARD OF 'recantlaw13.OpaqueLeast'. -/
def opaqueLeastCard : Claim7 := { stood := { row := opaqueLeastRow, standIns := [], harness := (true, "c047be635310ee404f97d6f2853049f27a1f41d7f7ca5b036d82100fe878f73f"), looks := true }, kinds := [], alts := [], laidByText := true, laidKinds := [.widerDeep], laidTests := true, laidLooks := .later }
def OpaqueLeastCardSaid : Prop := Claim7.holds Tryd.pinned (.plain (OpenSpec.ofChange opaqueLeastSpec)) opaqueLeastCard

/-- THE TIED CARD OF 'recantlaw13.OpaqueSerial'. -/
def opaqueSerialCard : Claim7 := { stood := { row := opaqueSerialRow, standIns := [], harness := (true, "c047be635310ee404f97d6f2853049f27a1f41d7f7ca5b036d82100fe878f73f"), looks := true }, kinds := [], alts := [], laidByText := true, laidKinds := [.widerDeep], laidTests := true, laidLooks := .later }
def OpaqueSerialCardSaid : Prop := Claim7.holds Tryd.pinned (.plain (OpenSpec.ofChange opaqueSerialSpec)) opaqueSerialCard

/-- THE TIED CARD OF 'recantlaw14.StrictWider'. -/
def strictWiderCard : Claim7 := { stood := { row := strictWiderRow, standIns := [], harness := (true, "c047be635310ee404f97d6f2853049f27a1f41d7f7ca5b036d82100fe878f73f"), looks := true }, kinds := [], alts := [], laidByText := true, laidKinds := [.widerDeep], laidTests := true, laidLooks := .later }
def StrictWiderCardSaid : Prop := Claim7.holds Tryd.pinned (.plain (OpenSpec.ofChange strictWiderSpec)) strictWiderCard

/-- THE TIED CARD OF 'recantlaw12.SerialRight'. -/
def serialRightCard : Claim7 := { stood := { row := serialRightRow, standIns := [], harness := (true, "c047be635310ee404f97d6f2853049f27a1f41d7f7ca5b036d82100fe878f73f"), looks := true }, kinds := [], alts := [], laidByText := true, laidKinds := [.widerDeep], laidTests := true, laidLooks := .later }
def SerialRightCardSaid : Prop := Claim7.holds Tryd.pinned (.plain (OpenSpec.ofChange serialRightSpec)) serialRightCard

/-- THE SECOND FORM's CARD OF 'recantlaw09.CompleteEnds'. -/
def completeEndsUptoCard : Claim7 := { stood := { row := completeEndsUptoRow, standIns := [], harness := (true, "c047be635310ee404f97d6f2853049f27a1f41d7f7ca5b036d82100fe878f73f"), looks := true }, kinds := [], alts := [], laidByText := true, laidKinds := [.widerDeep], laidTests := true, laidLooks := .later }
def CompleteEndsUptoCardSaid : Prop := Claim7.holds Tryd.pinned (.plain (OpenSpec.upto completeEndsSpec)) completeEndsUptoCard

/-- THE SECOND FORM's CARD OF 'recantlaw12.SerialRows'. -/
def serialRowsUptoCard : Claim7 := { stood := { row := serialRowsUptoRow, standIns := [], harness := (true, "c047be635310ee404f97d6f2853049f27a1f41d7f7ca5b036d82100fe878f73f"), looks := true }, kinds := [], alts := [], laidByText := true, laidKinds := [.widerDeep], laidTests := true, laidLooks := .later }
def SerialRowsUptoCardSaid : Prop := Claim7.holds Tryd.pinned (.plain (OpenSpec.upto serialRowsSpec)) serialRowsUptoCard

/-- THE SECOND FORM's CARD OF 'recantlaw12.SerialPart'. -/
def serialPartUptoCard : Claim7 := { stood := { row := serialPartUptoRow, standIns := [], harness := (true, "c047be635310ee404f97d6f2853049f27a1f41d7f7ca5b036d82100fe878f73f"), looks := true }, kinds := [], alts := [], laidByText := true, laidKinds := [.widerDeep], laidTests := true, laidLooks := .later }
def SerialPartUptoCardSaid : Prop := Claim7.holds Tryd.pinned (.plain (OpenSpec.upto serialPartSpec)) serialPartUptoCard

/-- THE SECOND FORM's CARD OF 'recantlaw12.SerialSearches'. -/
def serialSearchesUptoCard : Claim7 := { stood := { row := serialSearchesUptoRow, standIns := [], harness := (true, "c047be635310ee404f97d6f2853049f27a1f41d7f7ca5b036d82100fe878f73f"), looks := true }, kinds := [], alts := [], laidByText := true, laidKinds := [.widerDeep], laidTests := true, laidLooks := .later }
def SerialSearchesUptoCardSaid : Prop := Claim7.holds Tryd.pinned (.plain (OpenSpec.upto serialSearchesSpec)) serialSearchesUptoCard

/-- THE SECOND FORM's CARD OF 'recantlaw14.StrictChecks'. -/
def strictChecksUptoCard : Claim7 := { stood := { row := strictChecksUptoRow, standIns := [], harness := (true, "c047be635310ee404f97d6f2853049f27a1f41d7f7ca5b036d82100fe878f73f"), looks := true }, kinds := [], alts := [], laidByText := true, laidKinds := [.widerDeep], laidTests := true, laidLooks := .later }
def StrictChecksUptoCardSaid : Prop := Claim7.holds Tryd.pinned (.plain (OpenSpec.upto strictChecksSpec)) strictChecksUptoCard

/-- THE SECOND FORM's CARD OF 'recantlaw13.OpaqueLeast'. -/
def opaqueLeastUptoCard : Claim7 := { stood := { row := opaqueLeastUptoRow, standIns := [], harness := (true, "c047be635310ee404f97d6f2853049f27a1f41d7f7ca5b036d82100fe878f73f"), looks := true }, kinds := [], alts := [], laidByText := true, laidKinds := [.widerDeep], laidTests := true, laidLooks := .later }
def OpaqueLeastUptoCardSaid : Prop := Claim7.holds Tryd.pinned (.plain (OpenSpec.upto opaqueLeastSpec)) opaqueLeastUptoCard

/-- THE SECOND FORM's CARD OF 'recantlaw13.OpaqueSerial'. -/
def opaqueSerialUptoCard : Claim7 := { stood := { row := opaqueSerialUptoRow, standIns := [], harness := (true, "c047be635310ee404f97d6f2853049f27a1f41d7f7ca5b036d82100fe878f73f"), looks := true }, kinds := [], alts := [], laidByText := true, laidKinds := [.widerDeep], laidTests := true, laidLooks := .later }
def OpaqueSerialUptoCardSaid : Prop := Claim7.holds Tryd.pinned (.plain (OpenSpec.upto opaqueSerialSpec)) opaqueSerialUptoCard

/-- THE SECOND FORM's CARD OF 'recantlaw14.StrictWider'. -/
def strictWiderUptoCard : Claim7 := { stood := { row := strictWiderUptoRow, standIns := [], harness := (true, "c047be635310ee404f97d6f2853049f27a1f41d7f7ca5b036d82100fe878f73f"), looks := true }, kinds := [], alts := [], laidByText := true, laidKinds := [.widerDeep], laidTests := true, laidLooks := .later }
def StrictWiderUptoCardSaid : Prop := Claim7.holds Tryd.pinned (.plain (OpenSpec.upto strictWiderSpec)) strictWiderUptoCard

/-- THE SECOND FORM's CARD OF 'recantlaw12.SerialRight'. -/
def serialRightUptoCard : Claim7 := { stood := { row := serialRightUptoRow, standIns := [], harness := (true, "c047be635310ee404f97d6f2853049f27a1f41d7f7ca5b036d82100fe878f73f"), looks := true }, kinds := [], alts := [], laidByText := true, laidKinds := [.widerDeep], laidTests := true, laidLooks := .later }
def SerialRightUptoCardSaid : Prop := Claim7.holds Tryd.pinned (.plain (OpenSpec.upto serialRightSpec)) serialRightUptoCard
end Rows
end Go.Proofs.YtmdedloggaibjaaDoor
