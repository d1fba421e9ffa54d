/-
  DERIVED. GIVEN WITH THE SEED: THE CARDS: each row of YtmdedloggaibjaaGreatDoorRows.lean that lists a variable, with what it lists TIED to the program's text (the seventh form; the later family's looks); each row that meets fmt, with fmt's text TOLD by the authors' own Lean function (tested against real Go, not proved from fmt's source: count such statements apart). THE CARD IS WHAT COUNTS. Prove the row's statement (the work); the ties are given (YtmdedloggaibjaaGreatDoorTie.lean); close each card by the builder's one call (the guide's Derived/Test/ToyasCard.lean, 'card_holds'). Laid BY PROGRAM, IN A SANDBOX (cutbox-door.mjs). By AI agents, Wed Nov 11 2026. No macro, syntax, notation, axiom, sorry.
-/
import Derived.Test.YtmdedloggaibjaaGreatDoorRows
import GoSem.ClaimSeven
namespace Go.Proofs.YtmdedloggaibjaaGreatDoor
namespace Rows

/-- THE TIED CARD OF 'recantlaw13.OpaqueChecks'. -/
def opaqueChecksCard : Claim7 := { stood := { row := opaqueChecksRow, standIns := [], harness := (true, "0a90bbed278032a7604b49dad96e04f60ff6970f9a521a9988229040851444a4"), looks := true }, kinds := [], alts := [], laidByText := true, laidKinds := [.widerDeep], laidTests := true, laidLooks := .later }
def OpaqueChecksCardSaid : Prop := Claim7.holds Tryz.pinned (.plain (OpenSpec.ofChange opaqueChecksSpec)) opaqueChecksCard

/-- THE SECOND FORM's CARD OF 'recantlaw13.OpaqueChecks'. -/
def opaqueChecksUptoCard : Claim7 := { stood := { row := opaqueChecksUptoRow, standIns := [], harness := (true, "0a90bbed278032a7604b49dad96e04f60ff6970f9a521a9988229040851444a4"), looks := true }, kinds := [], alts := [], laidByText := true, laidKinds := [.widerDeep], laidTests := true, laidLooks := .later }
def OpaqueChecksUptoCardSaid : Prop := Claim7.holds Tryz.pinned (.plain (OpenSpec.upto opaqueChecksSpec)) opaqueChecksUptoCard
end Rows
end Go.Proofs.YtmdedloggaibjaaGreatDoor
