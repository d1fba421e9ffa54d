/-
  DERIVED. GIVEN WITH THE SEED: THE CARDS: each row of YtapjdpmbgmjjeaaGreatDoorRows.lean that lists a variable, with what it lists TIED to the program's text (the seventh form; the later family's looks); each row that meets fmt, with fmt's text TOLD by the authors' own Lean function (tested against real Go, not proved from fmt's source: count such statements apart). THE CARD IS WHAT COUNTS. Prove the row's statement (the work); the ties are given (YtapjdpmbgmjjeaaGreatDoorTie.lean); close each card by the builder's one call (the guide's Derived/Test/ToyasCard.lean, 'card_holds'). Laid BY PROGRAM, IN A SANDBOX (cutbox-door.mjs). By AI agents, Wed Nov 11 2026. No macro, syntax, notation, axiom, sorry.
-/
import Derived.Test.YtapjdpmbgmjjeaaGreatDoorRows
import GoSem.ClaimSeven
namespace Go.Proofs.YtapjdpmbgmjjeaaGreatDoor
namespace Rows

/-- THE TIED CARD OF 'recantlaw20.EarlyChecks'. -/
def earlyChecksCard : Claim7 := { stood := { row := earlyChecksRow, standIns := [], harness := (true, "69208fa2c6c2eac8275ebaf80b3a256d01135f28e317ff33233e0408ea94db07"), looks := true }, kinds := [], alts := [], laidByText := true, laidKinds := [.widerDeep], laidTests := true, laidLooks := .later }
def EarlyChecksCardSaid : Prop := Claim7.holds Tryz.pinned (.plain (OpenSpec.ofChange earlyChecksSpec)) earlyChecksCard

/-- THE TIED CARD OF 'recantlaw15.WorldOne'. -/
def worldOneCard : Claim7 := { stood := { row := worldOneRow, standIns := [], harness := (true, "69208fa2c6c2eac8275ebaf80b3a256d01135f28e317ff33233e0408ea94db07"), looks := true }, kinds := [], alts := [], laidByText := true, laidKinds := [.widerDeep], laidTests := true, laidLooks := .later }
def WorldOneCardSaid : Prop := Claim7.holds Tryz.pinned (.plain (OpenSpec.ofChange worldOneSpec)) worldOneCard

/-- THE TIED CARD OF 'recantlaw15.WorldChecks'. -/
def worldChecksCard : Claim7 := { stood := { row := worldChecksRow, standIns := [], harness := (true, "69208fa2c6c2eac8275ebaf80b3a256d01135f28e317ff33233e0408ea94db07"), looks := true }, kinds := [], alts := [], laidByText := true, laidKinds := [.widerDeep], laidTests := true, laidLooks := .later }
def WorldChecksCardSaid : Prop := Claim7.holds Tryz.pinned (.plain (OpenSpec.ofChange worldChecksSpec)) worldChecksCard

/-- THE SECOND FORM's CARD OF 'recantlaw20.EarlyChecks'. -/
def earlyChecksUptoCard : Claim7 := { stood := { row := earlyChecksUptoRow, standIns := [], harness := (true, "69208fa2c6c2eac8275ebaf80b3a256d01135f28e317ff33233e0408ea94db07"), looks := true }, kinds := [], alts := [], laidByText := true, laidKinds := [.widerDeep], laidTests := true, laidLooks := .later }
def EarlyChecksUptoCardSaid : Prop := Claim7.holds Tryz.pinned (.plain (OpenSpec.upto earlyChecksSpec)) earlyChecksUptoCard

/-- THE SECOND FORM's CARD OF 'recantlaw15.WorldOne'. -/
def worldOneUptoCard : Claim7 := { stood := { row := worldOneUptoRow, standIns := [], harness := (true, "69208fa2c6c2eac8275ebaf80b3a256d01135f28e317ff33233e0408ea94db07"), looks := true }, kinds := [], alts := [], laidByText := true, laidKinds := [.widerDeep], laidTests := true, laidLooks := .later }
def WorldOneUptoCardSaid : Prop := Claim7.holds Tryz.pinned (.plain (OpenSpec.upto worldOneSpec)) worldOneUptoCard

/-- THE SECOND FORM's CARD OF 'recantlaw15.WorldChecks'. -/
def worldChecksUptoCard : Claim7 := { stood := { row := worldChecksUptoRow, standIns := [], harness := (true, "69208fa2c6c2eac8275ebaf80b3a256d01135f28e317ff33233e0408ea94db07"), looks := true }, kinds := [], alts := [], laidByText := true, laidKinds := [.widerDeep], laidTests := true, laidLooks := .later }
def WorldChecksUptoCardSaid : Prop := Claim7.holds Tryz.pinned (.plain (OpenSpec.upto worldChecksSpec)) worldChecksUptoCard
end Rows
end Go.Proofs.YtapjdpmbgmjjeaaGreatDoor
