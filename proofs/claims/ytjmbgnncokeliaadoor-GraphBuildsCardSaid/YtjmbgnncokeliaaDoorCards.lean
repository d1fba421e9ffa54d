/-
  DERIVED. GIVEN WITH THE SEED: THE CARDS: each row of YtjmbgnncokeliaaDoorRows.lean that lists a variable, with what it lists TIED to the program's text (the seventh form; the later family's looks); each row that meets fmt, with fmt's text TOLD by the authors' own Lean function (tested against real Go, not proved from fmt's source: count such statements apart). THE CARD IS WHAT COUNTS. Prove the row's statement (the work); the ties are given (YtjmbgnncokeliaaDoorTie.lean); close each card by the builder's one call (the guide's Derived/Test/ToyasCard.lean, 'card_holds'). Laid BY PROGRAM, IN A SANDBOX (cutbox-door.mjs). By AI agents, Wed Nov 11 2026. No macro, syntax, notation, axiom, sorry.
-/
import Derived.Test.YtjmbgnncokeliaaDoorRows
import GoSem.ClaimSeven
namespace Go.Proofs.YtjmbgnncokeliaaDoor
namespace Rows

/-- THE TIED CARD OF 'recantlaw07.OrderGrows'. -/
def orderGrowsCard : Claim7 := { stood := { row := orderGrowsRow, standIns := [], harness := (true, "60f5019e461403b4d37feca27e8e78cf117b26b86c5b96795d02450f1d86111c"), looks := false }, kinds := [], alts := [], laidByText := true, laidKinds := [.widerDeep], laidTests := true, laidLooks := .later }
def OrderGrowsCardSaid : Prop := Claim7.holds Tryd.pinned (.plain (OpenSpec.ofChange orderGrowsSpec)) orderGrowsCard

/-- THE TIED CARD OF 'recantlaw07.OrderTells'. -/
def orderTellsCard : Claim7 := { stood := { row := orderTellsRow, standIns := [], harness := (true, "60f5019e461403b4d37feca27e8e78cf117b26b86c5b96795d02450f1d86111c"), looks := false }, kinds := [], alts := [], laidByText := true, laidKinds := [.widerDeep], laidTests := true, laidLooks := .later }
def OrderTellsCardSaid : Prop := Claim7.holds Tryd.pinned (.plain (OpenSpec.ofChange orderTellsSpec)) orderTellsCard

/-- THE TIED CARD OF 'recantlaw07.OrderHolds'. -/
def orderHoldsCard : Claim7 := { stood := { row := orderHoldsRow, standIns := [], harness := (true, "60f5019e461403b4d37feca27e8e78cf117b26b86c5b96795d02450f1d86111c"), looks := false }, kinds := [], alts := [], laidByText := true, laidKinds := [.widerDeep], laidTests := true, laidLooks := .later }
def OrderHoldsCardSaid : Prop := Claim7.holds Tryd.pinned (.plain (OpenSpec.ofChange orderHoldsSpec)) orderHoldsCard

/-- THE TIED CARD OF 'recantlaw16.UniqueGrows'. -/
def uniqueGrowsCard : Claim7 := { stood := { row := uniqueGrowsRow, standIns := [], harness := (true, "60f5019e461403b4d37feca27e8e78cf117b26b86c5b96795d02450f1d86111c"), looks := false }, kinds := [], alts := [], laidByText := true, laidKinds := [.widerDeep], laidTests := true, laidLooks := .later }
def UniqueGrowsCardSaid : Prop := Claim7.holds Tryd.pinned (.plain (OpenSpec.ofChange uniqueGrowsSpec)) uniqueGrowsCard

/-- THE TIED CARD OF 'recantlaw16.UniqueSources'. -/
def uniqueSourcesCard : Claim7 := { stood := { row := uniqueSourcesRow, standIns := [], harness := (true, "60f5019e461403b4d37feca27e8e78cf117b26b86c5b96795d02450f1d86111c"), looks := false }, kinds := [], alts := [], laidByText := true, laidKinds := [.widerDeep], laidTests := true, laidLooks := .later }
def UniqueSourcesCardSaid : Prop := Claim7.holds Tryd.pinned (.plain (OpenSpec.ofChange uniqueSourcesSpec)) uniqueSourcesCard

/-- THE TIED CARD OF 'recantlaw17.GraphMore'. -/
def graphMoreCard : Claim7 := { stood := { row := graphMoreRow, standIns := [], harness := (true, "60f5019e461403b4d37feca27e8e78cf117b26b86c5b96795d02450f1d86111c"), looks := false }, kinds := [], alts := [], laidByText := true, laidKinds := [.widerDeep], laidTests := true, laidLooks := .later }
def GraphMoreCardSaid : Prop := Claim7.holds Tryd.pinned (.plain (OpenSpec.ofChange graphMoreSpec)) graphMoreCard

/-- THE TIED CARD OF 'recantlaw17.GraphBuilds'. -/
def graphBuildsCard : Claim7 := { stood := { row := graphBuildsRow, standIns := [], harness := (true, "60f5019e461403b4d37feca27e8e78cf117b26b86c5b96795d02450f1d86111c"), looks := false }, kinds := [], alts := [], laidByText := true, laidKinds := [.widerDeep], laidTests := true, laidLooks := .later }
def GraphBuildsCardSaid : Prop := Claim7.holds Tryd.pinned (.plain (OpenSpec.ofChange graphBuildsSpec)) graphBuildsCard

/-- THE TIED CARD OF 'recantlaw05.ProperNext'. -/
def properNextCard : Claim7 := { stood := { row := properNextRow, standIns := [], harness := (true, "60f5019e461403b4d37feca27e8e78cf117b26b86c5b96795d02450f1d86111c"), looks := false }, kinds := [], alts := [], laidByText := true, laidKinds := [.widerDeep], laidTests := true, laidLooks := .later }
def ProperNextCardSaid : Prop := Claim7.holds Tryd.pinned (.plain (OpenSpec.ofChange properNextSpec)) properNextCard

/-- THE TIED CARD OF 'recantlaw05.ProperChecks'. -/
def properChecksCard : Claim7 := { stood := { row := properChecksRow, standIns := [], harness := (true, "60f5019e461403b4d37feca27e8e78cf117b26b86c5b96795d02450f1d86111c"), looks := false }, kinds := [], alts := [], laidByText := true, laidKinds := [.widerDeep], laidTests := true, laidLooks := .later }
def ProperChecksCardSaid : Prop := Claim7.holds Tryd.pinned (.plain (OpenSpec.ofChange properChecksSpec)) properChecksCard

/-- THE TIED CARD OF 'recantlaw17.GraphExplains'. -/
def graphExplainsCard : Claim7 := { stood := { row := graphExplainsRow, standIns := [], harness := (true, "60f5019e461403b4d37feca27e8e78cf117b26b86c5b96795d02450f1d86111c"), looks := false }, kinds := [], alts := [], laidByText := true, laidKinds := [.widerDeep], laidTests := true, laidLooks := .later }
def GraphExplainsCardSaid : Prop := Claim7.holds Tryd.pinned (.plain (OpenSpec.ofChange graphExplainsSpec)) graphExplainsCard

/-- THE TIED CARD OF 'recantlaw05.ProperEach'. -/
def properEachCard : Claim7 := { stood := { row := properEachRow, standIns := [], harness := (true, "60f5019e461403b4d37feca27e8e78cf117b26b86c5b96795d02450f1d86111c"), looks := false }, kinds := [], alts := [], laidByText := true, laidKinds := [.widerDeep], laidTests := true, laidLooks := .later }
def ProperEachCardSaid : Prop := Claim7.holds Tryd.pinned (.plain (OpenSpec.ofChange properEachSpec)) properEachCard

/-- THE TIED CARD OF 'recantlaw05.ProperGoes'. -/
def properGoesCard : Claim7 := { stood := { row := properGoesRow, standIns := [], harness := (true, "60f5019e461403b4d37feca27e8e78cf117b26b86c5b96795d02450f1d86111c"), looks := false }, kinds := [], alts := [], laidByText := true, laidKinds := [.widerDeep], laidTests := true, laidLooks := .later }
def ProperGoesCardSaid : Prop := Claim7.holds Tryd.pinned (.plain (OpenSpec.ofChange properGoesSpec)) properGoesCard

/-- THE SECOND FORM's CARD OF 'recantlaw07.OrderGrows'. -/
def orderGrowsUptoCard : Claim7 := { stood := { row := orderGrowsUptoRow, standIns := [], harness := (true, "60f5019e461403b4d37feca27e8e78cf117b26b86c5b96795d02450f1d86111c"), looks := false }, kinds := [], alts := [], laidByText := true, laidKinds := [.widerDeep], laidTests := true, laidLooks := .later }
def OrderGrowsUptoCardSaid : Prop := Claim7.holds Tryd.pinned (.plain (OpenSpec.upto orderGrowsSpec)) orderGrowsUptoCard

/-- THE SECOND FORM's CARD OF 'recantlaw07.OrderTells'. -/
def orderTellsUptoCard : Claim7 := { stood := { row := orderTellsUptoRow, standIns := [], harness := (true, "60f5019e461403b4d37feca27e8e78cf117b26b86c5b96795d02450f1d86111c"), looks := false }, kinds := [], alts := [], laidByText := true, laidKinds := [.widerDeep], laidTests := true, laidLooks := .later }
def OrderTellsUptoCardSaid : Prop := Claim7.holds Tryd.pinned (.plain (OpenSpec.upto orderTellsSpec)) orderTellsUptoCard

/-- THE SECOND FORM's CARD OF 'recantlaw07.OrderHolds'. -/
def orderHoldsUptoCard : Claim7 := { stood := { row := orderHoldsUptoRow, standIns := [], harness := (true, "60f5019e461403b4d37feca27e8e78cf117b26b86c5b96795d02450f1d86111c"), looks := false }, kinds := [], alts := [], laidByText := true, laidKinds := [.widerDeep], laidTests := true, laidLooks := .later }
def OrderHoldsUptoCardSaid : Prop := Claim7.holds Tryd.pinned (.plain (OpenSpec.upto orderHoldsSpec)) orderHoldsUptoCard

/-- THE SECOND FORM's CARD OF 'recantlaw16.UniqueGrows'. -/
def uniqueGrowsUptoCard : Claim7 := { stood := { row := uniqueGrowsUptoRow, standIns := [], harness := (true, "60f5019e461403b4d37feca27e8e78cf117b26b86c5b96795d02450f1d86111c"), looks := false }, kinds := [], alts := [], laidByText := true, laidKinds := [.widerDeep], laidTests := true, laidLooks := .later }
def UniqueGrowsUptoCardSaid : Prop := Claim7.holds Tryd.pinned (.plain (OpenSpec.upto uniqueGrowsSpec)) uniqueGrowsUptoCard

/-- THE SECOND FORM's CARD OF 'recantlaw16.UniqueSources'. -/
def uniqueSourcesUptoCard : Claim7 := { stood := { row := uniqueSourcesUptoRow, standIns := [], harness := (true, "60f5019e461403b4d37feca27e8e78cf117b26b86c5b96795d02450f1d86111c"), looks := false }, kinds := [], alts := [], laidByText := true, laidKinds := [.widerDeep], laidTests := true, laidLooks := .later }
def UniqueSourcesUptoCardSaid : Prop := Claim7.holds Tryd.pinned (.plain (OpenSpec.upto uniqueSourcesSpec)) uniqueSourcesUptoCard

/-- THE SECOND FORM's CARD OF 'recantlaw17.GraphMore'. -/
def graphMoreUptoCard : Claim7 := { stood := { row := graphMoreUptoRow, standIns := [], harness := (true, "60f5019e461403b4d37feca27e8e78cf117b26b86c5b96795d02450f1d86111c"), looks := false }, kinds := [], alts := [], laidByText := true, laidKinds := [.widerDeep], laidTests := true, laidLooks := .later }
def GraphMoreUptoCardSaid : Prop := Claim7.holds Tryd.pinned (.plain (OpenSpec.upto graphMoreSpec)) graphMoreUptoCard

/-- THE SECOND FORM's CARD OF 'recantlaw17.GraphBuilds'. -/
def graphBuildsUptoCard : Claim7 := { stood := { row := graphBuildsUptoRow, standIns := [], harness := (true, "60f5019e461403b4d37feca27e8e78cf117b26b86c5b96795d02450f1d86111c"), looks := false }, kinds := [], alts := [], laidByText := true, laidKinds := [.widerDeep], laidTests := true, laidLooks := .later }
def GraphBuildsUptoCardSaid : Prop := Claim7.holds Tryd.pinned (.plain (OpenSpec.upto graphBuildsSpec)) graphBuildsUptoCard

/-- THE SECOND FORM's CARD OF 'recantlaw05.ProperNext'. -/
def properNextUptoCard : Claim7 := { stood := { row := properNextUptoRow, standIns := [], harness := (true, "60f5019e461403b4d37feca27e8e78cf117b26b86c5b96795d02450f1d86111c"), looks := false }, kinds := [], alts := [], laidByText := true, laidKinds := [.widerDeep], laidTests := true, laidLooks := .later }
def ProperNextUptoCardSaid : Prop := Claim7.holds Tryd.pinned (.plain (OpenSpec.upto properNextSpec)) properNextUptoCard

/-- THE SECOND FORM's CARD OF 'recantlaw05.ProperChecks'. -/
def properChecksUptoCard : Claim7 := { stood := { row := properChecksUptoRow, standIns := [], harness := (true, "60f5019e461403b4d37feca27e8e78cf117b26b86c5b96795d02450f1d86111c"), looks := false }, kinds := [], alts := [], laidByText := true, laidKinds := [.widerDeep], laidTests := true, laidLooks := .later }
def ProperChecksUptoCardSaid : Prop := Claim7.holds Tryd.pinned (.plain (OpenSpec.upto properChecksSpec)) properChecksUptoCard

/-- THE SECOND FORM's CARD OF 'recantlaw17.GraphExplains'. -/
def graphExplainsUptoCard : Claim7 := { stood := { row := graphExplainsUptoRow, standIns := [], harness := (true, "60f5019e461403b4d37feca27e8e78cf117b26b86c5b96795d02450f1d86111c"), looks := false }, kinds := [], alts := [], laidByText := true, laidKinds := [.widerDeep], laidTests := true, laidLooks := .later }
def GraphExplainsUptoCardSaid : Prop := Claim7.holds Tryd.pinned (.plain (OpenSpec.upto graphExplainsSpec)) graphExplainsUptoCard

/-- THE SECOND FORM's CARD OF 'recantlaw05.ProperEach'. -/
def properEachUptoCard : Claim7 := { stood := { row := properEachUptoRow, standIns := [], harness := (true, "60f5019e461403b4d37feca27e8e78cf117b26b86c5b96795d02450f1d86111c"), looks := false }, kinds := [], alts := [], laidByText := true, laidKinds := [.widerDeep], laidTests := true, laidLooks := .later }
def ProperEachUptoCardSaid : Prop := Claim7.holds Tryd.pinned (.plain (OpenSpec.upto properEachSpec)) properEachUptoCard

/-- THE SECOND FORM's CARD OF 'recantlaw05.ProperGoes'. -/
def properGoesUptoCard : Claim7 := { stood := { row := properGoesUptoRow, standIns := [], harness := (true, "60f5019e461403b4d37feca27e8e78cf117b26b86c5b96795d02450f1d86111c"), looks := false }, kinds := [], alts := [], laidByText := true, laidKinds := [.widerDeep], laidTests := true, laidLooks := .later }
def ProperGoesUptoCardSaid : Prop := Claim7.holds Tryd.pinned (.plain (OpenSpec.upto properGoesSpec)) properGoesUptoCard
end Rows
end Go.Proofs.YtjmbgnncokeliaaDoor
