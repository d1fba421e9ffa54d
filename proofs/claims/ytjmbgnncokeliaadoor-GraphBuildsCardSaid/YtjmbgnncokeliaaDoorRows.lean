/-
  NARROWER THAN 'FOR EVERY INPUT', by the rows' own cells (each row's printed sentence says how): OrderGrows: laid · OrderTells: laid · OrderHolds: laid · UniqueGrows: laid · UniqueSources: laid · GraphMore: laid · GraphBuilds: laid · ProperNext: laid · ProperChecks: laid · GraphExplains: laid · ProperEach: laid · ProperGoes: laid.
  DERIVED. THE GIVEN ROWS OF THIS SEAT. 12 by the template 'for every input the law returns true; each argument reads behind the call as it read before'; 0 by the template 'total and deterministic' (their statements: YtjmbgnncokeliaaDoorTotals.lean).
  GIVEN WITH THE SEED: the statements are not yours to turn. If you find one false, say at which input.
  Laid BY PROGRAM, IN A SANDBOX (cutbox-rows.mjs): the forced cells as the released guide's own fill.sh prints them over the translation 30a8982bb6ae658d… (all of the seat's roots in one cut). By AI agents, Wed Nov 11 2026. No macro, syntax, notation, axiom, sorry.
-/
import Derived.Test.YtjmbgnncokeliaaDoorChecked
import GoSem.Claim
import GoSem.ClaimJoined
import GoSem.ClaimMapViews
import Derived.JoinedTies
import Derived.KernelRfl
namespace Go.Proofs.YtjmbgnncokeliaaDoor
/- THE CELL 'sum', in the pinned program and in every row, IS THE sha256 OF THE DUMP (.gsa) THAT YtjmbgnncokeliaaDoorProg.lean LOADS. Nothing in Lean hashes anything: it is a label: what it is worth is what the hold of that sum in a sandbox is worth. -/
noncomputable def Tryd.pinned : Pinned := { name := "ytjmbgnncokeliaadoor", sum := "30a8982bb6ae658d561033d115c19066267fcd755eaf7110195b948ffdeed454", checked := Tryd.checked }
namespace Rows
def none {H : Type} : Left H := { results := [], args := [] }

/- WHAT THE LISTED PACKAGE-LEVEL VARIABLES READ AS WHEN THE CALL BEGINS. Each datum BY PROGRAM (the guide's laid-datum.mjs) off the statement by which the dump's own 'gosem.cut.vars' lays the variable. In a bare row this is a premise. The card (YtjmbgnncokeliaaDoorCards.lean) ties it to the program's text. -/
def laid_recant_text_kinds {H : Type} : DataW H := .agg [.agg [.lit (.string [98, 101, 103, 105, 110]), .lit (.bool false), .lit (.bool false)], .agg [.lit (.string [98, 101, 103, 117, 110]), .lit (.bool false), .lit (.bool false)], .agg [.lit (.string [114, 101, 97, 100]), .lit (.bool true), .lit (.bool false)], .agg [.lit (.string [103, 111, 116]), .lit (.bool false), .lit (.bool true)], .agg [.lit (.string [119, 114, 105, 116, 101]), .lit (.bool true), .lit (.bool true)], .agg [.lit (.string [119, 114, 111, 116, 101]), .lit (.bool false), .lit (.bool false)], .agg [.lit (.string [99, 111, 109, 109, 105, 116]), .lit (.bool false), .lit (.bool false)], .agg [.lit (.string [99, 111, 109, 109, 105, 116, 116, 101, 100]), .lit (.bool false), .lit (.bool false)], .agg [.lit (.string [99, 97, 110, 99, 101, 108]), .lit (.bool false), .lit (.bool false)], .agg [.lit (.string [97, 98, 111, 114, 116, 101, 100]), .lit (.bool false), .lit (.bool false)]]

/-- 'recantlaw07.OrderGrows': WHATEVER THE INPUT: true; the input reads as it did. -/
def orderGrowsSpec : ChangeSpec := { name := "orderGrows", fn := fun _ => fun
  | [d1, d2] => { results := [.lit (.bool true)], args := [d1, d2] }
  | _ => none }
def orderGrowsRow : OpenClaim := { program := "ytjmbgnncokeliaadoor", sum := "30a8982bb6ae658d561033d115c19066267fcd755eaf7110195b948ffdeed454", func := "recant/recantlaw07.OrderGrows", spec := "orderGrows", unfollowed := true, recurses := true, named := ["recant/text.kinds"], plainKeys := false, apart := false, laid := [("recant/text.kinds", laid_recant_text_kinds)] }
def OrderGrowsSaid : Prop := orderGrowsRow.holds Tryd.pinned (OpenSpec.ofChange orderGrowsSpec)

/-- ITS FALSE NEIGHBOUR: 'it returns false'. Refute it at one input. -/
def orderGrowsWrong : ChangeSpec := { name := "orderGrows", fn := fun _ => fun
  | [d1, d2] => { results := [.lit (.bool false)], args := [d1, d2] }
  | _ => none }
def OrderGrowsWrongFalsely : Prop := orderGrowsRow.holds Tryd.pinned (OpenSpec.ofChange orderGrowsWrong)

/-- 'recantlaw07.OrderTells': WHATEVER THE INPUT: true; the input reads as it did. -/
def orderTellsSpec : ChangeSpec := { name := "orderTells", fn := fun _ => fun
  | [d1, d2, d3, d4] => { results := [.lit (.bool true)], args := [d1, d2, d3, d4] }
  | _ => none }
def orderTellsRow : OpenClaim := { program := "ytjmbgnncokeliaadoor", sum := "30a8982bb6ae658d561033d115c19066267fcd755eaf7110195b948ffdeed454", func := "recant/recantlaw07.OrderTells", spec := "orderTells", unfollowed := true, recurses := true, named := ["recant/text.kinds"], plainKeys := false, apart := false, laid := [("recant/text.kinds", laid_recant_text_kinds)] }
def OrderTellsSaid : Prop := orderTellsRow.holds Tryd.pinned (OpenSpec.ofChange orderTellsSpec)

/-- ITS FALSE NEIGHBOUR: 'it returns false'. Refute it at one input. -/
def orderTellsWrong : ChangeSpec := { name := "orderTells", fn := fun _ => fun
  | [d1, d2, d3, d4] => { results := [.lit (.bool false)], args := [d1, d2, d3, d4] }
  | _ => none }
def OrderTellsWrongFalsely : Prop := orderTellsRow.holds Tryd.pinned (OpenSpec.ofChange orderTellsWrong)

/-- 'recantlaw07.OrderHolds': WHATEVER THE INPUT: true; the input reads as it did. -/
def orderHoldsSpec : ChangeSpec := { name := "orderHolds", fn := fun _ => fun
  | [d1, d2, d3, d4, d5] => { results := [.lit (.bool true)], args := [d1, d2, d3, d4, d5] }
  | _ => none }
def orderHoldsRow : OpenClaim := { program := "ytjmbgnncokeliaadoor", sum := "30a8982bb6ae658d561033d115c19066267fcd755eaf7110195b948ffdeed454", func := "recant/recantlaw07.OrderHolds", spec := "orderHolds", unfollowed := true, recurses := true, named := ["recant/text.kinds"], plainKeys := false, apart := false, laid := [("recant/text.kinds", laid_recant_text_kinds)] }
def OrderHoldsSaid : Prop := orderHoldsRow.holds Tryd.pinned (OpenSpec.ofChange orderHoldsSpec)

/-- ITS FALSE NEIGHBOUR: 'it returns false'. Refute it at one input. -/
def orderHoldsWrong : ChangeSpec := { name := "orderHolds", fn := fun _ => fun
  | [d1, d2, d3, d4, d5] => { results := [.lit (.bool false)], args := [d1, d2, d3, d4, d5] }
  | _ => none }
def OrderHoldsWrongFalsely : Prop := orderHoldsRow.holds Tryd.pinned (OpenSpec.ofChange orderHoldsWrong)

/-- 'recantlaw16.UniqueGrows': WHATEVER THE INPUT: true; the input reads as it did. -/
def uniqueGrowsSpec : ChangeSpec := { name := "uniqueGrows", fn := fun _ => fun
  | [d1, d2] => { results := [.lit (.bool true)], args := [d1, d2] }
  | _ => none }
def uniqueGrowsRow : OpenClaim := { program := "ytjmbgnncokeliaadoor", sum := "30a8982bb6ae658d561033d115c19066267fcd755eaf7110195b948ffdeed454", func := "recant/recantlaw16.UniqueGrows", spec := "uniqueGrows", unfollowed := true, recurses := true, named := ["recant/text.kinds"], plainKeys := false, apart := false, laid := [("recant/text.kinds", laid_recant_text_kinds)] }
def UniqueGrowsSaid : Prop := uniqueGrowsRow.holds Tryd.pinned (OpenSpec.ofChange uniqueGrowsSpec)

/-- ITS FALSE NEIGHBOUR: 'it returns false'. Refute it at one input. -/
def uniqueGrowsWrong : ChangeSpec := { name := "uniqueGrows", fn := fun _ => fun
  | [d1, d2] => { results := [.lit (.bool false)], args := [d1, d2] }
  | _ => none }
def UniqueGrowsWrongFalsely : Prop := uniqueGrowsRow.holds Tryd.pinned (OpenSpec.ofChange uniqueGrowsWrong)

/-- 'recantlaw16.UniqueSources': WHATEVER THE INPUT: true; the input reads as it did. -/
def uniqueSourcesSpec : ChangeSpec := { name := "uniqueSources", fn := fun _ => fun
  | [d] => { results := [.lit (.bool true)], args := [d] }
  | _ => none }
def uniqueSourcesRow : OpenClaim := { program := "ytjmbgnncokeliaadoor", sum := "30a8982bb6ae658d561033d115c19066267fcd755eaf7110195b948ffdeed454", func := "recant/recantlaw16.UniqueSources", spec := "uniqueSources", unfollowed := true, recurses := true, named := ["recant/text.kinds"], plainKeys := false, apart := false, laid := [("recant/text.kinds", laid_recant_text_kinds)] }
def UniqueSourcesSaid : Prop := uniqueSourcesRow.holds Tryd.pinned (OpenSpec.ofChange uniqueSourcesSpec)

/-- ITS FALSE NEIGHBOUR: 'it returns false'. Refute it at one input. -/
def uniqueSourcesWrong : ChangeSpec := { name := "uniqueSources", fn := fun _ => fun
  | [d] => { results := [.lit (.bool false)], args := [d] }
  | _ => none }
def UniqueSourcesWrongFalsely : Prop := uniqueSourcesRow.holds Tryd.pinned (OpenSpec.ofChange uniqueSourcesWrong)

/-- 'recantlaw17.GraphMore': WHATEVER THE INPUT: true; the input reads as it did. -/
def graphMoreSpec : ChangeSpec := { name := "graphMore", fn := fun _ => fun
  | [d1, d2, d3, d4] => { results := [.lit (.bool true)], args := [d1, d2, d3, d4] }
  | _ => none }
def graphMoreRow : OpenClaim := { program := "ytjmbgnncokeliaadoor", sum := "30a8982bb6ae658d561033d115c19066267fcd755eaf7110195b948ffdeed454", func := "recant/recantlaw17.GraphMore", spec := "graphMore", unfollowed := true, recurses := true, named := ["recant/text.kinds"], plainKeys := false, apart := false, laid := [("recant/text.kinds", laid_recant_text_kinds)] }
def GraphMoreSaid : Prop := graphMoreRow.holds Tryd.pinned (OpenSpec.ofChange graphMoreSpec)

/-- ITS FALSE NEIGHBOUR: 'it returns false'. Refute it at one input. -/
def graphMoreWrong : ChangeSpec := { name := "graphMore", fn := fun _ => fun
  | [d1, d2, d3, d4] => { results := [.lit (.bool false)], args := [d1, d2, d3, d4] }
  | _ => none }
def GraphMoreWrongFalsely : Prop := graphMoreRow.holds Tryd.pinned (OpenSpec.ofChange graphMoreWrong)

/-- 'recantlaw17.GraphBuilds': WHATEVER THE INPUT: true; the input reads as it did. -/
def graphBuildsSpec : ChangeSpec := { name := "graphBuilds", fn := fun _ => fun
  | [d1, d2, d3] => { results := [.lit (.bool true)], args := [d1, d2, d3] }
  | _ => none }
def graphBuildsRow : OpenClaim := { program := "ytjmbgnncokeliaadoor", sum := "30a8982bb6ae658d561033d115c19066267fcd755eaf7110195b948ffdeed454", func := "recant/recantlaw17.GraphBuilds", spec := "graphBuilds", unfollowed := true, recurses := true, named := ["recant/text.kinds"], plainKeys := false, apart := false, laid := [("recant/text.kinds", laid_recant_text_kinds)] }
def GraphBuildsSaid : Prop := graphBuildsRow.holds Tryd.pinned (OpenSpec.ofChange graphBuildsSpec)

/-- ITS FALSE NEIGHBOUR: 'it returns false'. Refute it at one input. -/
def graphBuildsWrong : ChangeSpec := { name := "graphBuilds", fn := fun _ => fun
  | [d1, d2, d3] => { results := [.lit (.bool false)], args := [d1, d2, d3] }
  | _ => none }
def GraphBuildsWrongFalsely : Prop := graphBuildsRow.holds Tryd.pinned (OpenSpec.ofChange graphBuildsWrong)

/-- 'recantlaw05.ProperNext': WHATEVER THE INPUT: true; the input reads as it did. -/
def properNextSpec : ChangeSpec := { name := "properNext", fn := fun _ => fun
  | [d1, d2] => { results := [.lit (.bool true)], args := [d1, d2] }
  | _ => none }
def properNextRow : OpenClaim := { program := "ytjmbgnncokeliaadoor", sum := "30a8982bb6ae658d561033d115c19066267fcd755eaf7110195b948ffdeed454", func := "recant/recantlaw05.ProperNext", spec := "properNext", unfollowed := true, recurses := true, named := ["recant/text.kinds"], plainKeys := false, apart := false, laid := [("recant/text.kinds", laid_recant_text_kinds)] }
def ProperNextSaid : Prop := properNextRow.holds Tryd.pinned (OpenSpec.ofChange properNextSpec)

/-- ITS FALSE NEIGHBOUR: 'it returns false'. Refute it at one input. -/
def properNextWrong : ChangeSpec := { name := "properNext", fn := fun _ => fun
  | [d1, d2] => { results := [.lit (.bool false)], args := [d1, d2] }
  | _ => none }
def ProperNextWrongFalsely : Prop := properNextRow.holds Tryd.pinned (OpenSpec.ofChange properNextWrong)

/-- 'recantlaw05.ProperChecks': WHATEVER THE INPUT: true; the input reads as it did. -/
def properChecksSpec : ChangeSpec := { name := "properChecks", fn := fun _ => fun
  | [d] => { results := [.lit (.bool true)], args := [d] }
  | _ => none }
def properChecksRow : OpenClaim := { program := "ytjmbgnncokeliaadoor", sum := "30a8982bb6ae658d561033d115c19066267fcd755eaf7110195b948ffdeed454", func := "recant/recantlaw05.ProperChecks", spec := "properChecks", unfollowed := true, recurses := true, named := ["recant/text.kinds"], plainKeys := false, apart := false, laid := [("recant/text.kinds", laid_recant_text_kinds)] }
def ProperChecksSaid : Prop := properChecksRow.holds Tryd.pinned (OpenSpec.ofChange properChecksSpec)

/-- ITS FALSE NEIGHBOUR: 'it returns false'. Refute it at one input. -/
def properChecksWrong : ChangeSpec := { name := "properChecks", fn := fun _ => fun
  | [d] => { results := [.lit (.bool false)], args := [d] }
  | _ => none }
def ProperChecksWrongFalsely : Prop := properChecksRow.holds Tryd.pinned (OpenSpec.ofChange properChecksWrong)

/-- 'recantlaw17.GraphExplains': WHATEVER THE INPUT: true; the input reads as it did. -/
def graphExplainsSpec : ChangeSpec := { name := "graphExplains", fn := fun _ => fun
  | [d1, d2, d3] => { results := [.lit (.bool true)], args := [d1, d2, d3] }
  | _ => none }
def graphExplainsRow : OpenClaim := { program := "ytjmbgnncokeliaadoor", sum := "30a8982bb6ae658d561033d115c19066267fcd755eaf7110195b948ffdeed454", func := "recant/recantlaw17.GraphExplains", spec := "graphExplains", unfollowed := true, recurses := true, named := ["recant/text.kinds"], plainKeys := false, apart := false, laid := [("recant/text.kinds", laid_recant_text_kinds)] }
def GraphExplainsSaid : Prop := graphExplainsRow.holds Tryd.pinned (OpenSpec.ofChange graphExplainsSpec)

/-- ITS FALSE NEIGHBOUR: 'it returns false'. Refute it at one input. -/
def graphExplainsWrong : ChangeSpec := { name := "graphExplains", fn := fun _ => fun
  | [d1, d2, d3] => { results := [.lit (.bool false)], args := [d1, d2, d3] }
  | _ => none }
def GraphExplainsWrongFalsely : Prop := graphExplainsRow.holds Tryd.pinned (OpenSpec.ofChange graphExplainsWrong)

/-- 'recantlaw05.ProperEach': WHATEVER THE INPUT: true; the input reads as it did. -/
def properEachSpec : ChangeSpec := { name := "properEach", fn := fun _ => fun
  | [d] => { results := [.lit (.bool true)], args := [d] }
  | _ => none }
def properEachRow : OpenClaim := { program := "ytjmbgnncokeliaadoor", sum := "30a8982bb6ae658d561033d115c19066267fcd755eaf7110195b948ffdeed454", func := "recant/recantlaw05.ProperEach", spec := "properEach", unfollowed := true, recurses := true, named := ["recant/text.kinds"], plainKeys := false, apart := false, laid := [("recant/text.kinds", laid_recant_text_kinds)] }
def ProperEachSaid : Prop := properEachRow.holds Tryd.pinned (OpenSpec.ofChange properEachSpec)

/-- ITS FALSE NEIGHBOUR: 'it returns false'. Refute it at one input. -/
def properEachWrong : ChangeSpec := { name := "properEach", fn := fun _ => fun
  | [d] => { results := [.lit (.bool false)], args := [d] }
  | _ => none }
def ProperEachWrongFalsely : Prop := properEachRow.holds Tryd.pinned (OpenSpec.ofChange properEachWrong)

/-- 'recantlaw05.ProperGoes': WHATEVER THE INPUT: true; the input reads as it did. -/
def properGoesSpec : ChangeSpec := { name := "properGoes", fn := fun _ => fun
  | [d1, d2, d3] => { results := [.lit (.bool true)], args := [d1, d2, d3] }
  | _ => none }
def properGoesRow : OpenClaim := { program := "ytjmbgnncokeliaadoor", sum := "30a8982bb6ae658d561033d115c19066267fcd755eaf7110195b948ffdeed454", func := "recant/recantlaw05.ProperGoes", spec := "properGoes", unfollowed := true, recurses := true, named := ["recant/text.kinds"], plainKeys := false, apart := false, laid := [("recant/text.kinds", laid_recant_text_kinds)] }
def ProperGoesSaid : Prop := properGoesRow.holds Tryd.pinned (OpenSpec.ofChange properGoesSpec)

/-- ITS FALSE NEIGHBOUR: 'it returns false'. Refute it at one input. -/
def properGoesWrong : ChangeSpec := { name := "properGoes", fn := fun _ => fun
  | [d1, d2, d3] => { results := [.lit (.bool false)], args := [d1, d2, d3] }
  | _ => none }
def ProperGoesWrongFalsely : Prop := properGoesRow.holds Tryd.pinned (OpenSpec.ofChange properGoesWrong)

/- THE SECOND FORM. 'bulk': how many values and letters a reading holds, each counted each time it is reached (what is shared counts as often as it is met; a slice's spare places count too). A statement '..UptoSaid' is the law's where the arguments, and the package variables that the reading takes, are together of bulk at most 1048576: NARROWER than '..Said'. Prove '..Said' where nothing that the law and all that it calls make is longer than what came in: it says more and counts as full. Else prove '..UptoSaid'. A law counts once. -/
mutual
def uptoBulk {H : Type} : DataW H → Nat
  | .lit (.string bytes) => bytes.length + 1
  | .lit _ => 1
  | .nil => 1
  | .ptr d => uptoBulk d + 1
  | .slice elems spare => uptoBulkAll elems + uptoBulkAll spare + 1
  | .agg parts => uptoBulkAll parts + 1
  | .iface _ d => uptoBulk d + 1
  | .map entries => uptoBulkEntries entries + 1
  | .held _ => 1
def uptoBulkAll {H : Type} : List (DataW H) → Nat
  | [] => 0
  | d :: r => uptoBulk d + uptoBulkAll r
def uptoBulkEntries {H : Type} : List (Lit × DataW H) → Nat
  | [] => 0
  | x :: r => uptoBulkEntry x + uptoBulkEntries r
def uptoBulkEntry {H : Type} : Lit × DataW H → Nat
  | (.string bytes, d) => bytes.length + uptoBulk d + 1
  | (_, d) => uptoBulk d + 1
 end
def uptoSmall : (H : Type) → List (DataW H) → Bool := fun _ ds => decide (uptoBulkAll ds ≤ 1048576)
def OpenSpec.upto (s : _root_.Go.ChangeSpec) : _root_.Go.OpenSpec := { _root_.Go.OpenSpec.ofChange s with cond := some uptoSmall }

/-- 'recantlaw07.OrderGrows', WHERE WHAT IT READS IS OF BULK AT MOST 1048576: true; the input reads as it did. -/
def orderGrowsUptoRow : OpenClaim := { program := "ytjmbgnncokeliaadoor", sum := "30a8982bb6ae658d561033d115c19066267fcd755eaf7110195b948ffdeed454", func := "recant/recantlaw07.OrderGrows", spec := "orderGrows", unfollowed := true, recurses := true, named := ["recant/text.kinds"], plainKeys := false, apart := false, laid := [("recant/text.kinds", laid_recant_text_kinds)], narrowed := true }
def OrderGrowsUptoSaid : Prop := orderGrowsUptoRow.holds Tryd.pinned (OpenSpec.upto orderGrowsSpec)

/-- 'recantlaw07.OrderTells', WHERE WHAT IT READS IS OF BULK AT MOST 1048576: true; the input reads as it did. -/
def orderTellsUptoRow : OpenClaim := { program := "ytjmbgnncokeliaadoor", sum := "30a8982bb6ae658d561033d115c19066267fcd755eaf7110195b948ffdeed454", func := "recant/recantlaw07.OrderTells", spec := "orderTells", unfollowed := true, recurses := true, named := ["recant/text.kinds"], plainKeys := false, apart := false, laid := [("recant/text.kinds", laid_recant_text_kinds)], narrowed := true }
def OrderTellsUptoSaid : Prop := orderTellsUptoRow.holds Tryd.pinned (OpenSpec.upto orderTellsSpec)

/-- 'recantlaw07.OrderHolds', WHERE WHAT IT READS IS OF BULK AT MOST 1048576: true; the input reads as it did. -/
def orderHoldsUptoRow : OpenClaim := { program := "ytjmbgnncokeliaadoor", sum := "30a8982bb6ae658d561033d115c19066267fcd755eaf7110195b948ffdeed454", func := "recant/recantlaw07.OrderHolds", spec := "orderHolds", unfollowed := true, recurses := true, named := ["recant/text.kinds"], plainKeys := false, apart := false, laid := [("recant/text.kinds", laid_recant_text_kinds)], narrowed := true }
def OrderHoldsUptoSaid : Prop := orderHoldsUptoRow.holds Tryd.pinned (OpenSpec.upto orderHoldsSpec)

/-- 'recantlaw16.UniqueGrows', WHERE WHAT IT READS IS OF BULK AT MOST 1048576: true; the input reads as it did. -/
def uniqueGrowsUptoRow : OpenClaim := { program := "ytjmbgnncokeliaadoor", sum := "30a8982bb6ae658d561033d115c19066267fcd755eaf7110195b948ffdeed454", func := "recant/recantlaw16.UniqueGrows", spec := "uniqueGrows", unfollowed := true, recurses := true, named := ["recant/text.kinds"], plainKeys := false, apart := false, laid := [("recant/text.kinds", laid_recant_text_kinds)], narrowed := true }
def UniqueGrowsUptoSaid : Prop := uniqueGrowsUptoRow.holds Tryd.pinned (OpenSpec.upto uniqueGrowsSpec)

/-- 'recantlaw16.UniqueSources', WHERE WHAT IT READS IS OF BULK AT MOST 1048576: true; the input reads as it did. -/
def uniqueSourcesUptoRow : OpenClaim := { program := "ytjmbgnncokeliaadoor", sum := "30a8982bb6ae658d561033d115c19066267fcd755eaf7110195b948ffdeed454", func := "recant/recantlaw16.UniqueSources", spec := "uniqueSources", unfollowed := true, recurses := true, named := ["recant/text.kinds"], plainKeys := false, apart := false, laid := [("recant/text.kinds", laid_recant_text_kinds)], narrowed := true }
def UniqueSourcesUptoSaid : Prop := uniqueSourcesUptoRow.holds Tryd.pinned (OpenSpec.upto uniqueSourcesSpec)

/-- 'recantlaw17.GraphMore', WHERE WHAT IT READS IS OF BULK AT MOST 1048576: true; the input reads as it did. -/
def graphMoreUptoRow : OpenClaim := { program := "ytjmbgnncokeliaadoor", sum := "30a8982bb6ae658d561033d115c19066267fcd755eaf7110195b948ffdeed454", func := "recant/recantlaw17.GraphMore", spec := "graphMore", unfollowed := true, recurses := true, named := ["recant/text.kinds"], plainKeys := false, apart := false, laid := [("recant/text.kinds", laid_recant_text_kinds)], narrowed := true }
def GraphMoreUptoSaid : Prop := graphMoreUptoRow.holds Tryd.pinned (OpenSpec.upto graphMoreSpec)

/-- 'recantlaw17.GraphBuilds', WHERE WHAT IT READS IS OF BULK AT MOST 1048576: true; the input reads as it did. -/
def graphBuildsUptoRow : OpenClaim := { program := "ytjmbgnncokeliaadoor", sum := "30a8982bb6ae658d561033d115c19066267fcd755eaf7110195b948ffdeed454", func := "recant/recantlaw17.GraphBuilds", spec := "graphBuilds", unfollowed := true, recurses := true, named := ["recant/text.kinds"], plainKeys := false, apart := false, laid := [("recant/text.kinds", laid_recant_text_kinds)], narrowed := true }
def GraphBuildsUptoSaid : Prop := graphBuildsUptoRow.holds Tryd.pinned (OpenSpec.upto graphBuildsSpec)

/-- 'recantlaw05.ProperNext', WHERE WHAT IT READS IS OF BULK AT MOST 1048576: true; the input reads as it did. -/
def properNextUptoRow : OpenClaim := { program := "ytjmbgnncokeliaadoor", sum := "30a8982bb6ae658d561033d115c19066267fcd755eaf7110195b948ffdeed454", func := "recant/recantlaw05.ProperNext", spec := "properNext", unfollowed := true, recurses := true, named := ["recant/text.kinds"], plainKeys := false, apart := false, laid := [("recant/text.kinds", laid_recant_text_kinds)], narrowed := true }
def ProperNextUptoSaid : Prop := properNextUptoRow.holds Tryd.pinned (OpenSpec.upto properNextSpec)

/-- 'recantlaw05.ProperChecks', WHERE WHAT IT READS IS OF BULK AT MOST 1048576: true; the input reads as it did. -/
def properChecksUptoRow : OpenClaim := { program := "ytjmbgnncokeliaadoor", sum := "30a8982bb6ae658d561033d115c19066267fcd755eaf7110195b948ffdeed454", func := "recant/recantlaw05.ProperChecks", spec := "properChecks", unfollowed := true, recurses := true, named := ["recant/text.kinds"], plainKeys := false, apart := false, laid := [("recant/text.kinds", laid_recant_text_kinds)], narrowed := true }
def ProperChecksUptoSaid : Prop := properChecksUptoRow.holds Tryd.pinned (OpenSpec.upto properChecksSpec)

/-- 'recantlaw17.GraphExplains', WHERE WHAT IT READS IS OF BULK AT MOST 1048576: true; the input reads as it did. -/
def graphExplainsUptoRow : OpenClaim := { program := "ytjmbgnncokeliaadoor", sum := "30a8982bb6ae658d561033d115c19066267fcd755eaf7110195b948ffdeed454", func := "recant/recantlaw17.GraphExplains", spec := "graphExplains", unfollowed := true, recurses := true, named := ["recant/text.kinds"], plainKeys := false, apart := false, laid := [("recant/text.kinds", laid_recant_text_kinds)], narrowed := true }
def GraphExplainsUptoSaid : Prop := graphExplainsUptoRow.holds Tryd.pinned (OpenSpec.upto graphExplainsSpec)

/-- 'recantlaw05.ProperEach', WHERE WHAT IT READS IS OF BULK AT MOST 1048576: true; the input reads as it did. -/
def properEachUptoRow : OpenClaim := { program := "ytjmbgnncokeliaadoor", sum := "30a8982bb6ae658d561033d115c19066267fcd755eaf7110195b948ffdeed454", func := "recant/recantlaw05.ProperEach", spec := "properEach", unfollowed := true, recurses := true, named := ["recant/text.kinds"], plainKeys := false, apart := false, laid := [("recant/text.kinds", laid_recant_text_kinds)], narrowed := true }
def ProperEachUptoSaid : Prop := properEachUptoRow.holds Tryd.pinned (OpenSpec.upto properEachSpec)

/-- 'recantlaw05.ProperGoes', WHERE WHAT IT READS IS OF BULK AT MOST 1048576: true; the input reads as it did. -/
def properGoesUptoRow : OpenClaim := { program := "ytjmbgnncokeliaadoor", sum := "30a8982bb6ae658d561033d115c19066267fcd755eaf7110195b948ffdeed454", func := "recant/recantlaw05.ProperGoes", spec := "properGoes", unfollowed := true, recurses := true, named := ["recant/text.kinds"], plainKeys := false, apart := false, laid := [("recant/text.kinds", laid_recant_text_kinds)], narrowed := true }
def ProperGoesUptoSaid : Prop := properGoesUptoRow.holds Tryd.pinned (OpenSpec.upto properGoesSpec)

end Rows
end Go.Proofs.YtjmbgnncokeliaaDoor
