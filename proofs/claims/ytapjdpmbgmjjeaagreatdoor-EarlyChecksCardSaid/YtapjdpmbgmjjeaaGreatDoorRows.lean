/-
  NARROWER THAN 'FOR EVERY INPUT', by the rows' own cells (each row's printed sentence says how): EarlyChecks: laid · WorldOne: laid · WorldChecks: laid.
  DERIVED. THE GIVEN ROWS OF THIS SEAT. 3 by the template 'for every input the law returns true; each argument reads behind the call as it read before'; 0 by the template 'total and deterministic' (their statements: YtapjdpmbgmjjeaaGreatDoorTotals.lean).
  GIVEN WITH THE SEED: the statements are not yours to turn. If you find one false, say at which input.
  Laid BY PROGRAM, IN A SANDBOX (cutbox-rows.mjs): the forced cells as the released guide's own fill.sh prints them over the translation ca084042998d1773… (all of the seat's roots in one cut). By AI agents, Wed Nov 11 2026. No macro, syntax, notation, axiom, sorry.
-/
import Derived.Test.YtapjdpmbgmjjeaaGreatDoorChecked
import GoSem.Claim
import GoSem.ClaimJoined
import GoSem.ClaimMapViews
import Derived.JoinedTies
import Derived.KernelRfl
namespace Go.Proofs.YtapjdpmbgmjjeaaGreatDoor
/- THE CELL 'sum', in the pinned program and in every row, IS THE sha256 OF THE DUMP (.gsa) THAT YtapjdpmbgmjjeaaGreatDoorProg.lean LOADS. Nothing in Lean hashes anything: it is a label: what it is worth is what the hold of that sum in a sandbox is worth. -/
noncomputable def Tryz.pinned : Pinned := { name := "ytapjdpmbgmjjeaagreatdoor", sum := "ca084042998d1773626fca7958c40ac6b1351edc9ca30e255ff5733232fb6c23", checked := Tryz.checked }
namespace Rows
def none {H : Type} : Left H := { results := [], args := [] }

/- WHAT THE LISTED PACKAGE-LEVEL VARIABLES READ AS WHEN THE CALL BEGINS. Each datum BY PROGRAM (the guide's laid-datum.mjs) off the statement by which the dump's own 'gosem.cut.vars' lays the variable. In a bare row this is a premise. The card (YtapjdpmbgmjjeaaGreatDoorCards.lean) ties it to the program's text. -/
def laid_recant_text_kinds {H : Type} : DataW H := .agg [.agg [.lit (.string [98, 101, 103, 105, 110]), .lit (.bool false), .lit (.bool false)], .agg [.lit (.string [98, 101, 103, 117, 110]), .lit (.bool false), .lit (.bool false)], .agg [.lit (.string [114, 101, 97, 100]), .lit (.bool true), .lit (.bool false)], .agg [.lit (.string [103, 111, 116]), .lit (.bool false), .lit (.bool true)], .agg [.lit (.string [119, 114, 105, 116, 101]), .lit (.bool true), .lit (.bool true)], .agg [.lit (.string [119, 114, 111, 116, 101]), .lit (.bool false), .lit (.bool false)], .agg [.lit (.string [99, 111, 109, 109, 105, 116]), .lit (.bool false), .lit (.bool false)], .agg [.lit (.string [99, 111, 109, 109, 105, 116, 116, 101, 100]), .lit (.bool false), .lit (.bool false)], .agg [.lit (.string [99, 97, 110, 99, 101, 108]), .lit (.bool false), .lit (.bool false)], .agg [.lit (.string [97, 98, 111, 114, 116, 101, 100]), .lit (.bool false), .lit (.bool false)]]

/-- 'recantlaw20.EarlyChecks': WHATEVER THE INPUT: true; the input reads as it did. -/
def earlyChecksSpec : ChangeSpec := { name := "earlyChecks", fn := fun _ => fun
  | [d1, d2, d3, d4] => { results := [.lit (.bool true)], args := [d1, d2, d3, d4] }
  | _ => none }
def earlyChecksRow : OpenClaim := { program := "ytapjdpmbgmjjeaagreatdoor", sum := "ca084042998d1773626fca7958c40ac6b1351edc9ca30e255ff5733232fb6c23", func := "recant/recantlaw20.EarlyChecks", spec := "earlyChecks", unfollowed := true, recurses := true, named := ["recant/text.kinds"], apart := false, laid := [("recant/text.kinds", laid_recant_text_kinds)] }
def EarlyChecksSaid : Prop := earlyChecksRow.holds Tryz.pinned (OpenSpec.ofChange earlyChecksSpec)

/-- ITS FALSE NEIGHBOUR: 'it returns false'. Refute it at one input. -/
def earlyChecksWrong : ChangeSpec := { name := "earlyChecks", fn := fun _ => fun
  | [d1, d2, d3, d4] => { results := [.lit (.bool false)], args := [d1, d2, d3, d4] }
  | _ => none }
def EarlyChecksWrongFalsely : Prop := earlyChecksRow.holds Tryz.pinned (OpenSpec.ofChange earlyChecksWrong)

/-- 'recantlaw15.WorldOne': WHATEVER THE INPUT: true; the input reads as it did. -/
def worldOneSpec : ChangeSpec := { name := "worldOne", fn := fun _ => fun
  | [d1, d2, d3, d4] => { results := [.lit (.bool true)], args := [d1, d2, d3, d4] }
  | _ => none }
def worldOneRow : OpenClaim := { program := "ytapjdpmbgmjjeaagreatdoor", sum := "ca084042998d1773626fca7958c40ac6b1351edc9ca30e255ff5733232fb6c23", func := "recant/recantlaw15.WorldOne", spec := "worldOne", unfollowed := true, recurses := true, named := ["recant/text.kinds"], apart := false, laid := [("recant/text.kinds", laid_recant_text_kinds)] }
def WorldOneSaid : Prop := worldOneRow.holds Tryz.pinned (OpenSpec.ofChange worldOneSpec)

/-- ITS FALSE NEIGHBOUR: 'it returns false'. Refute it at one input. -/
def worldOneWrong : ChangeSpec := { name := "worldOne", fn := fun _ => fun
  | [d1, d2, d3, d4] => { results := [.lit (.bool false)], args := [d1, d2, d3, d4] }
  | _ => none }
def WorldOneWrongFalsely : Prop := worldOneRow.holds Tryz.pinned (OpenSpec.ofChange worldOneWrong)

/-- 'recantlaw15.WorldChecks': WHATEVER THE INPUT: true; the input reads as it did. -/
def worldChecksSpec : ChangeSpec := { name := "worldChecks", fn := fun _ => fun
  | [d1, d2, d3, d4] => { results := [.lit (.bool true)], args := [d1, d2, d3, d4] }
  | _ => none }
def worldChecksRow : OpenClaim := { program := "ytapjdpmbgmjjeaagreatdoor", sum := "ca084042998d1773626fca7958c40ac6b1351edc9ca30e255ff5733232fb6c23", func := "recant/recantlaw15.WorldChecks", spec := "worldChecks", unfollowed := true, recurses := true, named := ["recant/text.kinds"], apart := false, laid := [("recant/text.kinds", laid_recant_text_kinds)] }
def WorldChecksSaid : Prop := worldChecksRow.holds Tryz.pinned (OpenSpec.ofChange worldChecksSpec)

/-- ITS FALSE NEIGHBOUR: 'it returns false'. Refute it at one input. -/
def worldChecksWrong : ChangeSpec := { name := "worldChecks", fn := fun _ => fun
  | [d1, d2, d3, d4] => { results := [.lit (.bool false)], args := [d1, d2, d3, d4] }
  | _ => none }
def WorldChecksWrongFalsely : Prop := worldChecksRow.holds Tryz.pinned (OpenSpec.ofChange worldChecksWrong)

/- THE SECOND FORM. 'bulk': how many values and letters a reading holds, each counted each time it is reached (what is shared counts as often as it is met; a slice's spare places count too). A statement '..UptoSaid' is the law's where the arguments, and the package variables that the reading takes, are together of bulk at most 1048576: NARROWER than '..Said'. Prove '..Said' where nothing that the law and all that it calls make is longer than what came in: it says more and counts as full. Else prove '..UptoSaid'. A law counts once. -/
mutual
def uptoBulk {H : Type} : DataW H → Nat
  | .lit (.string bytes) => bytes.length + 1
  | .lit _ => 1
  | .nil => 1
  | .ptr d => uptoBulk d + 1
  | .slice elems spare => uptoBulkAll elems + uptoBulkAll spare + 1
  | .agg parts => uptoBulkAll parts + 1
  | .iface _ d => uptoBulk d + 1
  | .map entries => uptoBulkEntries entries + 1
  | .held _ => 1
def uptoBulkAll {H : Type} : List (DataW H) → Nat
  | [] => 0
  | d :: r => uptoBulk d + uptoBulkAll r
def uptoBulkEntries {H : Type} : List (Lit × DataW H) → Nat
  | [] => 0
  | x :: r => uptoBulkEntry x + uptoBulkEntries r
def uptoBulkEntry {H : Type} : Lit × DataW H → Nat
  | (.string bytes, d) => bytes.length + uptoBulk d + 1
  | (_, d) => uptoBulk d + 1
 end
def uptoSmall : (H : Type) → List (DataW H) → Bool := fun _ ds => decide (uptoBulkAll ds ≤ 1048576)
def OpenSpec.upto (s : _root_.Go.ChangeSpec) : _root_.Go.OpenSpec := { _root_.Go.OpenSpec.ofChange s with cond := some uptoSmall }

/-- 'recantlaw20.EarlyChecks', WHERE WHAT IT READS IS OF BULK AT MOST 1048576: true; the input reads as it did. -/
def earlyChecksUptoRow : OpenClaim := { program := "ytapjdpmbgmjjeaagreatdoor", sum := "ca084042998d1773626fca7958c40ac6b1351edc9ca30e255ff5733232fb6c23", func := "recant/recantlaw20.EarlyChecks", spec := "earlyChecks", unfollowed := true, recurses := true, named := ["recant/text.kinds"], apart := false, laid := [("recant/text.kinds", laid_recant_text_kinds)], narrowed := true }
def EarlyChecksUptoSaid : Prop := earlyChecksUptoRow.holds Tryz.pinned (OpenSpec.upto earlyChecksSpec)

/-- 'recantlaw15.WorldOne', WHERE WHAT IT READS IS OF BULK AT MOST 1048576: true; the input reads as it did. -/
def worldOneUptoRow : OpenClaim := { program := "ytapjdpmbgmjjeaagreatdoor", sum := "ca084042998d1773626fca7958c40ac6b1351edc9ca30e255ff5733232fb6c23", func := "recant/recantlaw15.WorldOne", spec := "worldOne", unfollowed := true, recurses := true, named := ["recant/text.kinds"], apart := false, laid := [("recant/text.kinds", laid_recant_text_kinds)], narrowed := true }
def WorldOneUptoSaid : Prop := worldOneUptoRow.holds Tryz.pinned (OpenSpec.upto worldOneSpec)

/-- 'recantlaw15.WorldChecks', WHERE WHAT IT READS IS OF BULK AT MOST 1048576: true; the input reads as it did. -/
def worldChecksUptoRow : OpenClaim := { program := "ytapjdpmbgmjjeaagreatdoor", sum := "ca084042998d1773626fca7958c40ac6b1351edc9ca30e255ff5733232fb6c23", func := "recant/recantlaw15.WorldChecks", spec := "worldChecks", unfollowed := true, recurses := true, named := ["recant/text.kinds"], apart := false, laid := [("recant/text.kinds", laid_recant_text_kinds)], narrowed := true }
def WorldChecksUptoSaid : Prop := worldChecksUptoRow.holds Tryz.pinned (OpenSpec.upto worldChecksSpec)

end Rows
end Go.Proofs.YtapjdpmbgmjjeaaGreatDoor
