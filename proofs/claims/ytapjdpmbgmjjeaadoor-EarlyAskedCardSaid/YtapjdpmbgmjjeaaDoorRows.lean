/-
  NARROWER THAN 'FOR EVERY INPUT', by the rows' own cells (each row's printed sentence says how): SerialRight: laid · EarlyAnswers: laid · EarlyAsked: laid.
  DERIVED. THE GIVEN ROWS OF THIS SEAT. 3 by the template 'for every input the law returns true; each argument reads behind the call as it read before'; 0 by the template 'total and deterministic' (their statements: YtapjdpmbgmjjeaaDoorTotals.lean).
  GIVEN WITH THE SEED: the statements are not yours to turn. If you find one false, say at which input.
  Laid BY PROGRAM, IN A SANDBOX (cutbox-rows.mjs): the forced cells as the released guide's own fill.sh prints them over the translation 0e753f577eaab82f… (all of the seat's roots in one cut). By AI agents, Wed Nov 11 2026. No macro, syntax, notation, axiom, sorry.
-/
import Derived.Test.YtapjdpmbgmjjeaaDoorChecked
import GoSem.Claim
import GoSem.ClaimJoined
import GoSem.ClaimMapViews
import Derived.JoinedTies
import Derived.KernelRfl
namespace Go.Proofs.YtapjdpmbgmjjeaaDoor
/- THE CELL 'sum', in the pinned program and in every row, IS THE sha256 OF THE DUMP (.gsa) THAT YtapjdpmbgmjjeaaDoorProg.lean LOADS. Nothing in Lean hashes anything: it is a label: what it is worth is what the hold of that sum in a sandbox is worth. -/
noncomputable def Tryd.pinned : Pinned := { name := "ytapjdpmbgmjjeaadoor", sum := "0e753f577eaab82f2661c2845cf8c9f6978dc76660d0e7b5a637f369cd62379f", checked := Tryd.checked }
namespace Rows
def none {H : Type} : Left H := { results := [], args := [] }

/- WHAT THE LISTED PACKAGE-LEVEL VARIABLES READ AS WHEN THE CALL BEGINS. Each datum BY PROGRAM (the guide's laid-datum.mjs) off the statement by which the dump's own 'gosem.cut.vars' lays the variable. In a bare row this is a premise. The card (YtapjdpmbgmjjeaaDoorCards.lean) ties it to the program's text. -/
def laid_recant_text_kinds {H : Type} : DataW H := .agg [.agg [.lit (.string [98, 101, 103, 105, 110]), .lit (.bool false), .lit (.bool false)], .agg [.lit (.string [98, 101, 103, 117, 110]), .lit (.bool false), .lit (.bool false)], .agg [.lit (.string [114, 101, 97, 100]), .lit (.bool true), .lit (.bool false)], .agg [.lit (.string [103, 111, 116]), .lit (.bool false), .lit (.bool true)], .agg [.lit (.string [119, 114, 105, 116, 101]), .lit (.bool true), .lit (.bool true)], .agg [.lit (.string [119, 114, 111, 116, 101]), .lit (.bool false), .lit (.bool false)], .agg [.lit (.string [99, 111, 109, 109, 105, 116]), .lit (.bool false), .lit (.bool false)], .agg [.lit (.string [99, 111, 109, 109, 105, 116, 116, 101, 100]), .lit (.bool false), .lit (.bool false)], .agg [.lit (.string [99, 97, 110, 99, 101, 108]), .lit (.bool false), .lit (.bool false)], .agg [.lit (.string [97, 98, 111, 114, 116, 101, 100]), .lit (.bool false), .lit (.bool false)]]

/-- 'recantlaw12.SerialRight': WHATEVER THE INPUT: true; the input reads as it did. -/
def serialRightSpec : ChangeSpec := { name := "serialRight", fn := fun _ => fun
  | [d1, d2, d3] => { results := [.lit (.bool true)], args := [d1, d2, d3] }
  | _ => none }
def serialRightRow : OpenClaim := { program := "ytapjdpmbgmjjeaadoor", sum := "0e753f577eaab82f2661c2845cf8c9f6978dc76660d0e7b5a637f369cd62379f", func := "recant/recantlaw12.SerialRight", spec := "serialRight", unfollowed := true, recurses := true, named := ["recant/text.kinds"], apart := false, laid := [("recant/text.kinds", laid_recant_text_kinds)] }
def SerialRightSaid : Prop := serialRightRow.holds Tryd.pinned (OpenSpec.ofChange serialRightSpec)

/-- ITS FALSE NEIGHBOUR: 'it returns false'. Refute it at one input. -/
def serialRightWrong : ChangeSpec := { name := "serialRight", fn := fun _ => fun
  | [d1, d2, d3] => { results := [.lit (.bool false)], args := [d1, d2, d3] }
  | _ => none }
def SerialRightWrongFalsely : Prop := serialRightRow.holds Tryd.pinned (OpenSpec.ofChange serialRightWrong)

/-- 'recantlaw20.EarlyAnswers': WHATEVER THE INPUT: true; the input reads as it did. -/
def earlyAnswersSpec : ChangeSpec := { name := "earlyAnswers", fn := fun _ => fun
  | [d1, d2, d3] => { results := [.lit (.bool true)], args := [d1, d2, d3] }
  | _ => none }
def earlyAnswersRow : OpenClaim := { program := "ytapjdpmbgmjjeaadoor", sum := "0e753f577eaab82f2661c2845cf8c9f6978dc76660d0e7b5a637f369cd62379f", func := "recant/recantlaw20.EarlyAnswers", spec := "earlyAnswers", unfollowed := true, recurses := true, named := ["recant/text.kinds"], apart := false, laid := [("recant/text.kinds", laid_recant_text_kinds)] }
def EarlyAnswersSaid : Prop := earlyAnswersRow.holds Tryd.pinned (OpenSpec.ofChange earlyAnswersSpec)

/-- ITS FALSE NEIGHBOUR: 'it returns false'. Refute it at one input. -/
def earlyAnswersWrong : ChangeSpec := { name := "earlyAnswers", fn := fun _ => fun
  | [d1, d2, d3] => { results := [.lit (.bool false)], args := [d1, d2, d3] }
  | _ => none }
def EarlyAnswersWrongFalsely : Prop := earlyAnswersRow.holds Tryd.pinned (OpenSpec.ofChange earlyAnswersWrong)

/-- 'recantlaw20.EarlyAsked': WHATEVER THE INPUT: true; the input reads as it did. -/
def earlyAskedSpec : ChangeSpec := { name := "earlyAsked", fn := fun _ => fun
  | [d1, d2, d3] => { results := [.lit (.bool true)], args := [d1, d2, d3] }
  | _ => none }
def earlyAskedRow : OpenClaim := { program := "ytapjdpmbgmjjeaadoor", sum := "0e753f577eaab82f2661c2845cf8c9f6978dc76660d0e7b5a637f369cd62379f", func := "recant/recantlaw20.EarlyAsked", spec := "earlyAsked", unfollowed := true, recurses := true, named := ["recant/text.kinds"], apart := false, laid := [("recant/text.kinds", laid_recant_text_kinds)] }
def EarlyAskedSaid : Prop := earlyAskedRow.holds Tryd.pinned (OpenSpec.ofChange earlyAskedSpec)

/-- ITS FALSE NEIGHBOUR: 'it returns false'. Refute it at one input. -/
def earlyAskedWrong : ChangeSpec := { name := "earlyAsked", fn := fun _ => fun
  | [d1, d2, d3] => { results := [.lit (.bool false)], args := [d1, d2, d3] }
  | _ => none }
def EarlyAskedWrongFalsely : Prop := earlyAskedRow.holds Tryd.pinned (OpenSpec.ofChange earlyAskedWrong)

/- THE SECOND FORM. 'bulk': how many values and letters a reading holds, each counted each time it is reached (what is shared counts as often as it is met; a slice's spare places count too). A statement '..UptoSaid' is the law's where the arguments, and the package variables that the reading takes, are together of bulk at most 1048576: NARROWER than '..Said'. Prove '..Said' where nothing that the law and all that it calls make is longer than what came in: it says more and counts as full. Else prove '..UptoSaid'. A law counts once. -/
mutual
def uptoBulk {H : Type} : DataW H → Nat
  | .lit (.string bytes) => bytes.length + 1
  | .lit _ => 1
  | .nil => 1
  | .ptr d => uptoBulk d + 1
  | .slice elems spare => uptoBulkAll elems + uptoBulkAll spare + 1
  | .agg parts => uptoBulkAll parts + 1
  | .iface _ d => uptoBulk d + 1
  | .map entries => uptoBulkEntries entries + 1
  | .held _ => 1
def uptoBulkAll {H : Type} : List (DataW H) → Nat
  | [] => 0
  | d :: r => uptoBulk d + uptoBulkAll r
def uptoBulkEntries {H : Type} : List (Lit × DataW H) → Nat
  | [] => 0
  | x :: r => uptoBulkEntry x + uptoBulkEntries r
def uptoBulkEntry {H : Type} : Lit × DataW H → Nat
  | (.string bytes, d) => bytes.length + uptoBulk d + 1
  | (_, d) => uptoBulk d + 1
 end
def uptoSmall : (H : Type) → List (DataW H) → Bool := fun _ ds => decide (uptoBulkAll ds ≤ 1048576)
def OpenSpec.upto (s : _root_.Go.ChangeSpec) : _root_.Go.OpenSpec := { _root_.Go.OpenSpec.ofChange s with cond := some uptoSmall }

/-- 'recantlaw12.SerialRight', WHERE WHAT IT READS IS OF BULK AT MOST 1048576: true; the input reads as it did. -/
def serialRightUptoRow : OpenClaim := { program := "ytapjdpmbgmjjeaadoor", sum := "0e753f577eaab82f2661c2845cf8c9f6978dc76660d0e7b5a637f369cd62379f", func := "recant/recantlaw12.SerialRight", spec := "serialRight", unfollowed := true, recurses := true, named := ["recant/text.kinds"], apart := false, laid := [("recant/text.kinds", laid_recant_text_kinds)], narrowed := true }
def SerialRightUptoSaid : Prop := serialRightUptoRow.holds Tryd.pinned (OpenSpec.upto serialRightSpec)

/-- 'recantlaw20.EarlyAnswers', WHERE WHAT IT READS IS OF BULK AT MOST 1048576: true; the input reads as it did. -/
def earlyAnswersUptoRow : OpenClaim := { program := "ytapjdpmbgmjjeaadoor", sum := "0e753f577eaab82f2661c2845cf8c9f6978dc76660d0e7b5a637f369cd62379f", func := "recant/recantlaw20.EarlyAnswers", spec := "earlyAnswers", unfollowed := true, recurses := true, named := ["recant/text.kinds"], apart := false, laid := [("recant/text.kinds", laid_recant_text_kinds)], narrowed := true }
def EarlyAnswersUptoSaid : Prop := earlyAnswersUptoRow.holds Tryd.pinned (OpenSpec.upto earlyAnswersSpec)

/-- 'recantlaw20.EarlyAsked', WHERE WHAT IT READS IS OF BULK AT MOST 1048576: true; the input reads as it did. -/
def earlyAskedUptoRow : OpenClaim := { program := "ytapjdpmbgmjjeaadoor", sum := "0e753f577eaab82f2661c2845cf8c9f6978dc76660d0e7b5a637f369cd62379f", func := "recant/recantlaw20.EarlyAsked", spec := "earlyAsked", unfollowed := true, recurses := true, named := ["recant/text.kinds"], apart := false, laid := [("recant/text.kinds", laid_recant_text_kinds)], narrowed := true }
def EarlyAskedUptoSaid : Prop := earlyAskedUptoRow.holds Tryd.pinned (OpenSpec.upto earlyAskedSpec)

end Rows
end Go.Proofs.YtapjdpmbgmjjeaaDoor
