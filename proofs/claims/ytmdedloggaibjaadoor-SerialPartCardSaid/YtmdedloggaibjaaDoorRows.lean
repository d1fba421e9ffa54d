/-
  NARROWER THAN 'FOR EVERY INPUT', by the rows' own cells (each row's printed sentence says how): CompleteEnds: laid · SerialRows: laid · SerialPart: laid · SerialSearches: laid · StrictChecks: laid · OpaqueLeast: laid · OpaqueSerial: laid · StrictWider: laid · SerialRight: laid.
  DERIVED. THE GIVEN ROWS OF THIS SEAT. 9 by the template 'for every input the law returns true; each argument reads behind the call as it read before'; 0 by the template 'total and deterministic' (their statements: YtmdedloggaibjaaDoorTotals.lean).
  GIVEN WITH THE SEED: the statements are not yours to turn. If you find one false, say at which input.
  Laid BY PROGRAM, IN A SANDBOX (cutbox-rows.mjs): the forced cells as the released guide's own fill.sh prints them over the translation fbab4e5b00f4a030… (all of the seat's roots in one cut). By AI agents, Wed Nov 11 2026. No macro, syntax, notation, axiom, sorry.
-/
import Derived.Test.YtmdedloggaibjaaDoorChecked
import GoSem.Claim
import GoSem.ClaimJoined
import GoSem.ClaimMapViews
import Derived.JoinedTies
import Derived.KernelRfl
namespace Go.Proofs.YtmdedloggaibjaaDoor
/- THE CELL 'sum', in the pinned program and in every row, IS THE sha256 OF THE DUMP (.gsa) THAT YtmdedloggaibjaaDoorProg.lean LOADS. Nothing in Lean hashes anything: it is a label: what it is worth is what the hold of that sum in a sandbox is worth. -/
noncomputable def Tryd.pinned : Pinned := { name := "ytmdedloggaibjaadoor", sum := "fbab4e5b00f4a030612b50a1afb8dad6d48a558bd84a23396e7152a736e5831b", checked := Tryd.checked }
namespace Rows
def none {H : Type} : Left H := { results := [], args := [] }

/- WHAT THE LISTED PACKAGE-LEVEL VARIABLES READ AS WHEN THE CALL BEGINS. Each datum BY PROGRAM (the guide's laid-datum.mjs) off the statement by which the dump's own 'gosem.cut.vars' lays the variable. In a bare row this is a premise. The card (YtmdedloggaibjaaDoorCards.lean) ties it to the program's text. -/
def laid_recant_text_kinds {H : Type} : DataW H := .agg [.agg [.lit (.string [98, 101, 103, 105, 110]), .lit (.bool false), .lit (.bool false)], .agg [.lit (.string [98, 101, 103, 117, 110]), .lit (.bool false), .lit (.bool false)], .agg [.lit (.string [114, 101, 97, 100]), .lit (.bool true), .lit (.bool false)], .agg [.lit (.string [103, 111, 116]), .lit (.bool false), .lit (.bool true)], .agg [.lit (.string [119, 114, 105, 116, 101]), .lit (.bool true), .lit (.bool true)], .agg [.lit (.string [119, 114, 111, 116, 101]), .lit (.bool false), .lit (.bool false)], .agg [.lit (.string [99, 111, 109, 109, 105, 116]), .lit (.bool false), .lit (.bool false)], .agg [.lit (.string [99, 111, 109, 109, 105, 116, 116, 101, 100]), .lit (.bool false), .lit (.bool false)], .agg [.lit (.string [99, 97, 110, 99, 101, 108]), .lit (.bool false), .lit (.bool false)], .agg [.lit (.string [97, 98, 111, 114, 116, 101, 100]), .lit (.bool false), .lit (.bool false)]]

/-- 'recantlaw09.CompleteEnds': WHATEVER THE INPUT: true; the input reads as it did. -/
def completeEndsSpec : ChangeSpec := { name := "completeEnds", fn := fun _ => fun
  | [d] => { results := [.lit (.bool true)], args := [d] }
  | _ => none }
def completeEndsRow : OpenClaim := { program := "ytmdedloggaibjaadoor", sum := "fbab4e5b00f4a030612b50a1afb8dad6d48a558bd84a23396e7152a736e5831b", func := "recant/recantlaw09.CompleteEnds", spec := "completeEnds", unfollowed := true, recurses := true, named := ["recant/text.kinds"], apart := false, laid := [("recant/text.kinds", laid_recant_text_kinds)] }
def CompleteEndsSaid : Prop := completeEndsRow.holds Tryd.pinned (OpenSpec.ofChange completeEndsSpec)

/-- ITS FALSE NEIGHBOUR: 'it returns false'. Refute it at one input. -/
def completeEndsWrong : ChangeSpec := { name := "completeEnds", fn := fun _ => fun
  | [d] => { results := [.lit (.bool false)], args := [d] }
  | _ => none }
def CompleteEndsWrongFalsely : Prop := completeEndsRow.holds Tryd.pinned (OpenSpec.ofChange completeEndsWrong)

/-- 'recantlaw12.SerialRows': WHATEVER THE INPUT: true; the input reads as it did. -/
def serialRowsSpec : ChangeSpec := { name := "serialRows", fn := fun _ => fun
  | [d1, d2, d3, d4] => { results := [.lit (.bool true)], args := [d1, d2, d3, d4] }
  | _ => none }
def serialRowsRow : OpenClaim := { program := "ytmdedloggaibjaadoor", sum := "fbab4e5b00f4a030612b50a1afb8dad6d48a558bd84a23396e7152a736e5831b", func := "recant/recantlaw12.SerialRows", spec := "serialRows", unfollowed := true, recurses := true, named := ["recant/text.kinds"], apart := false, laid := [("recant/text.kinds", laid_recant_text_kinds)] }
def SerialRowsSaid : Prop := serialRowsRow.holds Tryd.pinned (OpenSpec.ofChange serialRowsSpec)

/-- ITS FALSE NEIGHBOUR: 'it returns false'. Refute it at one input. -/
def serialRowsWrong : ChangeSpec := { name := "serialRows", fn := fun _ => fun
  | [d1, d2, d3, d4] => { results := [.lit (.bool false)], args := [d1, d2, d3, d4] }
  | _ => none }
def SerialRowsWrongFalsely : Prop := serialRowsRow.holds Tryd.pinned (OpenSpec.ofChange serialRowsWrong)

/-- 'recantlaw12.SerialPart': WHATEVER THE INPUT: true; the input reads as it did. -/
def serialPartSpec : ChangeSpec := { name := "serialPart", fn := fun _ => fun
  | [d1, d2] => { results := [.lit (.bool true)], args := [d1, d2] }
  | _ => none }
def serialPartRow : OpenClaim := { program := "ytmdedloggaibjaadoor", sum := "fbab4e5b00f4a030612b50a1afb8dad6d48a558bd84a23396e7152a736e5831b", func := "recant/recantlaw12.SerialPart", spec := "serialPart", unfollowed := true, recurses := true, named := ["recant/text.kinds"], apart := false, laid := [("recant/text.kinds", laid_recant_text_kinds)] }
def SerialPartSaid : Prop := serialPartRow.holds Tryd.pinned (OpenSpec.ofChange serialPartSpec)

/-- ITS FALSE NEIGHBOUR: 'it returns false'. Refute it at one input. -/
def serialPartWrong : ChangeSpec := { name := "serialPart", fn := fun _ => fun
  | [d1, d2] => { results := [.lit (.bool false)], args := [d1, d2] }
  | _ => none }
def SerialPartWrongFalsely : Prop := serialPartRow.holds Tryd.pinned (OpenSpec.ofChange serialPartWrong)

/-- 'recantlaw12.SerialSearches': WHATEVER THE INPUT: true; the input reads as it did. -/
def serialSearchesSpec : ChangeSpec := { name := "serialSearches", fn := fun _ => fun
  | [d1, d2, d3, d4] => { results := [.lit (.bool true)], args := [d1, d2, d3, d4] }
  | _ => none }
def serialSearchesRow : OpenClaim := { program := "ytmdedloggaibjaadoor", sum := "fbab4e5b00f4a030612b50a1afb8dad6d48a558bd84a23396e7152a736e5831b", func := "recant/recantlaw12.SerialSearches", spec := "serialSearches", unfollowed := true, recurses := true, named := ["recant/text.kinds"], apart := false, laid := [("recant/text.kinds", laid_recant_text_kinds)] }
def SerialSearchesSaid : Prop := serialSearchesRow.holds Tryd.pinned (OpenSpec.ofChange serialSearchesSpec)

/-- ITS FALSE NEIGHBOUR: 'it returns false'. Refute it at one input. -/
def serialSearchesWrong : ChangeSpec := { name := "serialSearches", fn := fun _ => fun
  | [d1, d2, d3, d4] => { results := [.lit (.bool false)], args := [d1, d2, d3, d4] }
  | _ => none }
def SerialSearchesWrongFalsely : Prop := serialSearchesRow.holds Tryd.pinned (OpenSpec.ofChange serialSearchesWrong)

/-- 'recantlaw14.StrictChecks': WHATEVER THE INPUT: true; the input reads as it did. -/
def strictChecksSpec : ChangeSpec := { name := "strictChecks", fn := fun _ => fun
  | [d1, d2] => { results := [.lit (.bool true)], args := [d1, d2] }
  | _ => none }
def strictChecksRow : OpenClaim := { program := "ytmdedloggaibjaadoor", sum := "fbab4e5b00f4a030612b50a1afb8dad6d48a558bd84a23396e7152a736e5831b", func := "recant/recantlaw14.StrictChecks", spec := "strictChecks", unfollowed := true, recurses := true, named := ["recant/text.kinds"], apart := false, laid := [("recant/text.kinds", laid_recant_text_kinds)] }
def StrictChecksSaid : Prop := strictChecksRow.holds Tryd.pinned (OpenSpec.ofChange strictChecksSpec)

/-- ITS FALSE NEIGHBOUR: 'it returns false'. Refute it at one input. -/
def strictChecksWrong : ChangeSpec := { name := "strictChecks", fn := fun _ => fun
  | [d1, d2] => { results := [.lit (.bool false)], args := [d1, d2] }
  | _ => none }
def StrictChecksWrongFalsely : Prop := strictChecksRow.holds Tryd.pinned (OpenSpec.ofChange strictChecksWrong)

/-- 'recantlaw13.OpaqueLeast': WHATEVER THE INPUT: true; the input reads as it did. -/
def opaqueLeastSpec : ChangeSpec := { name := "opaqueLeast", fn := fun _ => fun
  | [d1, d2, d3] => { results := [.lit (.bool true)], args := [d1, d2, d3] }
  | _ => none }
def opaqueLeastRow : OpenClaim := { program := "ytmdedloggaibjaadoor", sum := "fbab4e5b00f4a030612b50a1afb8dad6d48a558bd84a23396e7152a736e5831b", func := "recant/recantlaw13.OpaqueLeast", spec := "opaqueLeast", unfollowed := true, recurses := true, named := ["recant/text.kinds"], apart := false, laid := [("recant/text.kinds", laid_recant_text_kinds)] }
def OpaqueLeastSaid : Prop := opaqueLeastRow.holds Tryd.pinned (OpenSpec.ofChange opaqueLeastSpec)

/-- ITS FALSE NEIGHBOUR: 'it returns false'. Refute it at one input. -/
def opaqueLeastWrong : ChangeSpec := { name := "opaqueLeast", fn := fun _ => fun
  | [d1, d2, d3] => { results := [.lit (.bool false)], args := [d1, d2, d3] }
  | _ => none }
def OpaqueLeastWrongFalsely : Prop := opaqueLeastRow.holds Tryd.pinned (OpenSpec.ofChange opaqueLeastWrong)

/-- 'recantlaw13.OpaqueSerial': WHATEVER THE INPUT: true; the input reads as it did. -/
def opaqueSerialSpec : ChangeSpec := { name := "opaqueSerial", fn := fun _ => fun
  | [d] => { results := [.lit (.bool true)], args := [d] }
  | _ => none }
def opaqueSerialRow : OpenClaim := { program := "ytmdedloggaibjaadoor", sum := "fbab4e5b00f4a030612b50a1afb8dad6d48a558bd84a23396e7152a736e5831b", func := "recant/recantlaw13.OpaqueSerial", spec := "opaqueSerial", unfollowed := true, recurses := true, named := ["recant/text.kinds"], apart := false, laid := [("recant/text.kinds", laid_recant_text_kinds)] }
def OpaqueSerialSaid : Prop := opaqueSerialRow.holds Tryd.pinned (OpenSpec.ofChange opaqueSerialSpec)

/-- ITS FALSE NEIGHBOUR: 'it returns false'. Refute it at one input. -/
def opaqueSerialWrong : ChangeSpec := { name := "opaqueSerial", fn := fun _ => fun
  | [d] => { results := [.lit (.bool false)], args := [d] }
  | _ => none }
def OpaqueSerialWrongFalsely : Prop := opaqueSerialRow.holds Tryd.pinned (OpenSpec.ofChange opaqueSerialWrong)

/-- 'recantlaw14.StrictWider': WHATEVER THE INPUT: true; the input reads as it did. -/
def strictWiderSpec : ChangeSpec := { name := "strictWider", fn := fun _ => fun
  | [d] => { results := [.lit (.bool true)], args := [d] }
  | _ => none }
def strictWiderRow : OpenClaim := { program := "ytmdedloggaibjaadoor", sum := "fbab4e5b00f4a030612b50a1afb8dad6d48a558bd84a23396e7152a736e5831b", func := "recant/recantlaw14.StrictWider", spec := "strictWider", unfollowed := true, recurses := true, named := ["recant/text.kinds"], apart := false, laid := [("recant/text.kinds", laid_recant_text_kinds)] }
def StrictWiderSaid : Prop := strictWiderRow.holds Tryd.pinned (OpenSpec.ofChange strictWiderSpec)

/-- ITS FALSE NEIGHBOUR: 'it returns false'. Refute it at one input. -/
def strictWiderWrong : ChangeSpec := { name := "strictWider", fn := fun _ => fun
  | [d] => { results := [.lit (.bool false)], args := [d] }
  | _ => none }
def StrictWiderWrongFalsely : Prop := strictWiderRow.holds Tryd.pinned (OpenSpec.ofChange strictWiderWrong)

/-- 'recantlaw12.SerialRight': WHATEVER THE INPUT: true; the input reads as it did. -/
def serialRightSpec : ChangeSpec := { name := "serialRight", fn := fun _ => fun
  | [d1, d2, d3] => { results := [.lit (.bool true)], args := [d1, d2, d3] }
  | _ => none }
def serialRightRow : OpenClaim := { program := "ytmdedloggaibjaadoor", sum := "fbab4e5b00f4a030612b50a1afb8dad6d48a558bd84a23396e7152a736e5831b", func := "recant/recantlaw12.SerialRight", spec := "serialRight", unfollowed := true, recurses := true, named := ["recant/text.kinds"], apart := false, laid := [("recant/text.kinds", laid_recant_text_kinds)] }
def SerialRightSaid : Prop := serialRightRow.holds Tryd.pinned (OpenSpec.ofChange serialRightSpec)

/-- ITS FALSE NEIGHBOUR: 'it returns false'. Refute it at one input. -/
def serialRightWrong : ChangeSpec := { name := "serialRight", fn := fun _ => fun
  | [d1, d2, d3] => { results := [.lit (.bool false)], args := [d1, d2, d3] }
  | _ => none }
def SerialRightWrongFalsely : Prop := serialRightRow.holds Tryd.pinned (OpenSpec.ofChange serialRightWrong)

/- THE SECOND FORM. 'bulk': how many values and letters a reading holds, each counted each time it is reached (what is shared counts as often as it is met; a slice's spare places count too). A statement '..UptoSaid' is the law's where the arguments, and the package variables that the reading takes, are together of bulk at most 1048576: NARROWER than '..Said'. Prove '..Said' where nothing that the law and all that it calls make is longer than what came in: it says more and counts as full. Else prove '..UptoSaid'. A law counts once. -/
mutual
def uptoBulk {H : Type} : DataW H → Nat
  | .lit (.string bytes) => bytes.length + 1
  | .lit _ => 1
  | .nil => 1
  | .ptr d => uptoBulk d + 1
  | .slice elems spare => uptoBulkAll elems + uptoBulkAll spare + 1
  | .agg parts => uptoBulkAll parts + 1
  | .iface _ d => uptoBulk d + 1
  | .map entries => uptoBulkEntries entries + 1
  | .held _ => 1
def uptoBulkAll {H : Type} : List (DataW H) → Nat
  | [] => 0
  | d :: r => uptoBulk d + uptoBulkAll r
def uptoBulkEntries {H : Type} : List (Lit × DataW H) → Nat
  | [] => 0
  | x :: r => uptoBulkEntry x + uptoBulkEntries r
def uptoBulkEntry {H : Type} : Lit × DataW H → Nat
  | (.string bytes, d) => bytes.length + uptoBulk d + 1
  | (_, d) => uptoBulk d + 1
 end
def uptoSmall : (H : Type) → List (DataW H) → Bool := fun _ ds => decide (uptoBulkAll ds ≤ 1048576)
def OpenSpec.upto (s : _root_.Go.ChangeSpec) : _root_.Go.OpenSpec := { _root_.Go.OpenSpec.ofChange s with cond := some uptoSmall }

/-- 'recantlaw09.CompleteEnds', WHERE WHAT IT READS IS OF BULK AT MOST 1048576: true; the input reads as it did. -/
def completeEndsUptoRow : OpenClaim := { program := "ytmdedloggaibjaadoor", sum := "fbab4e5b00f4a030612b50a1afb8dad6d48a558bd84a23396e7152a736e5831b", func := "recant/recantlaw09.CompleteEnds", spec := "completeEnds", unfollowed := true, recurses := true, named := ["recant/text.kinds"], apart := false, laid := [("recant/text.kinds", laid_recant_text_kinds)], narrowed := true }
def CompleteEndsUptoSaid : Prop := completeEndsUptoRow.holds Tryd.pinned (OpenSpec.upto completeEndsSpec)

/-- 'recantlaw12.SerialRows', WHERE WHAT IT READS IS OF BULK AT MOST 1048576: true; the input reads as it did. -/
def serialRowsUptoRow : OpenClaim := { program := "ytmdedloggaibjaadoor", sum := "fbab4e5b00f4a030612b50a1afb8dad6d48a558bd84a23396e7152a736e5831b", func := "recant/recantlaw12.SerialRows", spec := "serialRows", unfollowed := true, recurses := true, named := ["recant/text.kinds"], apart := false, laid := [("recant/text.kinds", laid_recant_text_kinds)], narrowed := true }
def SerialRowsUptoSaid : Prop := serialRowsUptoRow.holds Tryd.pinned (OpenSpec.upto serialRowsSpec)

/-- 'recantlaw12.SerialPart', WHERE WHAT IT READS IS OF BULK AT MOST 1048576: true; the input reads as it did. -/
def serialPartUptoRow : OpenClaim := { program := "ytmdedloggaibjaadoor", sum := "fbab4e5b00f4a030612b50a1afb8dad6d48a558bd84a23396e7152a736e5831b", func := "recant/recantlaw12.SerialPart", spec := "serialPart", unfollowed := true, recurses := true, named := ["recant/text.kinds"], apart := false, laid := [("recant/text.kinds", laid_recant_text_kinds)], narrowed := true }
def SerialPartUptoSaid : Prop := serialPartUptoRow.holds Tryd.pinned (OpenSpec.upto serialPartSpec)

/-- 'recantlaw12.SerialSearches', WHERE WHAT IT READS IS OF BULK AT MOST 1048576: true; the input reads as it did. -/
def serialSearchesUptoRow : OpenClaim := { program := "ytmdedloggaibjaadoor", sum := "fbab4e5b00f4a030612b50a1afb8dad6d48a558bd84a23396e7152a736e5831b", func := "recant/recantlaw12.SerialSearches", spec := "serialSearches", unfollowed := true, recurses := true, named := ["recant/text.kinds"], apart := false, laid := [("recant/text.kinds", laid_recant_text_kinds)], narrowed := true }
def SerialSearchesUptoSaid : Prop := serialSearchesUptoRow.holds Tryd.pinned (OpenSpec.upto serialSearchesSpec)

/-- 'recantlaw14.StrictChecks', WHERE WHAT IT READS IS OF BULK AT MOST 1048576: true; the input reads as it did. -/
def strictChecksUptoRow : OpenClaim := { program := "ytmdedloggaibjaadoor", sum := "fbab4e5b00f4a030612b50a1afb8dad6d48a558bd84a23396e7152a736e5831b", func := "recant/recantlaw14.StrictChecks", spec := "strictChecks", unfollowed := true, recurses := true, named := ["recant/text.kinds"], apart := false, laid := [("recant/text.kinds", laid_recant_text_kinds)], narrowed := true }
def StrictChecksUptoSaid : Prop := strictChecksUptoRow.holds Tryd.pinned (OpenSpec.upto strictChecksSpec)

/-- 'recantlaw13.OpaqueLeast', WHERE WHAT IT READS IS OF BULK AT MOST 1048576: true; the input reads as it did. -/
def opaqueLeastUptoRow : OpenClaim := { program := "ytmdedloggaibjaadoor", sum := "fbab4e5b00f4a030612b50a1afb8dad6d48a558bd84a23396e7152a736e5831b", func := "recant/recantlaw13.OpaqueLeast", spec := "opaqueLeast", unfollowed := true, recurses := true, named := ["recant/text.kinds"], apart := false, laid := [("recant/text.kinds", laid_recant_text_kinds)], narrowed := true }
def OpaqueLeastUptoSaid : Prop := opaqueLeastUptoRow.holds Tryd.pinned (OpenSpec.upto opaqueLeastSpec)

/-- 'recantlaw13.OpaqueSerial', WHERE WHAT IT READS IS OF BULK AT MOST 1048576: true; the input reads as it did. -/
def opaqueSerialUptoRow : OpenClaim := { program := "ytmdedloggaibjaadoor", sum := "fbab4e5b00f4a030612b50a1afb8dad6d48a558bd84a23396e7152a736e5831b", func := "recant/recantlaw13.OpaqueSerial", spec := "opaqueSerial", unfollowed := true, recurses := true, named := ["recant/text.kinds"], apart := false, laid := [("recant/text.kinds", laid_recant_text_kinds)], narrowed := true }
def OpaqueSerialUptoSaid : Prop := opaqueSerialUptoRow.holds Tryd.pinned (OpenSpec.upto opaqueSerialSpec)

/-- 'recantlaw14.StrictWider', WHERE WHAT IT READS IS OF BULK AT MOST 1048576: true; the input reads as it did. -/
def strictWiderUptoRow : OpenClaim := { program := "ytmdedloggaibjaadoor", sum := "fbab4e5b00f4a030612b50a1afb8dad6d48a558bd84a23396e7152a736e5831b", func := "recant/recantlaw14.StrictWider", spec := "strictWider", unfollowed := true, recurses := true, named := ["recant/text.kinds"], apart := false, laid := [("recant/text.kinds", laid_recant_text_kinds)], narrowed := true }
def StrictWiderUptoSaid : Prop := strictWiderUptoRow.holds Tryd.pinned (OpenSpec.upto strictWiderSpec)

/-- 'recantlaw12.SerialRight', WHERE WHAT IT READS IS OF BULK AT MOST 1048576: true; the input reads as it did. -/
def serialRightUptoRow : OpenClaim := { program := "ytmdedloggaibjaadoor", sum := "fbab4e5b00f4a030612b50a1afb8dad6d48a558bd84a23396e7152a736e5831b", func := "recant/recantlaw12.SerialRight", spec := "serialRight", unfollowed := true, recurses := true, named := ["recant/text.kinds"], apart := false, laid := [("recant/text.kinds", laid_recant_text_kinds)], narrowed := true }
def SerialRightUptoSaid : Prop := serialRightUptoRow.holds Tryd.pinned (OpenSpec.upto serialRightSpec)

end Rows
end Go.Proofs.YtmdedloggaibjaaDoor
