/-
  NARROWER THAN 'FOR EVERY INPUT', by the rows' own cells (each row's printed sentence says how): FlowTextBack: laid · FlowSlicesJoin: laid · FlowParagraphsCover: laid.
  DERIVED. THE GIVEN ROWS OF THIS SEAT. 3 by the template 'for every input the law returns true; each argument reads behind the call as it read before'; 0 by the template 'total and deterministic' (their statements: YtbdbibmbfmlobaaDoorTotals.lean).
  GIVEN WITH THE SEED: the statements are not yours to turn. If you find one false, say at which input.
  Laid BY PROGRAM, IN A SANDBOX (cutbox-rows.mjs): the forced cells as the released guide's own fill.sh prints them over the translation d36e472a9808b055… (all of the seat's roots in one cut). By AI agents, Wed Nov 11 2026. No macro, syntax, notation, axiom, sorry.
-/
import Derived.Test.YtbdbibmbfmlobaaDoorChecked
import GoSem.PinnedTables
import GoSem.Claim
import GoSem.ClaimJoined
import GoSem.ClaimMapViews
import Derived.JoinedTies
import Derived.KernelRfl
namespace Go.Proofs.YtbdbibmbfmlobaaDoor
/- THE CELL 'sum', in the pinned program and in every row, IS THE sha256 OF THE DUMP (.gsa) THAT YtbdbibmbfmlobaaDoorProg.lean LOADS. Nothing in Lean hashes anything: it is a label: what it is worth is what the hold of that sum in a sandbox is worth. -/
noncomputable def Tryd.pinned : Pinned := { name := "ytbdbibmbfmlobaadoor", sum := "d36e472a9808b055609b7fda7d34532ed66ced6b4afc648dc8d5202d0baea899", checked := Tryd.checked }
namespace Rows
def none {H : Type} : Left H := { results := [], args := [] }

/- WHAT THE LISTED PACKAGE-LEVEL VARIABLES READ AS WHEN THE CALL BEGINS. Each datum BY PROGRAM (the guide's laid-datum.mjs) off the statement by which the dump's own 'gosem.cut.vars' lays the variable. In a bare row this is a premise. The card (YtbdbibmbfmlobaaDoorCards.lean) ties it to the program's text. -/
def laid_unicode_utf8_acceptRanges {H : Type} : DataW H := .agg [.agg [.lit (.int .u8 128), .lit (.int .u8 191)], .agg [.lit (.int .u8 160), .lit (.int .u8 191)], .agg [.lit (.int .u8 128), .lit (.int .u8 159)], .agg [.lit (.int .u8 144), .lit (.int .u8 191)], .agg [.lit (.int .u8 128), .lit (.int .u8 143)], .agg [.lit (.int .u8 0), .lit (.int .u8 0)], .agg [.lit (.int .u8 0), .lit (.int .u8 0)], .agg [.lit (.int .u8 0), .lit (.int .u8 0)], .agg [.lit (.int .u8 0), .lit (.int .u8 0)], .agg [.lit (.int .u8 0), .lit (.int .u8 0)], .agg [.lit (.int .u8 0), .lit (.int .u8 0)], .agg [.lit (.int .u8 0), .lit (.int .u8 0)], .agg [.lit (.int .u8 0), .lit (.int .u8 0)], .agg [.lit (.int .u8 0), .lit (.int .u8 0)], .agg [.lit (.int .u8 0), .lit (.int .u8 0)], .agg [.lit (.int .u8 0), .lit (.int .u8 0)]]
/-- One of Go's own tables, pinned by name: the form's constant. -/
def laid_unicode_utf8_first : DataW Unit := Go.Pinned.utf8First

/-- 'chancerykeep1.FlowTextBack': WHATEVER THE INPUT: true; the input reads as it did. -/
def flowTextBackSpec : ChangeSpec := { name := "flowTextBack", fn := fun _ => fun
  | [d1, d2] => { results := [.lit (.bool true)], args := [d1, d2] }
  | _ => none }
def flowTextBackRow : OpenClaim := { program := "ytbdbibmbfmlobaadoor", sum := "d36e472a9808b055609b7fda7d34532ed66ced6b4afc648dc8d5202d0baea899", func := "chancery/chancerykeep1.FlowTextBack", spec := "flowTextBack", named := ["unicode/utf8.first", "unicode/utf8.acceptRanges"], apart := false, laid := [("unicode/utf8.acceptRanges", laid_unicode_utf8_acceptRanges), ("unicode/utf8.first", laid_unicode_utf8_first)] }
def FlowTextBackSaid : Prop := flowTextBackRow.holds Tryd.pinned (OpenSpec.ofChange flowTextBackSpec)

/-- ITS FALSE NEIGHBOUR: 'it returns false'. Refute it at one input. -/
def flowTextBackWrong : ChangeSpec := { name := "flowTextBack", fn := fun _ => fun
  | [d1, d2] => { results := [.lit (.bool false)], args := [d1, d2] }
  | _ => none }
def FlowTextBackWrongFalsely : Prop := flowTextBackRow.holds Tryd.pinned (OpenSpec.ofChange flowTextBackWrong)

/-- 'chancerykeep1.FlowSlicesJoin': WHATEVER THE INPUT: true; the input reads as it did. -/
def flowSlicesJoinSpec : ChangeSpec := { name := "flowSlicesJoin", fn := fun _ => fun
  | [d1, d2] => { results := [.lit (.bool true)], args := [d1, d2] }
  | _ => none }
def flowSlicesJoinRow : OpenClaim := { program := "ytbdbibmbfmlobaadoor", sum := "d36e472a9808b055609b7fda7d34532ed66ced6b4afc648dc8d5202d0baea899", func := "chancery/chancerykeep1.FlowSlicesJoin", spec := "flowSlicesJoin", named := ["unicode/utf8.first", "unicode/utf8.acceptRanges"], apart := false, laid := [("unicode/utf8.acceptRanges", laid_unicode_utf8_acceptRanges), ("unicode/utf8.first", laid_unicode_utf8_first)] }
def FlowSlicesJoinSaid : Prop := flowSlicesJoinRow.holds Tryd.pinned (OpenSpec.ofChange flowSlicesJoinSpec)

/-- ITS FALSE NEIGHBOUR: 'it returns false'. Refute it at one input. -/
def flowSlicesJoinWrong : ChangeSpec := { name := "flowSlicesJoin", fn := fun _ => fun
  | [d1, d2] => { results := [.lit (.bool false)], args := [d1, d2] }
  | _ => none }
def FlowSlicesJoinWrongFalsely : Prop := flowSlicesJoinRow.holds Tryd.pinned (OpenSpec.ofChange flowSlicesJoinWrong)

/-- 'chancerykeep1.FlowParagraphsCover': WHATEVER THE INPUT: true; the input reads as it did. -/
def flowParagraphsCoverSpec : ChangeSpec := { name := "flowParagraphsCover", fn := fun _ => fun
  | [d1, d2] => { results := [.lit (.bool true)], args := [d1, d2] }
  | _ => none }
def flowParagraphsCoverRow : OpenClaim := { program := "ytbdbibmbfmlobaadoor", sum := "d36e472a9808b055609b7fda7d34532ed66ced6b4afc648dc8d5202d0baea899", func := "chancery/chancerykeep1.FlowParagraphsCover", spec := "flowParagraphsCover", unfollowed := true, recurses := true, named := ["unicode/utf8.first", "unicode/utf8.acceptRanges"], apart := false, laid := [("unicode/utf8.acceptRanges", laid_unicode_utf8_acceptRanges), ("unicode/utf8.first", laid_unicode_utf8_first)] }
def FlowParagraphsCoverSaid : Prop := flowParagraphsCoverRow.holds Tryd.pinned (OpenSpec.ofChange flowParagraphsCoverSpec)

/-- ITS FALSE NEIGHBOUR: 'it returns false'. Refute it at one input. -/
def flowParagraphsCoverWrong : ChangeSpec := { name := "flowParagraphsCover", fn := fun _ => fun
  | [d1, d2] => { results := [.lit (.bool false)], args := [d1, d2] }
  | _ => none }
def FlowParagraphsCoverWrongFalsely : Prop := flowParagraphsCoverRow.holds Tryd.pinned (OpenSpec.ofChange flowParagraphsCoverWrong)

/- THE SECOND FORM. 'bulk': how many values and letters a reading holds, each counted each time it is reached (what is shared counts as often as it is met; a slice's spare places count too). A statement '..UptoSaid' is the law's where the arguments, and the package variables that the reading takes, are together of bulk at most 1048576: NARROWER than '..Said'. Prove '..Said' where nothing that the law and all that it calls make is longer than what came in: it says more and counts as full. Else prove '..UptoSaid'. A law counts once. -/
mutual
def uptoBulk {H : Type} : DataW H → Nat
  | .lit (.string bytes) => bytes.length + 1
  | .lit _ => 1
  | .nil => 1
  | .ptr d => uptoBulk d + 1
  | .slice elems spare => uptoBulkAll elems + uptoBulkAll spare + 1
  | .agg parts => uptoBulkAll parts + 1
  | .iface _ d => uptoBulk d + 1
  | .map entries => uptoBulkEntries entries + 1
  | .held _ => 1
def uptoBulkAll {H : Type} : List (DataW H) → Nat
  | [] => 0
  | d :: r => uptoBulk d + uptoBulkAll r
def uptoBulkEntries {H : Type} : List (Lit × DataW H) → Nat
  | [] => 0
  | x :: r => uptoBulkEntry x + uptoBulkEntries r
def uptoBulkEntry {H : Type} : Lit × DataW H → Nat
  | (.string bytes, d) => bytes.length + uptoBulk d + 1
  | (_, d) => uptoBulk d + 1
 end
def uptoSmall : (H : Type) → List (DataW H) → Bool := fun _ ds => decide (uptoBulkAll ds ≤ 1048576)
def OpenSpec.upto (s : _root_.Go.ChangeSpec) : _root_.Go.OpenSpec := { _root_.Go.OpenSpec.ofChange s with cond := some uptoSmall }

/-- 'chancerykeep1.FlowTextBack', WHERE WHAT IT READS IS OF BULK AT MOST 1048576: true; the input reads as it did. -/
def flowTextBackUptoRow : OpenClaim := { program := "ytbdbibmbfmlobaadoor", sum := "d36e472a9808b055609b7fda7d34532ed66ced6b4afc648dc8d5202d0baea899", func := "chancery/chancerykeep1.FlowTextBack", spec := "flowTextBack", named := ["unicode/utf8.first", "unicode/utf8.acceptRanges"], apart := false, laid := [("unicode/utf8.acceptRanges", laid_unicode_utf8_acceptRanges), ("unicode/utf8.first", laid_unicode_utf8_first)], narrowed := true }
def FlowTextBackUptoSaid : Prop := flowTextBackUptoRow.holds Tryd.pinned (OpenSpec.upto flowTextBackSpec)

/-- 'chancerykeep1.FlowSlicesJoin', WHERE WHAT IT READS IS OF BULK AT MOST 1048576: true; the input reads as it did. -/
def flowSlicesJoinUptoRow : OpenClaim := { program := "ytbdbibmbfmlobaadoor", sum := "d36e472a9808b055609b7fda7d34532ed66ced6b4afc648dc8d5202d0baea899", func := "chancery/chancerykeep1.FlowSlicesJoin", spec := "flowSlicesJoin", named := ["unicode/utf8.first", "unicode/utf8.acceptRanges"], apart := false, laid := [("unicode/utf8.acceptRanges", laid_unicode_utf8_acceptRanges), ("unicode/utf8.first", laid_unicode_utf8_first)], narrowed := true }
def FlowSlicesJoinUptoSaid : Prop := flowSlicesJoinUptoRow.holds Tryd.pinned (OpenSpec.upto flowSlicesJoinSpec)

/-- 'chancerykeep1.FlowParagraphsCover', WHERE WHAT IT READS IS OF BULK AT MOST 1048576: true; the input reads as it did. -/
def flowParagraphsCoverUptoRow : OpenClaim := { program := "ytbdbibmbfmlobaadoor", sum := "d36e472a9808b055609b7fda7d34532ed66ced6b4afc648dc8d5202d0baea899", func := "chancery/chancerykeep1.FlowParagraphsCover", spec := "flowParagraphsCover", unfollowed := true, recurses := true, named := ["unicode/utf8.first", "unicode/utf8.acceptRanges"], apart := false, laid := [("unicode/utf8.acceptRanges", laid_unicode_utf8_acceptRanges), ("unicode/utf8.first", laid_unicode_utf8_first)], narrowed := true }
def FlowParagraphsCoverUptoSaid : Prop := flowParagraphsCoverUptoRow.holds Tryd.pinned (OpenSpec.upto flowParagraphsCoverSpec)

end Rows
end Go.Proofs.YtbdbibmbfmlobaaDoor
