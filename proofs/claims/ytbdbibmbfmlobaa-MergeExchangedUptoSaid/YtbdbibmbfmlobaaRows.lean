/-
  No cell of these rows narrows 'for every input' (looked for: loops, veiled, ifaces, maps, wideKeys, modest, calm, conditions, laid).
  DERIVED. THE GIVEN ROWS OF THIS SEAT. 17 by the template 'for every input the law returns true; each argument reads behind the call as it read before'; 0 by the template 'total and deterministic' (their statements: YtbdbibmbfmlobaaTotals.lean).
  GIVEN WITH THE SEED: the statements are not yours to turn. If you find one false, say at which input.
  Laid BY PROGRAM, IN A SANDBOX (cutbox-rows.mjs): the forced cells as the released guide's own fill.sh prints them over the translation f99c49c31797a13f… (all of the seat's roots in one cut). By AI agents, Wed Nov 11 2026. No macro, syntax, notation, axiom, sorry.
-/
import Derived.Test.YtbdbibmbfmlobaaChecked
import GoSem.Claim
import GoSem.ClaimJoined
import GoSem.ClaimMapViews
import Derived.JoinedTies
import Derived.KernelRfl
namespace Go.Proofs.Ytbdbibmbfmlobaa
/- THE CELL 'sum', in the pinned program and in every row, IS THE sha256 OF THE DUMP (.gsa) THAT YtbdbibmbfmlobaaProg.lean LOADS. Nothing in Lean hashes anything: it is a label: what it is worth is what the hold of that sum in a sandbox is worth. -/
noncomputable def Try.pinned : Pinned := { name := "ytbdbibmbfmlobaa", sum := "f99c49c31797a13f297ab37982551808d8fcaa43716f240a51e02c997dd33d59", checked := Try.checked }
namespace Rows
def none {H : Type} : Left H := { results := [], args := [] }

/-- 'chancerykeep1.SpanSizesAdd': WHATEVER THE INPUT: true; the input reads as it did. -/
def spanSizesAddSpec : ChangeSpec := { name := "spanSizesAdd", fn := fun _ => fun
  | [d1, d2] => { results := [.lit (.bool true)], args := [d1, d2] }
  | _ => none }
def spanSizesAddRow : OpenClaim := { program := "ytbdbibmbfmlobaa", sum := "f99c49c31797a13f297ab37982551808d8fcaa43716f240a51e02c997dd33d59", func := "chancery/chancerykeep1.SpanSizesAdd", spec := "spanSizesAdd", unfollowed := true, recurses := true, apart := false }
def SpanSizesAddSaid : Prop := spanSizesAddRow.holds Try.pinned (OpenSpec.ofChange spanSizesAddSpec)

/-- ITS FALSE NEIGHBOUR: 'it returns false'. Refute it at one input. -/
def spanSizesAddWrong : ChangeSpec := { name := "spanSizesAdd", fn := fun _ => fun
  | [d1, d2] => { results := [.lit (.bool false)], args := [d1, d2] }
  | _ => none }
def SpanSizesAddWrongFalsely : Prop := spanSizesAddRow.holds Try.pinned (OpenSpec.ofChange spanSizesAddWrong)

/-- 'chancerykeep1.AttrUndoRestores': WHATEVER THE INPUT: true; the input reads as it did. -/
def attrUndoRestoresSpec : ChangeSpec := { name := "attrUndoRestores", fn := fun _ => fun
  | [d1, d2] => { results := [.lit (.bool true)], args := [d1, d2] }
  | _ => none }
def attrUndoRestoresRow : OpenClaim := { program := "ytbdbibmbfmlobaa", sum := "f99c49c31797a13f297ab37982551808d8fcaa43716f240a51e02c997dd33d59", func := "chancery/chancerykeep1.AttrUndoRestores", spec := "attrUndoRestores", unfollowed := true, recurses := true, apart := false }
def AttrUndoRestoresSaid : Prop := attrUndoRestoresRow.holds Try.pinned (OpenSpec.ofChange attrUndoRestoresSpec)

/-- ITS FALSE NEIGHBOUR: 'it returns false'. Refute it at one input. -/
def attrUndoRestoresWrong : ChangeSpec := { name := "attrUndoRestores", fn := fun _ => fun
  | [d1, d2] => { results := [.lit (.bool false)], args := [d1, d2] }
  | _ => none }
def AttrUndoRestoresWrongFalsely : Prop := attrUndoRestoresRow.holds Try.pinned (OpenSpec.ofChange attrUndoRestoresWrong)

/-- 'chancerykeep1.AttrBetweenLeads': WHATEVER THE INPUT: true; the input reads as it did. -/
def attrBetweenLeadsSpec : ChangeSpec := { name := "attrBetweenLeads", fn := fun _ => fun
  | [d1, d2] => { results := [.lit (.bool true)], args := [d1, d2] }
  | _ => none }
def attrBetweenLeadsRow : OpenClaim := { program := "ytbdbibmbfmlobaa", sum := "f99c49c31797a13f297ab37982551808d8fcaa43716f240a51e02c997dd33d59", func := "chancery/chancerykeep1.AttrBetweenLeads", spec := "attrBetweenLeads", unfollowed := true, recurses := true, apart := false }
def AttrBetweenLeadsSaid : Prop := attrBetweenLeadsRow.holds Try.pinned (OpenSpec.ofChange attrBetweenLeadsSpec)

/-- ITS FALSE NEIGHBOUR: 'it returns false'. Refute it at one input. -/
def attrBetweenLeadsWrong : ChangeSpec := { name := "attrBetweenLeads", fn := fun _ => fun
  | [d1, d2] => { results := [.lit (.bool false)], args := [d1, d2] }
  | _ => none }
def AttrBetweenLeadsWrongFalsely : Prop := attrBetweenLeadsRow.holds Try.pinned (OpenSpec.ofChange attrBetweenLeadsWrong)

/-- 'chancerykeep1.AttrPairMeets': WHATEVER THE INPUT: true; the input reads as it did. -/
def attrPairMeetsSpec : ChangeSpec := { name := "attrPairMeets", fn := fun _ => fun
  | [d1, d2, d3] => { results := [.lit (.bool true)], args := [d1, d2, d3] }
  | _ => none }
def attrPairMeetsRow : OpenClaim := { program := "ytbdbibmbfmlobaa", sum := "f99c49c31797a13f297ab37982551808d8fcaa43716f240a51e02c997dd33d59", func := "chancery/chancerykeep1.AttrPairMeets", spec := "attrPairMeets", unfollowed := true, recurses := true, apart := false }
def AttrPairMeetsSaid : Prop := attrPairMeetsRow.holds Try.pinned (OpenSpec.ofChange attrPairMeetsSpec)

/-- ITS FALSE NEIGHBOUR: 'it returns false'. Refute it at one input. -/
def attrPairMeetsWrong : ChangeSpec := { name := "attrPairMeets", fn := fun _ => fun
  | [d1, d2, d3] => { results := [.lit (.bool false)], args := [d1, d2, d3] }
  | _ => none }
def AttrPairMeetsWrongFalsely : Prop := attrPairMeetsRow.holds Try.pinned (OpenSpec.ofChange attrPairMeetsWrong)

/-- 'chancerykeep1.AxisJoinAssociates': WHATEVER THE INPUT: true; the input reads as it did. -/
def axisJoinAssociatesSpec : ChangeSpec := { name := "axisJoinAssociates", fn := fun _ => fun
  | [d1, d2, d3, d4] => { results := [.lit (.bool true)], args := [d1, d2, d3, d4] }
  | _ => none }
def axisJoinAssociatesRow : OpenClaim := { program := "ytbdbibmbfmlobaa", sum := "f99c49c31797a13f297ab37982551808d8fcaa43716f240a51e02c997dd33d59", func := "chancery/chancerykeep1.AxisJoinAssociates", spec := "axisJoinAssociates", apart := false }
def AxisJoinAssociatesSaid : Prop := axisJoinAssociatesRow.holds Try.pinned (OpenSpec.ofChange axisJoinAssociatesSpec)

/-- ITS FALSE NEIGHBOUR: 'it returns false'. Refute it at one input. -/
def axisJoinAssociatesWrong : ChangeSpec := { name := "axisJoinAssociates", fn := fun _ => fun
  | [d1, d2, d3, d4] => { results := [.lit (.bool false)], args := [d1, d2, d3, d4] }
  | _ => none }
def AxisJoinAssociatesWrongFalsely : Prop := axisJoinAssociatesRow.holds Try.pinned (OpenSpec.ofChange axisJoinAssociatesWrong)

/-- 'chancerykeep1.AxisPairMeets': WHATEVER THE INPUT: true; the input reads as it did. -/
def axisPairMeetsSpec : ChangeSpec := { name := "axisPairMeets", fn := fun _ => fun
  | [d1, d2, d3] => { results := [.lit (.bool true)], args := [d1, d2, d3] }
  | _ => none }
def axisPairMeetsRow : OpenClaim := { program := "ytbdbibmbfmlobaa", sum := "f99c49c31797a13f297ab37982551808d8fcaa43716f240a51e02c997dd33d59", func := "chancery/chancerykeep1.AxisPairMeets", spec := "axisPairMeets", apart := false }
def AxisPairMeetsSaid : Prop := axisPairMeetsRow.holds Try.pinned (OpenSpec.ofChange axisPairMeetsSpec)

/-- ITS FALSE NEIGHBOUR: 'it returns false'. Refute it at one input. -/
def axisPairMeetsWrong : ChangeSpec := { name := "axisPairMeets", fn := fun _ => fun
  | [d1, d2, d3] => { results := [.lit (.bool false)], args := [d1, d2, d3] }
  | _ => none }
def AxisPairMeetsWrongFalsely : Prop := axisPairMeetsRow.holds Try.pinned (OpenSpec.ofChange axisPairMeetsWrong)

/-- 'chancerykeep1.AxisPlacesKeepOrder': WHATEVER THE INPUT: true; the input reads as it did. -/
def axisPlacesKeepOrderSpec : ChangeSpec := { name := "axisPlacesKeepOrder", fn := fun _ => fun
  | [d1, d2, d3, d4] => { results := [.lit (.bool true)], args := [d1, d2, d3, d4] }
  | _ => none }
def axisPlacesKeepOrderRow : OpenClaim := { program := "ytbdbibmbfmlobaa", sum := "f99c49c31797a13f297ab37982551808d8fcaa43716f240a51e02c997dd33d59", func := "chancery/chancerykeep1.AxisPlacesKeepOrder", spec := "axisPlacesKeepOrder", apart := false }
def AxisPlacesKeepOrderSaid : Prop := axisPlacesKeepOrderRow.holds Try.pinned (OpenSpec.ofChange axisPlacesKeepOrderSpec)

/-- ITS FALSE NEIGHBOUR: 'it returns false'. Refute it at one input. -/
def axisPlacesKeepOrderWrong : ChangeSpec := { name := "axisPlacesKeepOrder", fn := fun _ => fun
  | [d1, d2, d3, d4] => { results := [.lit (.bool false)], args := [d1, d2, d3, d4] }
  | _ => none }
def AxisPlacesKeepOrderWrongFalsely : Prop := axisPlacesKeepOrderRow.holds Try.pinned (OpenSpec.ofChange axisPlacesKeepOrderWrong)

/-- 'chancerykeep1.DeltaTidyActs': WHATEVER THE INPUT: true; the input reads as it did. -/
def deltaTidyActsSpec : ChangeSpec := { name := "deltaTidyActs", fn := fun _ => fun
  | [d1, d2, d3] => { results := [.lit (.bool true)], args := [d1, d2, d3] }
  | _ => none }
def deltaTidyActsRow : OpenClaim := { program := "ytbdbibmbfmlobaa", sum := "f99c49c31797a13f297ab37982551808d8fcaa43716f240a51e02c997dd33d59", func := "chancery/chancerykeep1.DeltaTidyActs", spec := "deltaTidyActs", unfollowed := true, recurses := true, apart := false }
def DeltaTidyActsSaid : Prop := deltaTidyActsRow.holds Try.pinned (OpenSpec.ofChange deltaTidyActsSpec)

/-- ITS FALSE NEIGHBOUR: 'it returns false'. Refute it at one input. -/
def deltaTidyActsWrong : ChangeSpec := { name := "deltaTidyActs", fn := fun _ => fun
  | [d1, d2, d3] => { results := [.lit (.bool false)], args := [d1, d2, d3] }
  | _ => none }
def DeltaTidyActsWrongFalsely : Prop := deltaTidyActsRow.holds Try.pinned (OpenSpec.ofChange deltaTidyActsWrong)

/-- 'chancerykeep1.DeltaUndoRestores': WHATEVER THE INPUT: true; the input reads as it did. -/
def deltaUndoRestoresSpec : ChangeSpec := { name := "deltaUndoRestores", fn := fun _ => fun
  | [d1, d2, d3] => { results := [.lit (.bool true)], args := [d1, d2, d3] }
  | _ => none }
def deltaUndoRestoresRow : OpenClaim := { program := "ytbdbibmbfmlobaa", sum := "f99c49c31797a13f297ab37982551808d8fcaa43716f240a51e02c997dd33d59", func := "chancery/chancerykeep1.DeltaUndoRestores", spec := "deltaUndoRestores", unfollowed := true, recurses := true, apart := false }
def DeltaUndoRestoresSaid : Prop := deltaUndoRestoresRow.holds Try.pinned (OpenSpec.ofChange deltaUndoRestoresSpec)

/-- ITS FALSE NEIGHBOUR: 'it returns false'. Refute it at one input. -/
def deltaUndoRestoresWrong : ChangeSpec := { name := "deltaUndoRestores", fn := fun _ => fun
  | [d1, d2, d3] => { results := [.lit (.bool false)], args := [d1, d2, d3] }
  | _ => none }
def DeltaUndoRestoresWrongFalsely : Prop := deltaUndoRestoresRow.holds Try.pinned (OpenSpec.ofChange deltaUndoRestoresWrong)

/-- 'chancerykeep1.DeltaJoinActs': WHATEVER THE INPUT: true; the input reads as it did. -/
def deltaJoinActsSpec : ChangeSpec := { name := "deltaJoinActs", fn := fun _ => fun
  | [d1, d2, d3] => { results := [.lit (.bool true)], args := [d1, d2, d3] }
  | _ => none }
def deltaJoinActsRow : OpenClaim := { program := "ytbdbibmbfmlobaa", sum := "f99c49c31797a13f297ab37982551808d8fcaa43716f240a51e02c997dd33d59", func := "chancery/chancerykeep1.DeltaJoinActs", spec := "deltaJoinActs", unfollowed := true, recurses := true, apart := false }
def DeltaJoinActsSaid : Prop := deltaJoinActsRow.holds Try.pinned (OpenSpec.ofChange deltaJoinActsSpec)

/-- ITS FALSE NEIGHBOUR: 'it returns false'. Refute it at one input. -/
def deltaJoinActsWrong : ChangeSpec := { name := "deltaJoinActs", fn := fun _ => fun
  | [d1, d2, d3] => { results := [.lit (.bool false)], args := [d1, d2, d3] }
  | _ => none }
def DeltaJoinActsWrongFalsely : Prop := deltaJoinActsRow.holds Try.pinned (OpenSpec.ofChange deltaJoinActsWrong)

/-- 'chancerykeep1.DeltaPairMeets': WHATEVER THE INPUT: true; the input reads as it did. -/
def deltaPairMeetsSpec : ChangeSpec := { name := "deltaPairMeets", fn := fun _ => fun
  | [d1, d2, d3] => { results := [.lit (.bool true)], args := [d1, d2, d3] }
  | _ => none }
def deltaPairMeetsRow : OpenClaim := { program := "ytbdbibmbfmlobaa", sum := "f99c49c31797a13f297ab37982551808d8fcaa43716f240a51e02c997dd33d59", func := "chancery/chancerykeep1.DeltaPairMeets", spec := "deltaPairMeets", unfollowed := true, recurses := true, apart := false }
def DeltaPairMeetsSaid : Prop := deltaPairMeetsRow.holds Try.pinned (OpenSpec.ofChange deltaPairMeetsSpec)

/-- ITS FALSE NEIGHBOUR: 'it returns false'. Refute it at one input. -/
def deltaPairMeetsWrong : ChangeSpec := { name := "deltaPairMeets", fn := fun _ => fun
  | [d1, d2, d3] => { results := [.lit (.bool false)], args := [d1, d2, d3] }
  | _ => none }
def DeltaPairMeetsWrongFalsely : Prop := deltaPairMeetsRow.holds Try.pinned (OpenSpec.ofChange deltaPairMeetsWrong)

/-- 'chancerykeep1.DiffBothWays': WHATEVER THE INPUT: true; the input reads as it did. -/
def diffBothWaysSpec : ChangeSpec := { name := "diffBothWays", fn := fun _ => fun
  | [d1, d2] => { results := [.lit (.bool true)], args := [d1, d2] }
  | _ => none }
def diffBothWaysRow : OpenClaim := { program := "ytbdbibmbfmlobaa", sum := "f99c49c31797a13f297ab37982551808d8fcaa43716f240a51e02c997dd33d59", func := "chancery/chancerykeep1.DiffBothWays", spec := "diffBothWays", unfollowed := true, recurses := true, apart := false }
def DiffBothWaysSaid : Prop := diffBothWaysRow.holds Try.pinned (OpenSpec.ofChange diffBothWaysSpec)

/-- ITS FALSE NEIGHBOUR: 'it returns false'. Refute it at one input. -/
def diffBothWaysWrong : ChangeSpec := { name := "diffBothWays", fn := fun _ => fun
  | [d1, d2] => { results := [.lit (.bool false)], args := [d1, d2] }
  | _ => none }
def DiffBothWaysWrongFalsely : Prop := diffBothWaysRow.holds Try.pinned (OpenSpec.ofChange diffBothWaysWrong)

/-- 'chancerykeep1.TrackAcceptShows': WHATEVER THE INPUT: true; the input reads as it did. -/
def trackAcceptShowsSpec : ChangeSpec := { name := "trackAcceptShows", fn := fun _ => fun
  | [d] => { results := [.lit (.bool true)], args := [d] }
  | _ => none }
def trackAcceptShowsRow : OpenClaim := { program := "ytbdbibmbfmlobaa", sum := "f99c49c31797a13f297ab37982551808d8fcaa43716f240a51e02c997dd33d59", func := "chancery/chancerykeep1.TrackAcceptShows", spec := "trackAcceptShows", unfollowed := true, recurses := true, apart := false }
def TrackAcceptShowsSaid : Prop := trackAcceptShowsRow.holds Try.pinned (OpenSpec.ofChange trackAcceptShowsSpec)

/-- ITS FALSE NEIGHBOUR: 'it returns false'. Refute it at one input. -/
def trackAcceptShowsWrong : ChangeSpec := { name := "trackAcceptShows", fn := fun _ => fun
  | [d] => { results := [.lit (.bool false)], args := [d] }
  | _ => none }
def TrackAcceptShowsWrongFalsely : Prop := trackAcceptShowsRow.holds Try.pinned (OpenSpec.ofChange trackAcceptShowsWrong)

/-- 'chancerykeep1.SpanThroughContains': WHATEVER THE INPUT: true; the input reads as it did. -/
def spanThroughContainsSpec : ChangeSpec := { name := "spanThroughContains", fn := fun _ => fun
  | [d1, d2, d3, d4] => { results := [.lit (.bool true)], args := [d1, d2, d3, d4] }
  | _ => none }
def spanThroughContainsRow : OpenClaim := { program := "ytbdbibmbfmlobaa", sum := "f99c49c31797a13f297ab37982551808d8fcaa43716f240a51e02c997dd33d59", func := "chancery/chancerykeep1.SpanThroughContains", spec := "spanThroughContains", unfollowed := true, recurses := true, apart := false }
def SpanThroughContainsSaid : Prop := spanThroughContainsRow.holds Try.pinned (OpenSpec.ofChange spanThroughContainsSpec)

/-- ITS FALSE NEIGHBOUR: 'it returns false'. Refute it at one input. -/
def spanThroughContainsWrong : ChangeSpec := { name := "spanThroughContains", fn := fun _ => fun
  | [d1, d2, d3, d4] => { results := [.lit (.bool false)], args := [d1, d2, d3, d4] }
  | _ => none }
def SpanThroughContainsWrongFalsely : Prop := spanThroughContainsRow.holds Try.pinned (OpenSpec.ofChange spanThroughContainsWrong)

/-- 'chancerykeep1.MergeOneSided': WHATEVER THE INPUT: true; the input reads as it did. -/
def mergeOneSidedSpec : ChangeSpec := { name := "mergeOneSided", fn := fun _ => fun
  | [d1, d2, d3] => { results := [.lit (.bool true)], args := [d1, d2, d3] }
  | _ => none }
def mergeOneSidedRow : OpenClaim := { program := "ytbdbibmbfmlobaa", sum := "f99c49c31797a13f297ab37982551808d8fcaa43716f240a51e02c997dd33d59", func := "chancery/chancerykeep1.MergeOneSided", spec := "mergeOneSided", unfollowed := true, recurses := true, apart := false }
def MergeOneSidedSaid : Prop := mergeOneSidedRow.holds Try.pinned (OpenSpec.ofChange mergeOneSidedSpec)

/-- ITS FALSE NEIGHBOUR: 'it returns false'. Refute it at one input. -/
def mergeOneSidedWrong : ChangeSpec := { name := "mergeOneSided", fn := fun _ => fun
  | [d1, d2, d3] => { results := [.lit (.bool false)], args := [d1, d2, d3] }
  | _ => none }
def MergeOneSidedWrongFalsely : Prop := mergeOneSidedRow.holds Try.pinned (OpenSpec.ofChange mergeOneSidedWrong)

/-- 'chancerykeep1.MergeExchanged': WHATEVER THE INPUT: true; the input reads as it did. -/
def mergeExchangedSpec : ChangeSpec := { name := "mergeExchanged", fn := fun _ => fun
  | [d1, d2, d3] => { results := [.lit (.bool true)], args := [d1, d2, d3] }
  | _ => none }
def mergeExchangedRow : OpenClaim := { program := "ytbdbibmbfmlobaa", sum := "f99c49c31797a13f297ab37982551808d8fcaa43716f240a51e02c997dd33d59", func := "chancery/chancerykeep1.MergeExchanged", spec := "mergeExchanged", unfollowed := true, recurses := true, apart := false }
def MergeExchangedSaid : Prop := mergeExchangedRow.holds Try.pinned (OpenSpec.ofChange mergeExchangedSpec)

/-- ITS FALSE NEIGHBOUR: 'it returns false'. Refute it at one input. -/
def mergeExchangedWrong : ChangeSpec := { name := "mergeExchanged", fn := fun _ => fun
  | [d1, d2, d3] => { results := [.lit (.bool false)], args := [d1, d2, d3] }
  | _ => none }
def MergeExchangedWrongFalsely : Prop := mergeExchangedRow.holds Try.pinned (OpenSpec.ofChange mergeExchangedWrong)

/-- 'chancerykeep1.DeltaAxisAgrees': WHATEVER THE INPUT: true; the input reads as it did. -/
def deltaAxisAgreesSpec : ChangeSpec := { name := "deltaAxisAgrees", fn := fun _ => fun
  | [d1, d2] => { results := [.lit (.bool true)], args := [d1, d2] }
  | _ => none }
def deltaAxisAgreesRow : OpenClaim := { program := "ytbdbibmbfmlobaa", sum := "f99c49c31797a13f297ab37982551808d8fcaa43716f240a51e02c997dd33d59", func := "chancery/chancerykeep1.DeltaAxisAgrees", spec := "deltaAxisAgrees", unfollowed := true, recurses := true, apart := false }
def DeltaAxisAgreesSaid : Prop := deltaAxisAgreesRow.holds Try.pinned (OpenSpec.ofChange deltaAxisAgreesSpec)

/-- ITS FALSE NEIGHBOUR: 'it returns false'. Refute it at one input. -/
def deltaAxisAgreesWrong : ChangeSpec := { name := "deltaAxisAgrees", fn := fun _ => fun
  | [d1, d2] => { results := [.lit (.bool false)], args := [d1, d2] }
  | _ => none }
def DeltaAxisAgreesWrongFalsely : Prop := deltaAxisAgreesRow.holds Try.pinned (OpenSpec.ofChange deltaAxisAgreesWrong)

/- THE SECOND FORM. 'bulk': how many values and letters a reading holds, each counted each time it is reached (what is shared counts as often as it is met; a slice's spare places count too). A statement '..UptoSaid' is the law's where the arguments, and the package variables that the reading takes, are together of bulk at most 1048576: NARROWER than '..Said'. Prove '..Said' where nothing that the law and all that it calls make is longer than what came in: it says more and counts as full. Else prove '..UptoSaid'. A law counts once. -/
mutual
def uptoBulk {H : Type} : DataW H → Nat
  | .lit (.string bytes) => bytes.length + 1
  | .lit _ => 1
  | .nil => 1
  | .ptr d => uptoBulk d + 1
  | .slice elems spare => uptoBulkAll elems + uptoBulkAll spare + 1
  | .agg parts => uptoBulkAll parts + 1
  | .iface _ d => uptoBulk d + 1
  | .map entries => uptoBulkEntries entries + 1
  | .held _ => 1
def uptoBulkAll {H : Type} : List (DataW H) → Nat
  | [] => 0
  | d :: r => uptoBulk d + uptoBulkAll r
def uptoBulkEntries {H : Type} : List (Lit × DataW H) → Nat
  | [] => 0
  | x :: r => uptoBulkEntry x + uptoBulkEntries r
def uptoBulkEntry {H : Type} : Lit × DataW H → Nat
  | (.string bytes, d) => bytes.length + uptoBulk d + 1
  | (_, d) => uptoBulk d + 1
 end
def uptoSmall : (H : Type) → List (DataW H) → Bool := fun _ ds => decide (uptoBulkAll ds ≤ 1048576)
def OpenSpec.upto (s : _root_.Go.ChangeSpec) : _root_.Go.OpenSpec := { _root_.Go.OpenSpec.ofChange s with cond := some uptoSmall }

/-- 'chancerykeep1.SpanSizesAdd', WHERE WHAT IT READS IS OF BULK AT MOST 1048576: true; the input reads as it did. -/
def spanSizesAddUptoRow : OpenClaim := { program := "ytbdbibmbfmlobaa", sum := "f99c49c31797a13f297ab37982551808d8fcaa43716f240a51e02c997dd33d59", func := "chancery/chancerykeep1.SpanSizesAdd", spec := "spanSizesAdd", unfollowed := true, recurses := true, apart := false, narrowed := true }
def SpanSizesAddUptoSaid : Prop := spanSizesAddUptoRow.holds Try.pinned (OpenSpec.upto spanSizesAddSpec)

/-- 'chancerykeep1.AttrUndoRestores', WHERE WHAT IT READS IS OF BULK AT MOST 1048576: true; the input reads as it did. -/
def attrUndoRestoresUptoRow : OpenClaim := { program := "ytbdbibmbfmlobaa", sum := "f99c49c31797a13f297ab37982551808d8fcaa43716f240a51e02c997dd33d59", func := "chancery/chancerykeep1.AttrUndoRestores", spec := "attrUndoRestores", unfollowed := true, recurses := true, apart := false, narrowed := true }
def AttrUndoRestoresUptoSaid : Prop := attrUndoRestoresUptoRow.holds Try.pinned (OpenSpec.upto attrUndoRestoresSpec)

/-- 'chancerykeep1.AttrBetweenLeads', WHERE WHAT IT READS IS OF BULK AT MOST 1048576: true; the input reads as it did. -/
def attrBetweenLeadsUptoRow : OpenClaim := { program := "ytbdbibmbfmlobaa", sum := "f99c49c31797a13f297ab37982551808d8fcaa43716f240a51e02c997dd33d59", func := "chancery/chancerykeep1.AttrBetweenLeads", spec := "attrBetweenLeads", unfollowed := true, recurses := true, apart := false, narrowed := true }
def AttrBetweenLeadsUptoSaid : Prop := attrBetweenLeadsUptoRow.holds Try.pinned (OpenSpec.upto attrBetweenLeadsSpec)

/-- 'chancerykeep1.AttrPairMeets', WHERE WHAT IT READS IS OF BULK AT MOST 1048576: true; the input reads as it did. -/
def attrPairMeetsUptoRow : OpenClaim := { program := "ytbdbibmbfmlobaa", sum := "f99c49c31797a13f297ab37982551808d8fcaa43716f240a51e02c997dd33d59", func := "chancery/chancerykeep1.AttrPairMeets", spec := "attrPairMeets", unfollowed := true, recurses := true, apart := false, narrowed := true }
def AttrPairMeetsUptoSaid : Prop := attrPairMeetsUptoRow.holds Try.pinned (OpenSpec.upto attrPairMeetsSpec)

/-- 'chancerykeep1.AxisJoinAssociates', WHERE WHAT IT READS IS OF BULK AT MOST 1048576: true; the input reads as it did. -/
def axisJoinAssociatesUptoRow : OpenClaim := { program := "ytbdbibmbfmlobaa", sum := "f99c49c31797a13f297ab37982551808d8fcaa43716f240a51e02c997dd33d59", func := "chancery/chancerykeep1.AxisJoinAssociates", spec := "axisJoinAssociates", apart := false, narrowed := true }
def AxisJoinAssociatesUptoSaid : Prop := axisJoinAssociatesUptoRow.holds Try.pinned (OpenSpec.upto axisJoinAssociatesSpec)

/-- 'chancerykeep1.AxisPairMeets', WHERE WHAT IT READS IS OF BULK AT MOST 1048576: true; the input reads as it did. -/
def axisPairMeetsUptoRow : OpenClaim := { program := "ytbdbibmbfmlobaa", sum := "f99c49c31797a13f297ab37982551808d8fcaa43716f240a51e02c997dd33d59", func := "chancery/chancerykeep1.AxisPairMeets", spec := "axisPairMeets", apart := false, narrowed := true }
def AxisPairMeetsUptoSaid : Prop := axisPairMeetsUptoRow.holds Try.pinned (OpenSpec.upto axisPairMeetsSpec)

/-- 'chancerykeep1.AxisPlacesKeepOrder', WHERE WHAT IT READS IS OF BULK AT MOST 1048576: true; the input reads as it did. -/
def axisPlacesKeepOrderUptoRow : OpenClaim := { program := "ytbdbibmbfmlobaa", sum := "f99c49c31797a13f297ab37982551808d8fcaa43716f240a51e02c997dd33d59", func := "chancery/chancerykeep1.AxisPlacesKeepOrder", spec := "axisPlacesKeepOrder", apart := false, narrowed := true }
def AxisPlacesKeepOrderUptoSaid : Prop := axisPlacesKeepOrderUptoRow.holds Try.pinned (OpenSpec.upto axisPlacesKeepOrderSpec)

/-- 'chancerykeep1.DeltaTidyActs', WHERE WHAT IT READS IS OF BULK AT MOST 1048576: true; the input reads as it did. -/
def deltaTidyActsUptoRow : OpenClaim := { program := "ytbdbibmbfmlobaa", sum := "f99c49c31797a13f297ab37982551808d8fcaa43716f240a51e02c997dd33d59", func := "chancery/chancerykeep1.DeltaTidyActs", spec := "deltaTidyActs", unfollowed := true, recurses := true, apart := false, narrowed := true }
def DeltaTidyActsUptoSaid : Prop := deltaTidyActsUptoRow.holds Try.pinned (OpenSpec.upto deltaTidyActsSpec)

/-- 'chancerykeep1.DeltaUndoRestores', WHERE WHAT IT READS IS OF BULK AT MOST 1048576: true; the input reads as it did. -/
def deltaUndoRestoresUptoRow : OpenClaim := { program := "ytbdbibmbfmlobaa", sum := "f99c49c31797a13f297ab37982551808d8fcaa43716f240a51e02c997dd33d59", func := "chancery/chancerykeep1.DeltaUndoRestores", spec := "deltaUndoRestores", unfollowed := true, recurses := true, apart := false, narrowed := true }
def DeltaUndoRestoresUptoSaid : Prop := deltaUndoRestoresUptoRow.holds Try.pinned (OpenSpec.upto deltaUndoRestoresSpec)

/-- 'chancerykeep1.DeltaJoinActs', WHERE WHAT IT READS IS OF BULK AT MOST 1048576: true; the input reads as it did. -/
def deltaJoinActsUptoRow : OpenClaim := { program := "ytbdbibmbfmlobaa", sum := "f99c49c31797a13f297ab37982551808d8fcaa43716f240a51e02c997dd33d59", func := "chancery/chancerykeep1.DeltaJoinActs", spec := "deltaJoinActs", unfollowed := true, recurses := true, apart := false, narrowed := true }
def DeltaJoinActsUptoSaid : Prop := deltaJoinActsUptoRow.holds Try.pinned (OpenSpec.upto deltaJoinActsSpec)

/-- 'chancerykeep1.DeltaPairMeets', WHERE WHAT IT READS IS OF BULK AT MOST 1048576: true; the input reads as it did. -/
def deltaPairMeetsUptoRow : OpenClaim := { program := "ytbdbibmbfmlobaa", sum := "f99c49c31797a13f297ab37982551808d8fcaa43716f240a51e02c997dd33d59", func := "chancery/chancerykeep1.DeltaPairMeets", spec := "deltaPairMeets", unfollowed := true, recurses := true, apart := false, narrowed := true }
def DeltaPairMeetsUptoSaid : Prop := deltaPairMeetsUptoRow.holds Try.pinned (OpenSpec.upto deltaPairMeetsSpec)

/-- 'chancerykeep1.DiffBothWays', WHERE WHAT IT READS IS OF BULK AT MOST 1048576: true; the input reads as it did. -/
def diffBothWaysUptoRow : OpenClaim := { program := "ytbdbibmbfmlobaa", sum := "f99c49c31797a13f297ab37982551808d8fcaa43716f240a51e02c997dd33d59", func := "chancery/chancerykeep1.DiffBothWays", spec := "diffBothWays", unfollowed := true, recurses := true, apart := false, narrowed := true }
def DiffBothWaysUptoSaid : Prop := diffBothWaysUptoRow.holds Try.pinned (OpenSpec.upto diffBothWaysSpec)

/-- 'chancerykeep1.TrackAcceptShows', WHERE WHAT IT READS IS OF BULK AT MOST 1048576: true; the input reads as it did. -/
def trackAcceptShowsUptoRow : OpenClaim := { program := "ytbdbibmbfmlobaa", sum := "f99c49c31797a13f297ab37982551808d8fcaa43716f240a51e02c997dd33d59", func := "chancery/chancerykeep1.TrackAcceptShows", spec := "trackAcceptShows", unfollowed := true, recurses := true, apart := false, narrowed := true }
def TrackAcceptShowsUptoSaid : Prop := trackAcceptShowsUptoRow.holds Try.pinned (OpenSpec.upto trackAcceptShowsSpec)

/-- 'chancerykeep1.SpanThroughContains', WHERE WHAT IT READS IS OF BULK AT MOST 1048576: true; the input reads as it did. -/
def spanThroughContainsUptoRow : OpenClaim := { program := "ytbdbibmbfmlobaa", sum := "f99c49c31797a13f297ab37982551808d8fcaa43716f240a51e02c997dd33d59", func := "chancery/chancerykeep1.SpanThroughContains", spec := "spanThroughContains", unfollowed := true, recurses := true, apart := false, narrowed := true }
def SpanThroughContainsUptoSaid : Prop := spanThroughContainsUptoRow.holds Try.pinned (OpenSpec.upto spanThroughContainsSpec)

/-- 'chancerykeep1.MergeOneSided', WHERE WHAT IT READS IS OF BULK AT MOST 1048576: true; the input reads as it did. -/
def mergeOneSidedUptoRow : OpenClaim := { program := "ytbdbibmbfmlobaa", sum := "f99c49c31797a13f297ab37982551808d8fcaa43716f240a51e02c997dd33d59", func := "chancery/chancerykeep1.MergeOneSided", spec := "mergeOneSided", unfollowed := true, recurses := true, apart := false, narrowed := true }
def MergeOneSidedUptoSaid : Prop := mergeOneSidedUptoRow.holds Try.pinned (OpenSpec.upto mergeOneSidedSpec)

/-- 'chancerykeep1.MergeExchanged', WHERE WHAT IT READS IS OF BULK AT MOST 1048576: true; the input reads as it did. -/
def mergeExchangedUptoRow : OpenClaim := { program := "ytbdbibmbfmlobaa", sum := "f99c49c31797a13f297ab37982551808d8fcaa43716f240a51e02c997dd33d59", func := "chancery/chancerykeep1.MergeExchanged", spec := "mergeExchanged", unfollowed := true, recurses := true, apart := false, narrowed := true }
def MergeExchangedUptoSaid : Prop := mergeExchangedUptoRow.holds Try.pinned (OpenSpec.upto mergeExchangedSpec)

/-- 'chancerykeep1.DeltaAxisAgrees', WHERE WHAT IT READS IS OF BULK AT MOST 1048576: true; the input reads as it did. -/
def deltaAxisAgreesUptoRow : OpenClaim := { program := "ytbdbibmbfmlobaa", sum := "f99c49c31797a13f297ab37982551808d8fcaa43716f240a51e02c997dd33d59", func := "chancery/chancerykeep1.DeltaAxisAgrees", spec := "deltaAxisAgrees", unfollowed := true, recurses := true, apart := false, narrowed := true }
def DeltaAxisAgreesUptoSaid : Prop := deltaAxisAgreesUptoRow.holds Try.pinned (OpenSpec.upto deltaAxisAgreesSpec)

end Rows
end Go.Proofs.Ytbdbibmbfmlobaa
