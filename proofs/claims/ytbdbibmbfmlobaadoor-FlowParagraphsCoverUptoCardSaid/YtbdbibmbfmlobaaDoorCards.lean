/-
  DERIVED. GIVEN WITH THE SEED: THE CARDS: each row of YtbdbibmbfmlobaaDoorRows.lean that lists a variable, with what it lists TIED to the program's text (the seventh form; the later family's looks); each row that meets fmt, with fmt's text TOLD by the authors' own Lean function (tested against real Go, not proved from fmt's source: count such statements apart). THE CARD IS WHAT COUNTS. Prove the row's statement (the work); the ties are given (YtbdbibmbfmlobaaDoorTie.lean); close each card by the builder's one call (the guide's Derived/Test/ToyasCard.lean, 'card_holds'). Laid BY PROGRAM, IN A SANDBOX (cutbox-door.mjs). By AI agents, Wed Nov 11 2026. No macro, syntax, notation, axiom, sorry.
-/
import Derived.Test.YtbdbibmbfmlobaaDoorRows
import GoSem.ClaimSeven
namespace Go.Proofs.YtbdbibmbfmlobaaDoor
namespace Rows

/-- THE TIED CARD OF 'chancerykeep1.FlowTextBack'. -/
def flowTextBackCard : Claim7 := { stood := { row := flowTextBackRow, standIns := [], harness := (true, "ef3a0e101803457a3c8ed743b0790094c21fe05004b22f798537a0f43cda281d"), looks := false }, kinds := [], alts := [], laidByText := true, laidKinds := [.data, .pinned], laidTests := true, laidLooks := .later }
def FlowTextBackCardSaid : Prop := Claim7.holds Tryd.pinned (.plain (OpenSpec.ofChange flowTextBackSpec)) flowTextBackCard

/-- THE TIED CARD OF 'chancerykeep1.FlowSlicesJoin'. -/
def flowSlicesJoinCard : Claim7 := { stood := { row := flowSlicesJoinRow, standIns := [], harness := (true, "ef3a0e101803457a3c8ed743b0790094c21fe05004b22f798537a0f43cda281d"), looks := false }, kinds := [], alts := [], laidByText := true, laidKinds := [.data, .pinned], laidTests := true, laidLooks := .later }
def FlowSlicesJoinCardSaid : Prop := Claim7.holds Tryd.pinned (.plain (OpenSpec.ofChange flowSlicesJoinSpec)) flowSlicesJoinCard

/-- THE TIED CARD OF 'chancerykeep1.FlowParagraphsCover'. -/
def flowParagraphsCoverCard : Claim7 := { stood := { row := flowParagraphsCoverRow, standIns := [], harness := (true, "ef3a0e101803457a3c8ed743b0790094c21fe05004b22f798537a0f43cda281d"), looks := false }, kinds := [], alts := [], laidByText := true, laidKinds := [.data, .pinned], laidTests := true, laidLooks := .later }
def FlowParagraphsCoverCardSaid : Prop := Claim7.holds Tryd.pinned (.plain (OpenSpec.ofChange flowParagraphsCoverSpec)) flowParagraphsCoverCard

/-- THE SECOND FORM's CARD OF 'chancerykeep1.FlowTextBack'. -/
def flowTextBackUptoCard : Claim7 := { stood := { row := flowTextBackUptoRow, standIns := [], harness := (true, "ef3a0e101803457a3c8ed743b0790094c21fe05004b22f798537a0f43cda281d"), looks := false }, kinds := [], alts := [], laidByText := true, laidKinds := [.data, .pinned], laidTests := true, laidLooks := .later }
def FlowTextBackUptoCardSaid : Prop := Claim7.holds Tryd.pinned (.plain (OpenSpec.upto flowTextBackSpec)) flowTextBackUptoCard

/-- THE SECOND FORM's CARD OF 'chancerykeep1.FlowSlicesJoin'. -/
def flowSlicesJoinUptoCard : Claim7 := { stood := { row := flowSlicesJoinUptoRow, standIns := [], harness := (true, "ef3a0e101803457a3c8ed743b0790094c21fe05004b22f798537a0f43cda281d"), looks := false }, kinds := [], alts := [], laidByText := true, laidKinds := [.data, .pinned], laidTests := true, laidLooks := .later }
def FlowSlicesJoinUptoCardSaid : Prop := Claim7.holds Tryd.pinned (.plain (OpenSpec.upto flowSlicesJoinSpec)) flowSlicesJoinUptoCard

/-- THE SECOND FORM's CARD OF 'chancerykeep1.FlowParagraphsCover'. -/
def flowParagraphsCoverUptoCard : Claim7 := { stood := { row := flowParagraphsCoverUptoRow, standIns := [], harness := (true, "ef3a0e101803457a3c8ed743b0790094c21fe05004b22f798537a0f43cda281d"), looks := false }, kinds := [], alts := [], laidByText := true, laidKinds := [.data, .pinned], laidTests := true, laidLooks := .later }
def FlowParagraphsCoverUptoCardSaid : Prop := Claim7.holds Tryd.pinned (.plain (OpenSpec.upto flowParagraphsCoverSpec)) flowParagraphsCoverUptoCard
end Rows
end Go.Proofs.YtbdbibmbfmlobaaDoor
