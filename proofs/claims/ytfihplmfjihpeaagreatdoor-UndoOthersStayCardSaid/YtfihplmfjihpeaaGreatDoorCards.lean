/-
  DERIVED. GIVEN WITH THE SEED: THE CARDS: each row of YtfihplmfjihpeaaGreatDoorRows.lean that lists a variable, with what it lists TIED to the program's text (the seventh form; the later family's looks); each row that meets fmt, with fmt's text TOLD by the authors' own Lean function (tested against real Go, not proved from fmt's source: count such statements apart). THE CARD IS WHAT COUNTS. Prove the row's statement (the work); the ties are given (YtfihplmfjihpeaaGreatDoorTie.lean); close each card by the builder's one call (the guide's Derived/Test/ToyasCard.lean, 'card_holds'). Laid BY PROGRAM, IN A SANDBOX (cutbox-door.mjs). By AI agents, Wed Nov 11 2026. No macro, syntax, notation, axiom, sorry.
-/
import Derived.Test.YtfihplmfjihpeaaGreatDoorRows
import GoSem.ClaimSeven
namespace Go.Proofs.YtfihplmfjihpeaaGreatDoor
namespace Rows

/-- THE TIED CARD OF 'chancerykeep1.UndoOthersStay'. -/
def undoOthersStayCard : Claim7 := { stood := { row := undoOthersStayRow, standIns := [], harness := (true, "f1685d5b03ae18e0ef6eedc750d9a01ab757db038c758f263b12d3e22f3b5560"), looks := true }, kinds := [], alts := [], laidByText := true, laidKinds := [.data, .data, .data, .data, .sentinel, .sentinel, .pinned], laidTests := true, laidLooks := .later }
def UndoOthersStayCardSaid : Prop := Claim7.holds Tryz.pinned (.plain (OpenSpec.ofChange undoOthersStaySpec)) undoOthersStayCard

/-- THE SECOND FORM's CARD OF 'chancerykeep1.UndoOthersStay'. -/
def undoOthersStayUptoCard : Claim7 := { stood := { row := undoOthersStayUptoRow, standIns := [], harness := (true, "f1685d5b03ae18e0ef6eedc750d9a01ab757db038c758f263b12d3e22f3b5560"), looks := true }, kinds := [], alts := [], laidByText := true, laidKinds := [.data, .data, .data, .data, .sentinel, .sentinel, .pinned], laidTests := true, laidLooks := .later }
def UndoOthersStayUptoCardSaid : Prop := Claim7.holds Tryz.pinned (.plain (OpenSpec.upto undoOthersStaySpec)) undoOthersStayUptoCard
end Rows
end Go.Proofs.YtfihplmfjihpeaaGreatDoor
