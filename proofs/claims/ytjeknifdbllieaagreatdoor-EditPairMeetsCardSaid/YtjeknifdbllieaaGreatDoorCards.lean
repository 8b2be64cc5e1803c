/-
  DERIVED. GIVEN WITH THE SEED: THE CARDS: each row of YtjeknifdbllieaaGreatDoorRows.lean that lists a variable, with what it lists TIED to the program's text (the seventh form; the later family's looks); each row that meets fmt, with fmt's text TOLD by the authors' own Lean function (tested against real Go, not proved from fmt's source: count such statements apart). THE CARD IS WHAT COUNTS. Prove the row's statement (the work); the ties are given (YtjeknifdbllieaaGreatDoorTie.lean); close each card by the builder's one call (the guide's Derived/Test/ToyasCard.lean, 'card_holds'). Laid BY PROGRAM, IN A SANDBOX (cutbox-door.mjs). By AI agents, Wed Nov 11 2026. No macro, syntax, notation, axiom, sorry.
-/
import Derived.Test.YtjeknifdbllieaaGreatDoorRows
import GoSem.ClaimSeven
namespace Go.Proofs.YtjeknifdbllieaaGreatDoor
namespace Rows

/-- THE TIED CARD OF 'chancerykeep1.EditPairMeets'. -/
def editPairMeetsCard : Claim7 := { stood := { row := editPairMeetsRow, standIns := [], harness := (true, "eaeb6df436ab85e28a70bc035284281d112664e53a97e8e7f9a8b038ccc8329c"), looks := true }, kinds := [], alts := [], laidByText := true, laidKinds := [.data, .data, .data, .data, .sentinel, .sentinel, .pinned], laidTests := true, laidLooks := .later }
def EditPairMeetsCardSaid : Prop := Claim7.holds Tryz.pinned (.plain (OpenSpec.ofChange editPairMeetsSpec)) editPairMeetsCard

/-- THE SECOND FORM's CARD OF 'chancerykeep1.EditPairMeets'. -/
def editPairMeetsUptoCard : Claim7 := { stood := { row := editPairMeetsUptoRow, standIns := [], harness := (true, "eaeb6df436ab85e28a70bc035284281d112664e53a97e8e7f9a8b038ccc8329c"), looks := true }, kinds := [], alts := [], laidByText := true, laidKinds := [.data, .data, .data, .data, .sentinel, .sentinel, .pinned], laidTests := true, laidLooks := .later }
def EditPairMeetsUptoCardSaid : Prop := Claim7.holds Tryz.pinned (.plain (OpenSpec.upto editPairMeetsSpec)) editPairMeetsUptoCard
end Rows
end Go.Proofs.YtjeknifdbllieaaGreatDoor
