/-
  DERIVED. GIVEN WITH THE SEED: THE CARDS: each row of YtojjoigepejggaaGreatDoorRows.lean that lists a variable, with what it lists TIED to the program's text (the seventh form; the later family's looks); each row that meets fmt, with fmt's text TOLD by the authors' own Lean function (tested against real Go, not proved from fmt's source: count such statements apart). THE CARD IS WHAT COUNTS. Prove the row's statement (the work); the ties are given (YtojjoigepejggaaGreatDoorTie.lean); close each card by the builder's one call (the guide's Derived/Test/ToyasCard.lean, 'card_holds'). Laid BY PROGRAM, IN A SANDBOX (cutbox-door.mjs). By AI agents, Wed Nov 11 2026. No macro, syntax, notation, axiom, sorry.
-/
import Derived.Test.YtojjoigepejggaaGreatDoorRows
import GoSem.ClaimSeven
namespace Go.Proofs.YtojjoigepejggaaGreatDoor
namespace Rows

/-- THE TIED CARD OF 'chancerykeep1.EditAllOrNothing'. -/
def editAllOrNothingCard : Claim7 := { stood := { row := editAllOrNothingRow, standIns := [], harness := (true, "710d345c5fdd6510eb3e186de25a7eedf28bed327ad4a4a95873fb8c653b2fcd"), looks := true }, kinds := [], alts := [], laidByText := true, laidKinds := [.data, .data, .data, .data, .sentinel, .sentinel, .pinned], laidTests := true, laidLooks := .later }
def EditAllOrNothingCardSaid : Prop := Claim7.holds Tryz.pinned (.plain (OpenSpec.ofChange editAllOrNothingSpec)) editAllOrNothingCard

/-- THE SECOND FORM's CARD OF 'chancerykeep1.EditAllOrNothing'. -/
def editAllOrNothingUptoCard : Claim7 := { stood := { row := editAllOrNothingUptoRow, standIns := [], harness := (true, "710d345c5fdd6510eb3e186de25a7eedf28bed327ad4a4a95873fb8c653b2fcd"), looks := true }, kinds := [], alts := [], laidByText := true, laidKinds := [.data, .data, .data, .data, .sentinel, .sentinel, .pinned], laidTests := true, laidLooks := .later }
def EditAllOrNothingUptoCardSaid : Prop := Claim7.holds Tryz.pinned (.plain (OpenSpec.upto editAllOrNothingSpec)) editAllOrNothingUptoCard
end Rows
end Go.Proofs.YtojjoigepejggaaGreatDoor
