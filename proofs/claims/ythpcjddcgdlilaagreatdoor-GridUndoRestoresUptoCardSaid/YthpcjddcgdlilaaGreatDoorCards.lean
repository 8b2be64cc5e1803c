/-
  DERIVED. GIVEN WITH THE SEED: THE CARDS: each row of YthpcjddcgdlilaaGreatDoorRows.lean that lists a variable, with what it lists TIED to the program's text (the seventh form; the later family's looks); each row that meets fmt, with fmt's text TOLD by the authors' own Lean function (tested against real Go, not proved from fmt's source: count such statements apart). THE CARD IS WHAT COUNTS. Prove the row's statement (the work); the ties are given (YthpcjddcgdlilaaGreatDoorTie.lean); close each card by the builder's one call (the guide's Derived/Test/ToyasCard.lean, 'card_holds'). Laid BY PROGRAM, IN A SANDBOX (cutbox-door.mjs). By AI agents, Wed Nov 11 2026. No macro, syntax, notation, axiom, sorry.
-/
import Derived.Test.YthpcjddcgdlilaaGreatDoorRows
import GoSem.ClaimSeven
namespace Go.Proofs.YthpcjddcgdlilaaGreatDoor
namespace Rows

/-- THE TIED CARD OF 'chancerykeep1.GridUndoRestores'. -/
def gridUndoRestoresCard : Claim7 := { stood := { row := gridUndoRestoresRow, standIns := [], harness := (true, "dfdcc66eb565267496769040fb771a44ae075bf0964695a7e8748dfe134cafc2"), looks := false }, kinds := [], alts := [], laidByText := true, laidKinds := [.data, .pinned], laidTests := true, laidLooks := .later }
def GridUndoRestoresCardSaid : Prop := Claim7.holds Tryz.pinned (.plain (OpenSpec.ofChange gridUndoRestoresSpec)) gridUndoRestoresCard

/-- THE TIED CARD OF 'chancerykeep1.GridPairFits'. -/
def gridPairFitsCard : Claim7 := { stood := { row := gridPairFitsRow, standIns := [], harness := (true, "dfdcc66eb565267496769040fb771a44ae075bf0964695a7e8748dfe134cafc2"), looks := false }, kinds := [], alts := [], laidByText := true, laidKinds := [.data, .pinned], laidTests := true, laidLooks := .later }
def GridPairFitsCardSaid : Prop := Claim7.holds Tryz.pinned (.plain (OpenSpec.ofChange gridPairFitsSpec)) gridPairFitsCard

/-- THE SECOND FORM's CARD OF 'chancerykeep1.GridUndoRestores'. -/
def gridUndoRestoresUptoCard : Claim7 := { stood := { row := gridUndoRestoresUptoRow, standIns := [], harness := (true, "dfdcc66eb565267496769040fb771a44ae075bf0964695a7e8748dfe134cafc2"), looks := false }, kinds := [], alts := [], laidByText := true, laidKinds := [.data, .pinned], laidTests := true, laidLooks := .later }
def GridUndoRestoresUptoCardSaid : Prop := Claim7.holds Tryz.pinned (.plain (OpenSpec.upto gridUndoRestoresSpec)) gridUndoRestoresUptoCard

/-- THE SECOND FORM's CARD OF 'chancerykeep1.GridPairFits'. -/
def gridPairFitsUptoCard : Claim7 := { stood := { row := gridPairFitsUptoRow, standIns := [], harness := (true, "dfdcc66eb565267496769040fb771a44ae075bf0964695a7e8748dfe134cafc2"), looks := false }, kinds := [], alts := [], laidByText := true, laidKinds := [.data, .pinned], laidTests := true, laidLooks := .later }
def GridPairFitsUptoCardSaid : Prop := Claim7.holds Tryz.pinned (.plain (OpenSpec.upto gridPairFitsSpec)) gridPairFitsUptoCard
end Rows
end Go.Proofs.YthpcjddcgdlilaaGreatDoor
