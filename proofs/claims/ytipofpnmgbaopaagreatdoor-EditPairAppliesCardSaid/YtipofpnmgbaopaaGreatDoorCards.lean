/-
  DERIVED. GIVEN WITH THE SEED: THE CARDS: each row of YtipofpnmgbaopaaGreatDoorRows.lean that lists a variable, with what it lists TIED to the program's text (the seventh form; the later family's looks); each row that meets fmt, with fmt's text TOLD by the authors' own Lean function (tested against real Go, not proved from fmt's source: count such statements apart). THE CARD IS WHAT COUNTS. Prove the row's statement (the work); the ties are given (YtipofpnmgbaopaaGreatDoorTie.lean); close each card by the builder's one call (the guide's Derived/Test/ToyasCard.lean, 'card_holds'). Laid BY PROGRAM, IN A SANDBOX (cutbox-door.mjs). By AI agents, Wed Nov 11 2026. No macro, syntax, notation, axiom, sorry.
-/
import Derived.Test.YtipofpnmgbaopaaGreatDoorRows
import GoSem.ClaimSeven
namespace Go.Proofs.YtipofpnmgbaopaaGreatDoor
namespace Rows

/-- THE TIED CARD OF 'chancerykeep1.EditPairApplies'. -/
def editPairAppliesCard : Claim7 := { stood := { row := editPairAppliesRow, standIns := [], harness := (true, "d238fa1ed8dd5bea4a202a399eb8b263ff0f296d7f72cb8f81dbd77ea6b8b133"), looks := true }, kinds := [], alts := [], laidByText := true, laidKinds := [.data, .data, .data, .data, .sentinel, .sentinel, .pinned], laidTests := true, laidLooks := .later }
def EditPairAppliesCardSaid : Prop := Claim7.holds Tryz.pinned (.plain (OpenSpec.ofChange editPairAppliesSpec)) editPairAppliesCard

/-- THE SECOND FORM's CARD OF 'chancerykeep1.EditPairApplies'. -/
def editPairAppliesUptoCard : Claim7 := { stood := { row := editPairAppliesUptoRow, standIns := [], harness := (true, "d238fa1ed8dd5bea4a202a399eb8b263ff0f296d7f72cb8f81dbd77ea6b8b133"), looks := true }, kinds := [], alts := [], laidByText := true, laidKinds := [.data, .data, .data, .data, .sentinel, .sentinel, .pinned], laidTests := true, laidLooks := .later }
def EditPairAppliesUptoCardSaid : Prop := Claim7.holds Tryz.pinned (.plain (OpenSpec.upto editPairAppliesSpec)) editPairAppliesUptoCard
end Rows
end Go.Proofs.YtipofpnmgbaopaaGreatDoor
