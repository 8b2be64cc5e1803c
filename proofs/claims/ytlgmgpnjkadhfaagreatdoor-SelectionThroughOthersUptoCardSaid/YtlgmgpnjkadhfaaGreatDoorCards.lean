/-
  DERIVED. GIVEN WITH THE SEED: THE CARDS: each row of YtlgmgpnjkadhfaaGreatDoorRows.lean that lists a variable, with what it lists TIED to the program's text (the seventh form; the later family's looks); each row that meets fmt, with fmt's text TOLD by the authors' own Lean function (tested against real Go, not proved from fmt's source: count such statements apart). THE CARD IS WHAT COUNTS. Prove the row's statement (the work); the ties are given (YtlgmgpnjkadhfaaGreatDoorTie.lean); close each card by the builder's one call (the guide's Derived/Test/ToyasCard.lean, 'card_holds'). Laid BY PROGRAM, IN A SANDBOX (cutbox-door.mjs). By AI agents, Wed Nov 11 2026. No macro, syntax, notation, axiom, sorry.
-/
import Derived.Test.YtlgmgpnjkadhfaaGreatDoorRows
import GoSem.ClaimSeven
namespace Go.Proofs.YtlgmgpnjkadhfaaGreatDoor
namespace Rows

/-- THE TIED CARD OF 'chancerykeep1.SelectionTypedShows'. -/
def selectionTypedShowsCard : Claim7 := { stood := { row := selectionTypedShowsRow, standIns := [], harness := (true, "399873f8c0c112fe03a467011683b4659c25e9c9839ad998a2d9018353fc54f6"), looks := true }, kinds := [], alts := [], laidByText := true, laidKinds := [.data, .data, .data, .data, .sentinel, .sentinel, .pinned], laidTests := true, laidLooks := .later }
def SelectionTypedShowsCardSaid : Prop := Claim7.holds Tryz.pinned (.plain (OpenSpec.ofChange selectionTypedShowsSpec)) selectionTypedShowsCard

/-- THE TIED CARD OF 'chancerykeep1.SelectionFormatKeeps'. -/
def selectionFormatKeepsCard : Claim7 := { stood := { row := selectionFormatKeepsRow, standIns := [], harness := (true, "399873f8c0c112fe03a467011683b4659c25e9c9839ad998a2d9018353fc54f6"), looks := true }, kinds := [], alts := [], laidByText := true, laidKinds := [.data, .data, .data, .data, .sentinel, .sentinel, .pinned], laidTests := true, laidLooks := .later }
def SelectionFormatKeepsCardSaid : Prop := Claim7.holds Tryz.pinned (.plain (OpenSpec.ofChange selectionFormatKeepsSpec)) selectionFormatKeepsCard

/-- THE TIED CARD OF 'chancerykeep1.SelectionThroughOthers'. -/
def selectionThroughOthersCard : Claim7 := { stood := { row := selectionThroughOthersRow, standIns := [], harness := (true, "399873f8c0c112fe03a467011683b4659c25e9c9839ad998a2d9018353fc54f6"), looks := true }, kinds := [], alts := [], laidByText := true, laidKinds := [.data, .data, .data, .data, .sentinel, .sentinel, .pinned], laidTests := true, laidLooks := .later }
def SelectionThroughOthersCardSaid : Prop := Claim7.holds Tryz.pinned (.plain (OpenSpec.ofChange selectionThroughOthersSpec)) selectionThroughOthersCard

/-- THE SECOND FORM's CARD OF 'chancerykeep1.SelectionTypedShows'. -/
def selectionTypedShowsUptoCard : Claim7 := { stood := { row := selectionTypedShowsUptoRow, standIns := [], harness := (true, "399873f8c0c112fe03a467011683b4659c25e9c9839ad998a2d9018353fc54f6"), looks := true }, kinds := [], alts := [], laidByText := true, laidKinds := [.data, .data, .data, .data, .sentinel, .sentinel, .pinned], laidTests := true, laidLooks := .later }
def SelectionTypedShowsUptoCardSaid : Prop := Claim7.holds Tryz.pinned (.plain (OpenSpec.upto selectionTypedShowsSpec)) selectionTypedShowsUptoCard

/-- THE SECOND FORM's CARD OF 'chancerykeep1.SelectionFormatKeeps'. -/
def selectionFormatKeepsUptoCard : Claim7 := { stood := { row := selectionFormatKeepsUptoRow, standIns := [], harness := (true, "399873f8c0c112fe03a467011683b4659c25e9c9839ad998a2d9018353fc54f6"), looks := true }, kinds := [], alts := [], laidByText := true, laidKinds := [.data, .data, .data, .data, .sentinel, .sentinel, .pinned], laidTests := true, laidLooks := .later }
def SelectionFormatKeepsUptoCardSaid : Prop := Claim7.holds Tryz.pinned (.plain (OpenSpec.upto selectionFormatKeepsSpec)) selectionFormatKeepsUptoCard

/-- THE SECOND FORM's CARD OF 'chancerykeep1.SelectionThroughOthers'. -/
def selectionThroughOthersUptoCard : Claim7 := { stood := { row := selectionThroughOthersUptoRow, standIns := [], harness := (true, "399873f8c0c112fe03a467011683b4659c25e9c9839ad998a2d9018353fc54f6"), looks := true }, kinds := [], alts := [], laidByText := true, laidKinds := [.data, .data, .data, .data, .sentinel, .sentinel, .pinned], laidTests := true, laidLooks := .later }
def SelectionThroughOthersUptoCardSaid : Prop := Claim7.holds Tryz.pinned (.plain (OpenSpec.upto selectionThroughOthersSpec)) selectionThroughOthersUptoCard
end Rows
end Go.Proofs.YtlgmgpnjkadhfaaGreatDoor
