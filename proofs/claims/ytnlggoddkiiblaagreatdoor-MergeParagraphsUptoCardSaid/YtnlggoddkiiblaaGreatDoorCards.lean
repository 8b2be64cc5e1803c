/-
  DERIVED. GIVEN WITH THE SEED: THE CARDS: each row of YtnlggoddkiiblaaGreatDoorRows.lean that lists a variable, with what it lists TIED to the program's text (the seventh form; the later family's looks); each row that meets fmt, with fmt's text TOLD by the authors' own Lean function (tested against real Go, not proved from fmt's source: count such statements apart). THE CARD IS WHAT COUNTS. Prove the row's statement (the work); the ties are given (YtnlggoddkiiblaaGreatDoorTie.lean); close each card by the builder's one call (the guide's Derived/Test/ToyasCard.lean, 'card_holds'). Laid BY PROGRAM, IN A SANDBOX (cutbox-door.mjs). By AI agents, Wed Nov 11 2026. No macro, syntax, notation, axiom, sorry.
-/
import Derived.Test.YtnlggoddkiiblaaGreatDoorRows
import GoSem.ClaimSeven
namespace Go.Proofs.YtnlggoddkiiblaaGreatDoor
namespace Rows

/-- THE TIED CARD OF 'chancerykeep1.MergeParagraphs'. -/
def mergeParagraphsCard : Claim7 := { stood := { row := mergeParagraphsRow, standIns := [], harness := (true, "56f0c32c154060ba0036de4fef9e42e2cfb846ead312839db0b26b46f4964ed4"), looks := true }, kinds := [], alts := [], laidByText := true, laidKinds := [.data, .data, .data, .data, .sentinel, .sentinel, .pinned], laidTests := true, laidLooks := .later }
def MergeParagraphsCardSaid : Prop := Claim7.holds Tryz.pinned (.plain (OpenSpec.ofChange mergeParagraphsSpec)) mergeParagraphsCard

/-- THE SECOND FORM's CARD OF 'chancerykeep1.MergeParagraphs'. -/
def mergeParagraphsUptoCard : Claim7 := { stood := { row := mergeParagraphsUptoRow, standIns := [], harness := (true, "56f0c32c154060ba0036de4fef9e42e2cfb846ead312839db0b26b46f4964ed4"), looks := true }, kinds := [], alts := [], laidByText := true, laidKinds := [.data, .data, .data, .data, .sentinel, .sentinel, .pinned], laidTests := true, laidLooks := .later }
def MergeParagraphsUptoCardSaid : Prop := Claim7.holds Tryz.pinned (.plain (OpenSpec.upto mergeParagraphsSpec)) mergeParagraphsUptoCard
end Rows
end Go.Proofs.YtnlggoddkiiblaaGreatDoor
