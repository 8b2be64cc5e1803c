/-
  DERIVED. GIVEN WITH THE SEED: THE CARDS: each row of YthpcjddcgdlilaaDoorRows.lean that lists a variable, with what it lists TIED to the program's text (the seventh form; the later family's looks); each row that meets fmt, with fmt's text TOLD by the authors' own Lean function (tested against real Go, not proved from fmt's source: count such statements apart). THE CARD IS WHAT COUNTS. Prove the row's statement (the work); the ties are given (YthpcjddcgdlilaaDoorTie.lean); close each card by the builder's one call (the guide's Derived/Test/ToyasCard.lean, 'card_holds'). Laid BY PROGRAM, IN A SANDBOX (cutbox-door.mjs). By AI agents, Wed Nov 11 2026. No macro, syntax, notation, axiom, sorry.
-/
import Derived.Test.YthpcjddcgdlilaaDoorRows
import GoSem.ClaimSeven
namespace Go.Proofs.YthpcjddcgdlilaaDoor
namespace Rows

/-- THE TIED CARD OF 'chancerykeep1.GridMergesApart'. -/
def gridMergesApartCard : Claim7 := { stood := { row := gridMergesApartRow, standIns := [], harness := (true, "45d0f9ef144ae83653ee153890f849040ad5e85eb29ce850a3b6fe98a822ce78"), looks := false }, kinds := [], alts := [], laidByText := true, laidKinds := [.data, .pinned], laidTests := true, laidLooks := .later }
def GridMergesApartCardSaid : Prop := Claim7.holds Tryd.pinned (.plain (OpenSpec.ofChange gridMergesApartSpec)) gridMergesApartCard

/-- THE TIED CARD OF 'chancerykeep1.GridPairMeets'. -/
def gridPairMeetsCard : Claim7 := { stood := { row := gridPairMeetsRow, standIns := [], harness := (true, "45d0f9ef144ae83653ee153890f849040ad5e85eb29ce850a3b6fe98a822ce78"), looks := false }, kinds := [], alts := [], laidByText := true, laidKinds := [.data, .pinned], laidTests := true, laidLooks := .later }
def GridPairMeetsCardSaid : Prop := Claim7.holds Tryd.pinned (.plain (OpenSpec.ofChange gridPairMeetsSpec)) gridPairMeetsCard

/-- THE SECOND FORM's CARD OF 'chancerykeep1.GridMergesApart'. -/
def gridMergesApartUptoCard : Claim7 := { stood := { row := gridMergesApartUptoRow, standIns := [], harness := (true, "45d0f9ef144ae83653ee153890f849040ad5e85eb29ce850a3b6fe98a822ce78"), looks := false }, kinds := [], alts := [], laidByText := true, laidKinds := [.data, .pinned], laidTests := true, laidLooks := .later }
def GridMergesApartUptoCardSaid : Prop := Claim7.holds Tryd.pinned (.plain (OpenSpec.upto gridMergesApartSpec)) gridMergesApartUptoCard

/-- THE SECOND FORM's CARD OF 'chancerykeep1.GridPairMeets'. -/
def gridPairMeetsUptoCard : Claim7 := { stood := { row := gridPairMeetsUptoRow, standIns := [], harness := (true, "45d0f9ef144ae83653ee153890f849040ad5e85eb29ce850a3b6fe98a822ce78"), looks := false }, kinds := [], alts := [], laidByText := true, laidKinds := [.data, .pinned], laidTests := true, laidLooks := .later }
def GridPairMeetsUptoCardSaid : Prop := Claim7.holds Tryd.pinned (.plain (OpenSpec.upto gridPairMeetsSpec)) gridPairMeetsUptoCard
end Rows
end Go.Proofs.YthpcjddcgdlilaaDoor
