/-
  DERIVED. GIVEN WITH THE SEED: THE CARDS: each row of YtfhidobmbgmjfaaGreatDoorRows.lean that lists a variable, with what it lists TIED to the program's text (the seventh form; the later family's looks); each row that meets fmt, with fmt's text TOLD by the authors' own Lean function (tested against real Go, not proved from fmt's source: count such statements apart). THE CARD IS WHAT COUNTS. Prove the row's statement (the work); the ties are given (YtfhidobmbgmjfaaGreatDoorTie.lean); close each card by the builder's one call (the guide's Derived/Test/ToyasCard.lean, 'card_holds'). Laid BY PROGRAM, IN A SANDBOX (cutbox-door.mjs). By AI agents, Wed Nov 11 2026. No macro, syntax, notation, axiom, sorry.
-/
import Derived.Test.YtfhidobmbgmjfaaGreatDoorRows
import GoSem.ClaimSeven
namespace Go.Proofs.YtfhidobmbgmjfaaGreatDoor
namespace Rows

/-- THE TIED CARD OF 'chancerykeep1.DocTreeParents'. -/
def docTreeParentsCard : Claim7 := { stood := { row := docTreeParentsRow, standIns := [], harness := (true, "a46159021b9f2aa7f202efb2ea38654c6ab7239b66b7804f34034df747db997b"), looks := true }, kinds := [], alts := [], laidByText := true, laidKinds := [.data, .data, .data, .data, .sentinel, .sentinel, .pinned], laidTests := true, laidLooks := .later }
def DocTreeParentsCardSaid : Prop := Claim7.holds Tryz.pinned (.plain (OpenSpec.ofChange docTreeParentsSpec)) docTreeParentsCard

/-- THE TIED CARD OF 'chancerykeep1.DocCollectKeeps'. -/
def docCollectKeepsCard : Claim7 := { stood := { row := docCollectKeepsRow, standIns := [], harness := (true, "a46159021b9f2aa7f202efb2ea38654c6ab7239b66b7804f34034df747db997b"), looks := true }, kinds := [], alts := [], laidByText := true, laidKinds := [.data, .data, .data, .data, .sentinel, .sentinel, .pinned], laidTests := true, laidLooks := .later }
def DocCollectKeepsCardSaid : Prop := Claim7.holds Tryz.pinned (.plain (OpenSpec.ofChange docCollectKeepsSpec)) docCollectKeepsCard

/-- THE TIED CARD OF 'chancerykeep1.StyleDirectCounts'. -/
def styleDirectCountsCard : Claim7 := { stood := { row := styleDirectCountsRow, standIns := [], harness := (true, "a46159021b9f2aa7f202efb2ea38654c6ab7239b66b7804f34034df747db997b"), looks := true }, kinds := [], alts := [], laidByText := true, laidKinds := [.data, .data, .data, .data, .sentinel, .sentinel, .pinned], laidTests := true, laidLooks := .later }
def StyleDirectCountsCardSaid : Prop := Claim7.holds Tryz.pinned (.plain (OpenSpec.ofChange styleDirectCountsSpec)) styleDirectCountsCard

/-- THE TIED CARD OF 'chancerykeep1.OutlineCountsOn'. -/
def outlineCountsOnCard : Claim7 := { stood := { row := outlineCountsOnRow, standIns := [], harness := (true, "a46159021b9f2aa7f202efb2ea38654c6ab7239b66b7804f34034df747db997b"), looks := true }, kinds := [], alts := [], laidByText := true, laidKinds := [.data, .data, .data, .data, .sentinel, .sentinel, .pinned, .pinned], laidTests := true, laidLooks := .later }
def OutlineCountsOnCardSaid : Prop := Claim7.holds Tryz.pinned (.plain (OpenSpec.ofChange outlineCountsOnSpec)) outlineCountsOnCard

/-- THE SECOND FORM's CARD OF 'chancerykeep1.DocTreeParents'. -/
def docTreeParentsUptoCard : Claim7 := { stood := { row := docTreeParentsUptoRow, standIns := [], harness := (true, "a46159021b9f2aa7f202efb2ea38654c6ab7239b66b7804f34034df747db997b"), looks := true }, kinds := [], alts := [], laidByText := true, laidKinds := [.data, .data, .data, .data, .sentinel, .sentinel, .pinned], laidTests := true, laidLooks := .later }
def DocTreeParentsUptoCardSaid : Prop := Claim7.holds Tryz.pinned (.plain (OpenSpec.upto docTreeParentsSpec)) docTreeParentsUptoCard

/-- THE SECOND FORM's CARD OF 'chancerykeep1.DocCollectKeeps'. -/
def docCollectKeepsUptoCard : Claim7 := { stood := { row := docCollectKeepsUptoRow, standIns := [], harness := (true, "a46159021b9f2aa7f202efb2ea38654c6ab7239b66b7804f34034df747db997b"), looks := true }, kinds := [], alts := [], laidByText := true, laidKinds := [.data, .data, .data, .data, .sentinel, .sentinel, .pinned], laidTests := true, laidLooks := .later }
def DocCollectKeepsUptoCardSaid : Prop := Claim7.holds Tryz.pinned (.plain (OpenSpec.upto docCollectKeepsSpec)) docCollectKeepsUptoCard

/-- THE SECOND FORM's CARD OF 'chancerykeep1.StyleDirectCounts'. -/
def styleDirectCountsUptoCard : Claim7 := { stood := { row := styleDirectCountsUptoRow, standIns := [], harness := (true, "a46159021b9f2aa7f202efb2ea38654c6ab7239b66b7804f34034df747db997b"), looks := true }, kinds := [], alts := [], laidByText := true, laidKinds := [.data, .data, .data, .data, .sentinel, .sentinel, .pinned], laidTests := true, laidLooks := .later }
def StyleDirectCountsUptoCardSaid : Prop := Claim7.holds Tryz.pinned (.plain (OpenSpec.upto styleDirectCountsSpec)) styleDirectCountsUptoCard

/-- THE SECOND FORM's CARD OF 'chancerykeep1.OutlineCountsOn'. -/
def outlineCountsOnUptoCard : Claim7 := { stood := { row := outlineCountsOnUptoRow, standIns := [], harness := (true, "a46159021b9f2aa7f202efb2ea38654c6ab7239b66b7804f34034df747db997b"), looks := true }, kinds := [], alts := [], laidByText := true, laidKinds := [.data, .data, .data, .data, .sentinel, .sentinel, .pinned, .pinned], laidTests := true, laidLooks := .later }
def OutlineCountsOnUptoCardSaid : Prop := Claim7.holds Tryz.pinned (.plain (OpenSpec.upto outlineCountsOnSpec)) outlineCountsOnUptoCard
end Rows
end Go.Proofs.YtfhidobmbgmjfaaGreatDoor
