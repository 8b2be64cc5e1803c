/- PROVED: MergeParagraphs returns true for every input of bulk at most 1048576: the tied card Rows.MergeParagraphsUptoCardSaid. The listed variables are tied to the pruned copy of the program. -/
import Derived.Test.YtnlggoddkiiblaaGreatDoorM1
import Derived.Test.YtnlggoddkiiblaaGreatDoorM2
import Derived.Test.YtnlggoddkiiblaaGreatDoorM3
import Derived.Test.YtnlggoddkiiblaaGreatDoorM4
import Derived.Test.YtnlggoddkiiblaaGreatDoorM5
import Derived.Test.YtnlggoddkiiblaaGreatDoorM6
import Derived.Test.YtnlggoddkiiblaaGreatDoorM7
import Derived.Test.YtnlggoddkiiblaaGreatDoorM8
import Derived.Test.YtnlggoddkiiblaaGreatDoorM9
import Derived.Test.YtnlggoddkiiblaaGreatDoorM10
import Derived.Test.YtnlggoddkiiblaaGreatDoorM11
import Derived.Test.YtnlggoddkiiblaaGreatDoorM12
import Derived.Lay
import Derived.Test.YtnlggoddkiiblaaGreatDoorCards
import Derived.Test.YtnlggoddkiiblaaGreatDoorTie
import Derived.WalkKit
import Derived.ProofKit
import Derived.OpenShut
import Derived.Below
import Derived.Carry
import Derived.ChangeOld
import Derived.JoinedCond
import Derived.Deep.DeepHandedRow
import Derived.Lib.LaidTab
import Derived.Lib.LaidU8T
import Derived.ChangeMaps5
set_option linter.unusedVariables false
set_option linter.unusedSimpArgs false

namespace Go.Proofs.YtnlggoddkiiblaaGreatDoor.mergeParagraphs
open Go.ChangeShapes Go.WideShapes Go.ChangeAt Go.RowKit
open Go Go.Proofs Go.Ab Go.Ch

theorem proved : Rows.MergeParagraphsUptoCardSaid :=
  Claim7.holds_tied_plain_at .later [] _ _ _ _ y7I (fun _ h => by cases h) pw (fun _ h => by cases h) mergeParagraphsUpto_row_tie rfl ⟨rfl, rfl⟩ pm rfl plain pg
end Go.Proofs.YtnlggoddkiiblaaGreatDoor.mergeParagraphs

