/- A closed fact of the last text of LawUp_mergeParagraphs. -/
import Derived.Test.YtnlggoddkiiblaaGreatDoorM1
import Derived.Test.YtnlggoddkiiblaaGreatDoorM2
import Derived.Lay
import Derived.Test.YtnlggoddkiiblaaGreatDoorCards
import Derived.Test.YtnlggoddkiiblaaGreatDoorTie
import Derived.WalkKit
import Derived.ProofKit
import Derived.OpenShut
import Derived.Below
import Derived.Carry
import Derived.ChangeOld
import Derived.JoinedCond
import Derived.Deep.DeepHandedRow
import Derived.Lib.LaidTab
import Derived.Lib.LaidU8T
import Derived.ChangeMaps5
set_option linter.unusedVariables false
set_option linter.unusedSimpArgs false
namespace Go.Proofs.YtnlggoddkiiblaaGreatDoor.mergeParagraphs
open Go.ChangeShapes Go.WideShapes Go.ChangeAt Go.RowKit
open Go Go.Proofs Go.Ab

theorem pw : Rows.mergeParagraphsUptoRow.wfByText (Rows.OpenSpec.upto Rows.mergeParagraphsSpec) = true := by kernel_rfl
end Go.Proofs.YtnlggoddkiiblaaGreatDoor.mergeParagraphs

