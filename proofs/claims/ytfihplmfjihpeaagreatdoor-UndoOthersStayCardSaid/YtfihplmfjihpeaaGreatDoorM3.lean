/- A closed fact of the last text of LawFull_undoOthersStay. -/
import Derived.Test.YtfihplmfjihpeaaGreatDoorM2
import Derived.Lay
import Derived.Test.YtfihplmfjihpeaaGreatDoorCards
import Derived.Test.YtfihplmfjihpeaaGreatDoorTie
import Derived.WalkKit
import Derived.ProofKit
import Derived.OpenShut
import Derived.Carry
import Derived.Deep.DeepHandedRow
import Derived.Lib.LaidTab
import Derived.Lib.LaidU8T
import Derived.ChangeMaps5
namespace Go.Proofs.YtfihplmfjihpeaaGreatDoor.undoOthersStay
open Go.ChangeShapes Go.WideShapes Go.ChangeAt Go.RowKit
open Go Go.Proofs Go.Ab
set_option linter.unusedVariables false
set_option linter.unusedSimpArgs false

theorem pw : OpenClaim.wfByText (OpenSpec.ofChange Rows.undoOthersStaySpec) Rows.undoOthersStayRow = true := by kernel_rfl
end Go.Proofs.YtfihplmfjihpeaaGreatDoor.undoOthersStay

