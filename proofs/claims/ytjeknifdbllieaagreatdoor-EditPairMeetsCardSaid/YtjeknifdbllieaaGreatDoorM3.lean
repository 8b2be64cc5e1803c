/- A closed fact of the last text of LawFull_editPairMeets. -/
import Derived.Test.YtjeknifdbllieaaGreatDoorM2
import Derived.Lay
import Derived.Test.YtjeknifdbllieaaGreatDoorCards
import Derived.Test.YtjeknifdbllieaaGreatDoorTie
import Derived.WalkKit
import Derived.ProofKit
import Derived.OpenShut
import Derived.Carry
import Derived.Deep.DeepHandedRow
import Derived.Lib.LaidTab
import Derived.Lib.LaidU8T
import Derived.ChangeMaps5
set_option linter.unusedVariables false
set_option linter.unusedSimpArgs false
namespace Go.Proofs.YtjeknifdbllieaaGreatDoor.editPairMeets
open Go.ChangeShapes Go.WideShapes Go.ChangeAt Go.RowKit
open Go Go.Proofs Go.Ab

theorem pw : OpenClaim.wfByText (OpenSpec.ofChange Rows.editPairMeetsSpec) Rows.editPairMeetsRow = true := by kernel_rfl
end Go.Proofs.YtjeknifdbllieaaGreatDoor.editPairMeets

