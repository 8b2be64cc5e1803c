/- A closed fact of the last text of LawFull_editPairApplies. -/
import Derived.Test.YtipofpnmgbaopaaGreatDoorM2
import Derived.Lay
import Derived.Test.YtipofpnmgbaopaaGreatDoorCards
import Derived.Test.YtipofpnmgbaopaaGreatDoorTie
import Derived.WalkKit
import Derived.ProofKit
import Derived.OpenShut
import Derived.Carry
import Derived.Deep.DeepHandedRow
import Derived.Lib.LaidTab
import Derived.Lib.LaidU8T
import Derived.ChangeMaps5
set_option linter.unusedVariables false
set_option linter.unusedSimpArgs false
namespace Go.Proofs.YtipofpnmgbaopaaGreatDoor.editPairApplies
open Go.ChangeShapes Go.WideShapes Go.ChangeAt Go.RowKit
open Go Go.Proofs Go.Ab

theorem pw : OpenClaim.wfByText (OpenSpec.ofChange Rows.editPairAppliesSpec) Rows.editPairAppliesRow = true := by kernel_rfl
end Go.Proofs.YtipofpnmgbaopaaGreatDoor.editPairApplies

