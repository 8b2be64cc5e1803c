/- A closed fact of the last text of LawFull_editPairApplies. -/
import Derived.Test.YtipofpnmgbaopaaGreatDoorM3
set_option linter.unusedVariables false
set_option linter.unusedSimpArgs false
namespace Go.Proofs.YtipofpnmgbaopaaGreatDoor.editPairApplies
open Go.ChangeShapes Go.WideShapes Go.ChangeAt Go.RowKit
open Go Go.Proofs Go.Ab

theorem pm : Tryz.pinned.checked.prog.mainIs = some (Rows.editPairAppliesCard.stood.harness.1, Rows.editPairAppliesCard.stood.harness.2.toList) := by kernel_rfl
end Go.Proofs.YtipofpnmgbaopaaGreatDoor.editPairApplies

