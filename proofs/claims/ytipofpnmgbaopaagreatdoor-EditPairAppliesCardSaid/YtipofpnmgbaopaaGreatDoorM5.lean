/- A closed fact of the last text of LawFull_editPairApplies. -/
import Derived.Test.YtipofpnmgbaopaaGreatDoorM4
set_option linter.unusedVariables false
set_option linter.unusedSimpArgs false
namespace Go.Proofs.YtipofpnmgbaopaaGreatDoor.editPairApplies
open Go.ChangeShapes Go.WideShapes Go.ChangeAt Go.RowKit
open Go Go.Proofs Go.Ab

theorem pg : false = Rows.editPairAppliesRow.goesBy Tryz.pinned.checked.prog := by kernel_rfl
end Go.Proofs.YtipofpnmgbaopaaGreatDoor.editPairApplies

