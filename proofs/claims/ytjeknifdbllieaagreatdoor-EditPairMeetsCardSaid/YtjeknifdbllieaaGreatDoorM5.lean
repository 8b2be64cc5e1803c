/- A closed fact of the last text of LawFull_editPairMeets. -/
import Derived.Test.YtjeknifdbllieaaGreatDoorM4
set_option linter.unusedVariables false
set_option linter.unusedSimpArgs false
namespace Go.Proofs.YtjeknifdbllieaaGreatDoor.editPairMeets
open Go.ChangeShapes Go.WideShapes Go.ChangeAt Go.RowKit
open Go Go.Proofs Go.Ab

theorem pg : false = Rows.editPairMeetsRow.goesBy Tryz.pinned.checked.prog := by kernel_rfl
end Go.Proofs.YtjeknifdbllieaaGreatDoor.editPairMeets

