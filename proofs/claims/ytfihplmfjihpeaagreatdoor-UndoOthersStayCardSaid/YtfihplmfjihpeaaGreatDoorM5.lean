/- A closed fact of the last text of LawFull_undoOthersStay. -/
import Derived.Test.YtfihplmfjihpeaaGreatDoorM4
namespace Go.Proofs.YtfihplmfjihpeaaGreatDoor.undoOthersStay
open Go.ChangeShapes Go.WideShapes Go.ChangeAt Go.RowKit
open Go Go.Proofs Go.Ab
set_option linter.unusedVariables false
set_option linter.unusedSimpArgs false

theorem pg : false = Rows.undoOthersStayRow.goesBy Tryz.pinned.checked.prog := by kernel_rfl
end Go.Proofs.YtfihplmfjihpeaaGreatDoor.undoOthersStay

