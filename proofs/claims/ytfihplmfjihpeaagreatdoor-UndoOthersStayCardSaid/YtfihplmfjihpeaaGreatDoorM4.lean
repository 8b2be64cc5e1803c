/- A closed fact of the last text of LawFull_undoOthersStay. -/
import Derived.Test.YtfihplmfjihpeaaGreatDoorM3
namespace Go.Proofs.YtfihplmfjihpeaaGreatDoor.undoOthersStay
open Go.ChangeShapes Go.WideShapes Go.ChangeAt Go.RowKit
open Go Go.Proofs Go.Ab
set_option linter.unusedVariables false
set_option linter.unusedSimpArgs false

theorem pm : Tryz.pinned.checked.prog.mainIs = some (Rows.undoOthersStayCard.stood.harness.1, Rows.undoOthersStayCard.stood.harness.2.toList) := by kernel_rfl
end Go.Proofs.YtfihplmfjihpeaaGreatDoor.undoOthersStay

