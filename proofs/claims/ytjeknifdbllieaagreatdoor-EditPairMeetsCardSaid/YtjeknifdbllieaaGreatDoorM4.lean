/- A closed fact of the last text of LawFull_editPairMeets. -/
import Derived.Test.YtjeknifdbllieaaGreatDoorM3
set_option linter.unusedVariables false
set_option linter.unusedSimpArgs false
namespace Go.Proofs.YtjeknifdbllieaaGreatDoor.editPairMeets
open Go.ChangeShapes Go.WideShapes Go.ChangeAt Go.RowKit
open Go Go.Proofs Go.Ab

theorem pm : Tryz.pinned.checked.prog.mainIs = some (Rows.editPairMeetsCard.stood.harness.1, Rows.editPairMeetsCard.stood.harness.2.toList) := by kernel_rfl
end Go.Proofs.YtjeknifdbllieaaGreatDoor.editPairMeets

