/- PROVED: UndoOthersStay returns true for every input: the tied card Rows.UndoOthersStayCardSaid. The listed variables are tied to the pruned copy of the program. -/
import Derived.Test.YtfihplmfjihpeaaGreatDoorM12

namespace Go.Proofs.YtfihplmfjihpeaaGreatDoor.undoOthersStay
open Go.ChangeShapes Go.WideShapes Go.ChangeAt Go.RowKit
open Go Go.Proofs Go.Ab Go.Ch
set_option linter.unusedVariables false
set_option linter.unusedSimpArgs false

theorem proved : Rows.UndoOthersStayCardSaid :=
  Claim7.holds_tied_plain_at .later [] _ _ _ _ said (fun _ h => by cases h) pw (fun _ h => by cases h) undoOthersStay_row_tie rfl ⟨rfl, rfl⟩ pm rfl plain pg
end Go.Proofs.YtfihplmfjihpeaaGreatDoor.undoOthersStay

