/- PROVED: EditPairMeets returns true for every input: the tied card Rows.EditPairMeetsCardSaid. The listed variables are tied to the pruned copy of the program. -/
import Derived.Test.YtjeknifdbllieaaGreatDoorM12
set_option linter.unusedVariables false
set_option linter.unusedSimpArgs false

namespace Go.Proofs.YtjeknifdbllieaaGreatDoor.editPairMeets
open Go.ChangeShapes Go.WideShapes Go.ChangeAt Go.RowKit
open Go Go.Proofs Go.Ab Go.Ch

theorem proved : Rows.EditPairMeetsCardSaid :=
  Claim7.holds_tied_plain_at .later [] _ _ _ _ w0d (fun _ h => by cases h) pw (fun _ h => by cases h) editPairMeets_row_tie rfl ⟨rfl, rfl⟩ pm rfl y13 pg
end Go.Proofs.YtjeknifdbllieaaGreatDoor.editPairMeets

