/- PROVED: EditPairApplies returns true for every input: the tied card Rows.EditPairAppliesCardSaid. The listed variables are tied to the pruned copy of the program. -/
import Derived.Test.YtipofpnmgbaopaaGreatDoorM13
set_option linter.unusedVariables false
set_option linter.unusedSimpArgs false

namespace Go.Proofs.YtipofpnmgbaopaaGreatDoor.editPairApplies
open Go.ChangeShapes Go.WideShapes Go.ChangeAt Go.RowKit
open Go Go.Proofs Go.Ab Go.Ch

theorem proved : Rows.EditPairAppliesCardSaid :=
  Claim7.holds_tied_plain_at .later [] _ _ _ _ w22 (fun _ h => by cases h) pw (fun _ h => by cases h) editPairApplies_row_tie rfl ⟨rfl, rfl⟩ pm rfl y22 pg
end Go.Proofs.YtipofpnmgbaopaaGreatDoor.editPairApplies

