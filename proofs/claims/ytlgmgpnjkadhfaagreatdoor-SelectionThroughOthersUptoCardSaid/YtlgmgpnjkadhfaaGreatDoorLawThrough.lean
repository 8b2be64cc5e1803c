/- PROVED: SelectionThroughOthers returns true for every input of bulk at most 1048576: the tied card Rows.SelectionThroughOthersUptoCardSaid. The listed variables are tied to the pruned copy of the program. -/
import Derived.Test.YtlgmgpnjkadhfaaGreatDoorM1
import Derived.Test.YtlgmgpnjkadhfaaGreatDoorM2
import Derived.Test.YtlgmgpnjkadhfaaGreatDoorM3
import Derived.Test.YtlgmgpnjkadhfaaGreatDoorM4
import Derived.Test.YtlgmgpnjkadhfaaGreatDoorM5
import Derived.Test.YtlgmgpnjkadhfaaGreatDoorM6
import Derived.Test.YtlgmgpnjkadhfaaGreatDoorM7
import Derived.Test.YtlgmgpnjkadhfaaGreatDoorM8
import Derived.Test.YtlgmgpnjkadhfaaGreatDoorM9
import Derived.Lay
import Derived.Test.YtlgmgpnjkadhfaaGreatDoorCards
import Derived.Test.YtlgmgpnjkadhfaaGreatDoorTie
import Derived.WalkKit
import Derived.ProofKit
import Derived.OpenShut
import Derived.Below
import Derived.Carry
import Derived.ChangeOld
import Derived.JoinedCond
import Derived.Deep.DeepHandedRow
import Derived.Lib.LaidTab
import Derived.Lib.LaidU8T
import Derived.ChangeMaps5
set_option linter.unusedVariables false
set_option linter.unusedSimpArgs false
namespace Go.Proofs.YtlgmgpnjkadhfaaGreatDoor.selectionThroughOthers
open Go.ChangeShapes Go.WideShapes Go.ChangeAt Go.RowKit
open Go Go.Proofs Go.Ab Go.Ch
theorem proved:Rows.SelectionThroughOthersUptoCardSaid:=
 Claim7.holds_tied_plain_at .later [] _ _ _ _ saidUpto (fun _ h=>by cases h) (by kernel_rfl) (fun _ h=>by cases h) selectionThroughOthersUpto_row_tie rfl ⟨rfl,rfl⟩ (by kernel_rfl) rfl plain (by kernel_rfl)
end Go.Proofs.YtlgmgpnjkadhfaaGreatDoor.selectionThroughOthers
