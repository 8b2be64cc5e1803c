/- A part of the last text of LawUp_mergeParagraphs. -/
import Derived.Test.YtnlggoddkiiblaaGreatDoorM1
import Derived.Test.YtnlggoddkiiblaaGreatDoorM2
import Derived.Test.YtnlggoddkiiblaaGreatDoorM3
import Derived.Test.YtnlggoddkiiblaaGreatDoorM4
import Derived.Test.YtnlggoddkiiblaaGreatDoorM5
import Derived.Test.YtnlggoddkiiblaaGreatDoorM6
import Derived.Test.YtnlggoddkiiblaaGreatDoorM7
import Derived.Test.YtnlggoddkiiblaaGreatDoorM8
import Derived.Test.YtnlggoddkiiblaaGreatDoorM9
import Derived.Test.YtnlggoddkiiblaaGreatDoorM10
import Derived.Lay
import Derived.Test.YtnlggoddkiiblaaGreatDoorCards
import Derived.Test.YtnlggoddkiiblaaGreatDoorTie
import Derived.WalkKit
import Derived.ProofKit
import Derived.OpenShut
import Derived.Below
import Derived.Carry
import Derived.ChangeOld
import Derived.JoinedCond
import Derived.Deep.DeepHandedRow
import Derived.Lib.LaidTab
import Derived.Lib.LaidU8T
import Derived.ChangeMaps5
set_option linter.unusedVariables false
set_option linter.unusedSimpArgs false

namespace Go.Proofs.YtnlggoddkiiblaaGreatDoor.mergeParagraphs
open Go.ChangeShapes Go.WideShapes Go.ChangeAt Go.RowKit
open Go Go.Proofs Go.Ab Go.Ch

set_option maxRecDepth 100000 in
theorem x0p (os : Os) (started : os.Started) (H : Type) (enc : TypeId × Value -> H) (F : Stop.Interp) :
    ReturnsInHanded {} Tryz.checked os 3 .any ((Rows.OpenSpec.upto Rows.mergeParagraphsSpec).preRow enc Tryz.prog Tryz.f3 Rows.mergeParagraphsUptoRow.domain false Rows.mergeParagraphsUptoRow.laid) (((Rows.OpenSpec.upto Rows.mergeParagraphsSpec).at F).post enc Tryz.prog Tryz.f3 false true false false) := by
  obtain ⟨places, hx⟩ := reads os enc
  refine returnsInHanded_of_row (C := Tryz.checked) (s := Rows.OpenSpec.upto Rows.mergeParagraphsSpec) own started (by kernel_rfl) Tryz.func3
    (witness_row_at (enc := enc) (C := Tryz.checked) false (z6H os) #[.string { data := #[] }, .string { data := #[] }] (World.laidAll_os _ _ _) (by kernel_rfl) (by kernel_rfl) (by kernel_rfl)
      (OpenSpec.preRow_of_cond 8 hx (by kernel_rfl) (fun k hk => by cases hk; kernel_rfl) (by kernel_rfl) (y7G os))) ?_
  intro W base args ds gs before hval hW _ hcond _ hL _ _
  exact z5R H enc W base args ds gs before hval hW (hcond _ rfl) (y8e hL)
set_option maxRecDepth 100000 in
theorem y2F : joinedFacts Tryz.pinned.checked.prog 3 Tryz.f3 (Rows.OpenSpec.upto Rows.mergeParagraphsSpec).bare Rows.mergeParagraphsUptoRow = true := by
  unfold joinedFacts
  rw [frame.mayEnter, frame.liftsNo, frame.made, frame.laid, frame.rowed, frame.noStops, frame.noKnobs, frame.heard, frame.keys]
  kernel_rfl
theorem y7I : Rows.MergeParagraphsUptoSaid :=
  OpenClaim.holds_of_cond 3 Tryz.f3 rfl rfl rfl rfl rfl rfl rfl ⟨rfl, rfl, rfl, rfl, rfl⟩ rfl rfl rfl rfl rfl (by kernel_rfl) Tryz.func3 y2F
    (of_decide_eq_true (by kernel_rfl)) (by unfold Func.isWrapper; first | (rw [if_pos (by decide +kernel)]; kernel_rfl) | (rw [if_neg (by decide +kernel)]; exact ⟨rfl, rfl⟩))
    (fun os started H enc _ F => by rw [OpenClaim.pre_eq_preRow]; exact x0p os started H enc F)
end Go.Proofs.YtnlggoddkiiblaaGreatDoor.mergeParagraphs

