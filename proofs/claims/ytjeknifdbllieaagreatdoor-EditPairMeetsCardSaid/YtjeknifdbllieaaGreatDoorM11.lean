/- A part of the last text of LawFull_editPairMeets. -/
import Derived.Test.YtjeknifdbllieaaGreatDoorM10
set_option linter.unusedVariables false
set_option linter.unusedSimpArgs false

namespace Go.Proofs.YtjeknifdbllieaaGreatDoor.editPairMeets
open Go.ChangeShapes Go.WideShapes Go.ChangeAt Go.RowKit
open Go Go.Proofs Go.Ab Go.Ch

set_option maxRecDepth 100000 in
theorem x7E (os : Os) (started : os.Started) (H : Type) (enc : TypeId × Value -> H) :
    ReturnsInHanded {} Tryz.checked os 3 .any ((OpenSpec.ofChange Rows.editPairMeetsSpec).preRow enc Tryz.prog Tryz.f3 Rows.editPairMeetsRow.domain false Rows.editPairMeetsRow.laid) (Rows.editPairMeetsSpec.post enc Tryz.prog Tryz.f3 false true false false) := by
  obtain ⟨places, hx⟩ := reads os enc
  refine returnsInHanded_of_row (C := Tryz.checked) (F := fun _ _ _ => 0) (s := OpenSpec.ofChange Rows.editPairMeetsSpec) own started (by kernel_rfl) Tryz.func3
    (witness_row_at (enc := enc) (C := Tryz.checked) false (z9G os) #[.slice none 0 0, .slice none 0 0, .slice none 0 0] (World.laidAll_os _ _ _) (by kernel_rfl) (by kernel_rfl) (by kernel_rfl)
      (OpenSpec.preRow_of_cond 8 hx (by kernel_rfl) (fun k hk => by cases hk) (by kernel_rfl) (x3p os))) ?_
  intro W base args ds gs before hval hW _ _ _ hL _ _
  exact z8D H enc W base args ds gs before hval hW (x4h hL)
set_option maxRecDepth 100000 in
theorem y67 : joinedFacts Tryz.pinned.checked.prog 3 Tryz.f3 Rows.editPairMeetsSpec Rows.editPairMeetsRow = true := by
  unfold joinedFacts
  rw [frame.mayEnter, frame.liftsNo, frame.made, frame.laid, frame.rowed, frame.noStops, frame.noKnobs, frame.heard, frame.keys]
  kernel_rfl
theorem w0d : Rows.EditPairMeetsSaid :=
  OpenClaim.holds_of_wide 3 Tryz.f3 rfl rfl rfl rfl rfl rfl rfl ⟨rfl, rfl, rfl, rfl, rfl⟩ rfl rfl rfl rfl rfl (by kernel_rfl) Tryz.func3 y67
    (of_decide_eq_true (by kernel_rfl)) (by unfold Func.isWrapper; first | (rw [if_pos (by decide +kernel)]; kernel_rfl) | (rw [if_neg (by decide +kernel)]; exact ⟨rfl, rfl⟩))
    (fun os started H enc _ => by rw [OpenClaim.pre_eq_preRow]; exact x7E os started H enc)
end Go.Proofs.YtjeknifdbllieaaGreatDoor.editPairMeets

