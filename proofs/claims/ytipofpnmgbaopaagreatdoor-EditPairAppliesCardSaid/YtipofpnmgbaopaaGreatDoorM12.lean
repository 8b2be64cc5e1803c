/- A part of the last text of LawFull_editPairApplies. -/
import Derived.Test.YtipofpnmgbaopaaGreatDoorM11
set_option linter.unusedVariables false
set_option linter.unusedSimpArgs false

namespace Go.Proofs.YtipofpnmgbaopaaGreatDoor.editPairApplies
open Go.ChangeShapes Go.WideShapes Go.ChangeAt Go.RowKit
open Go Go.Proofs Go.Ab Go.Ch

set_option maxRecDepth 100000 in
theorem w0m (os : Os) (started : os.Started) (H : Type) (enc : TypeId × Value -> H) :
    ReturnsInHanded {} Tryz.checked os 3 .any ((OpenSpec.ofChange Rows.editPairAppliesSpec).preRow enc Tryz.prog Tryz.f3 Rows.editPairAppliesRow.domain false Rows.editPairAppliesRow.laid) (Rows.editPairAppliesSpec.post enc Tryz.prog Tryz.f3 false true false false) := by
  obtain ⟨places, hx⟩ := reads os enc
  refine returnsInHanded_of_row (C := Tryz.checked) (F := fun _ _ _ => 0) (s := OpenSpec.ofChange Rows.editPairAppliesSpec) own started (by kernel_rfl) Tryz.func3
    (witness_row_at (enc := enc) (C := Tryz.checked) false (PJ os) #[.slice none 0 0, .slice none 0 0, .slice none 0 0] (World.laidAll_os _ _ _) (by kernel_rfl) (by kernel_rfl) (by kernel_rfl)
      (OpenSpec.preRow_of_cond 8 hx (by kernel_rfl) (fun k hk => by cases hk) (by kernel_rfl) (x5t os))) ?_
  intro W base args ds gs before iG hW _ _ _ hL _ _
  exact z9n H enc W base args ds gs before iG hW (x6v hL)
set_option maxRecDepth 100000 in
theorem y8z : joinedFacts Tryz.pinned.checked.prog 3 Tryz.f3 Rows.editPairAppliesSpec Rows.editPairAppliesRow = true := by
  unfold joinedFacts
  rw [frame.mayEnter, frame.AW, frame.made, frame.laid, frame.HZ, frame.AU, frame.AV, frame.heard, frame.keys]
  kernel_rfl
theorem w22 : Rows.EditPairAppliesSaid :=
  OpenClaim.holds_of_wide 3 Tryz.f3 rfl rfl rfl rfl rfl rfl rfl ⟨rfl, rfl, rfl, rfl, rfl⟩ rfl rfl rfl rfl rfl (by kernel_rfl) Tryz.func3 y8z
    (of_decide_eq_true (by kernel_rfl)) (by unfold Func.isWrapper; first | (rw [if_pos (by decide +kernel)]; kernel_rfl) | (rw [if_neg (by decide +kernel)]; exact ⟨rfl, rfl⟩))
    (fun os started H enc _ => by rw [OpenClaim.pre_eq_preRow]; exact w0m os started H enc)
end Go.Proofs.YtipofpnmgbaopaaGreatDoor.editPairApplies

