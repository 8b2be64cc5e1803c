/- A part of the last text of LawTyped. -/
import Derived.Test.YtlgmgpnjkadhfaaGreatDoorM1
import Derived.Test.YtlgmgpnjkadhfaaGreatDoorM2
import Derived.Test.YtlgmgpnjkadhfaaGreatDoorM3
import Derived.Test.YtlgmgpnjkadhfaaGreatDoorM4
import Derived.Test.YtlgmgpnjkadhfaaGreatDoorM5
import Derived.Test.YtlgmgpnjkadhfaaGreatDoorM6
import Derived.Test.YtlgmgpnjkadhfaaGreatDoorM7
import Derived.Lay
import Derived.Test.YtlgmgpnjkadhfaaGreatDoorCards
import Derived.Test.YtlgmgpnjkadhfaaGreatDoorTie
import Derived.WalkKit
import Derived.ProofKit
import Derived.OpenShut
import Derived.Below
import Derived.Carry
import Derived.ChangeOld
import Derived.JoinedCond
import Derived.Deep.DeepHandedRow
import Derived.Lib.LaidTab
import Derived.Lib.LaidU8T
import Derived.ChangeMaps5
set_option linter.unusedVariables false
set_option linter.unusedSimpArgs false
namespace Go.Proofs.YtlgmgpnjkadhfaaGreatDoor.selectionTypedShows
open Go.ChangeShapes Go.WideShapes Go.ChangeAt Go.RowKit
open Go Go.Proofs Go.Ab Go.Ch
set_option maxRecDepth 100000 in
theorem lifted(os:Os)(started:os.Started)(H:Type)(enc:TypeId×Value->H)(F:Stop.Interp):
 ReturnsInHanded {} Tryz.checked os 3 .any ((Rows.OpenSpec.upto Rows.selectionTypedShowsSpec).preRow enc Tryz.prog Tryz.f3 Rows.selectionTypedShowsUptoRow.domain false Rows.selectionTypedShowsUptoRow.laid) (((Rows.OpenSpec.upto Rows.selectionTypedShowsSpec).at F).post enc Tryz.prog Tryz.f3 false true false false):=by
 obtain⟨places,hx⟩:=reads os enc
 refine returnsInHanded_of_row (C:=Tryz.checked) (s:=Rows.OpenSpec.upto Rows.selectionTypedShowsSpec) own started (by kernel_rfl) Tryz.func3
  (witness_row_at (enc:=enc) (C:=Tryz.checked) false (laidWorld os) #[.slice none 0 0,.int .i64 0,.int .i64 0,.string {data:=#[]}] (World.laidAll_os _ _ _) (by kernel_rfl) (by kernel_rfl) (by kernel_rfl)
   (OpenSpec.preRow_of_cond 8 hx (by kernel_rfl) (fun k hk=>by cases hk;kernel_rfl) (by kernel_rfl) (laid_met os))) ?_
 intro W base args ds gs before hval hW _ hcond _ hL _ _
 exact contract H enc W base args ds gs before hval hW (hcond _ rfl) (tables hL)
set_option maxRecDepth 100000 in
theorem closed:joinedFacts Tryz.pinned.checked.prog 3 Tryz.f3 (Rows.OpenSpec.upto Rows.selectionTypedShowsSpec).bare Rows.selectionTypedShowsUptoRow=true:=by
 unfold joinedFacts
 rw[frame.mayEnter,frame.liftsNo,frame.made,frame.laid,frame.rowed,frame.noStops,frame.noKnobs,frame.heard,frame.keys]
 kernel_rfl
theorem saidUpto:Rows.SelectionTypedShowsUptoSaid:=
 OpenClaim.holds_of_cond 3 Tryz.f3 rfl rfl rfl rfl rfl rfl rfl ⟨rfl,rfl,rfl,rfl,rfl⟩ rfl rfl rfl rfl rfl (by kernel_rfl) Tryz.func3 closed
  (of_decide_eq_true (by kernel_rfl)) (by unfold Func.isWrapper;first| (rw[if_pos (by decide+kernel)];kernel_rfl)| (rw[if_neg (by decide+kernel)];exact⟨rfl,rfl⟩))
  (fun os started H enc _ F=>by rw[OpenClaim.pre_eq_preRow];exact lifted os started H enc F)
end Go.Proofs.YtlgmgpnjkadhfaaGreatDoor.selectionTypedShows
