/- PROVED: ReplicaTowardsBack returns true for every input: Rows.ReplicaTowardsBackSaid. Conditions: none beyond the given row. -/
import Derived.Test.YthpcjddcgdlilaaM1
import Derived.Test.YthpcjddcgdlilaaM2
import Derived.Test.YthpcjddcgdlilaaM3
import Derived.Test.YthpcjddcgdlilaaM4
import Derived.Test.YthpcjddcgdlilaaM5
import Derived.Test.YthpcjddcgdlilaaM6
import Derived.Test.YthpcjddcgdlilaaM7
import Derived.Test.YthpcjddcgdlilaaM8
import Derived.Test.YthpcjddcgdlilaaRows
import Derived.WalkKit
import Derived.ProofKit
import Derived.OpenShut
import Derived.ShutString
import Derived.ChangeOld
import Derived.Below
import Derived.Carry

namespace Go.Proofs.Ythpcjddcgdlilaa.replicaTowardsBack
open Go.ChangeShapes Go.WideShapes Go.ChangeAt Go.RowKit
open Go Go.Proofs Go.Ab Go.Ch
set_option linter.unusedVariables false
set_option linter.unusedSimpArgs false

theorem own : ownKnob Try.prog.godebug = none := by kernel_rfl
theorem laidOut : laidOutB Try.prog = true := by kernel_rfl
theorem tabs {W : World} : TabW Try.prog W := fun a b ha _ => by
  have h : Try.prog.globalNamed "unicode/utf8.first" = none := by kernel_rfl
  rw [h] at ha; cases ha
set_option maxRecDepth 100000 in
theorem rdInt : Rd Try.prog 3 1 intT := Rd.int Try.underlying3 (by kernel_rfl)
theorem rdInts : Rd Try.prog 22 1 (fun l : List Int => .lst 1 (l.map intT)) := Rd.slice Try.underlying22 (by decide) (by kernel_rfl) rdInt

set_option maxRecDepth 100000 in
theorem lifted (os : Os) (started : os.Started) (H : Type) (enc : TypeId × Value → H) :
    ReturnsInHanded {} Try.checked os 6 .any (Rows.replicaTowardsBackSpec.pre6 enc Try.prog Try.f6 Rows.replicaTowardsBackRow.domain false) (Rows.replicaTowardsBackSpec.post enc Try.prog Try.f6 false true false false) := by
  refine returnsInHanded_of_change (C := Try.checked) own started (by kernel_rfl) Try.func6
    (ChangeSpec.witness6 (enc := enc) (C := Try.checked) false ⟨#[], #[.slice none 0 0, .slice none 0 0], []⟩ 8 (by kernel_rfl) (by kernel_rfl) (by kernel_rfl) (by kernel_rfl)) ?_
  intro W base args ds gs before hval0 hW hcnd _
  have hval : ∀ (j : Nat) t v, Try.f6.params[j]? = some t → args[j]? = some v → Value.okWide Try.prog W .any base t v := hval0
  have hW' := hW
  obtain ⟨p, q, hA0, hV, rfl, hfz, hnd⟩ := hW
  have hA : DataW.TrodAll enc Try.prog W 0 (fun _ => true) true Try.f6.params.toList args.toList ds p := hA0
  rw [Try.params6] at hA hval
  obtain ⟨v0, vs0, d0, ds0, p0, q0, hargs, rfl, rfl, h0, r0⟩ := trodAll_cons hA
  obtain ⟨v1, vs1, d1, ds1, p1, q1, rfl, rfl, rfl, h1, r1⟩ := trodAll_cons r0
  obtain ⟨rfl, rfl, rfl⟩ := trodAll_nil r1
  obtain rfl : args = #[v0, v1] := by cases args; simp_all
  obtain ⟨rfl, rfl⟩ := trodVars_none hV
  obtain ⟨a0, len0, cap0, rfl⟩ := okWide_slice Try.underlying22 (hval 0 22 v0 rfl rfl)
  obtain ⟨a1, len1, cap1, rfl⟩ := okWide_slice Try.underlying22 (hval 1 22 v1 rfl rfl)
  have lt0 : ∀ x ∈ p0, x.block < W.heap.size := by obtain ⟨m, hm⟩ := h0; exact DataW.trod_lt m _ _ _ hm
  have lt1 : ∀ x ∈ p1, x.block < W.heap.size := by obtain ⟨m, hm⟩ := h1; exact DataW.trod_lt m _ _ _ hm
  obtain ⟨x0, t0⟩ := rdInts.arg (fun _ => rfl) h0 rfl
  obtain ⟨x1, t1⟩ := rdInts.arg (fun _ => rfl) h1 rfl
  clear hA0 hval0
  refine ((fc_towBack x0 x1).law tabs (us := [.slice a0 len0 cap0, .slice a1 len1 cap1]) rfl (fun i a u ha hu => ?_)).mono fun e W' ⟨he, bel⟩ => ?_
  · match i with
    | 0 => cases ha; cases hu; exact ⟨_, rfl, t0⟩
    | 1 => cases ha; cases hu; exact ⟨_, rfl, t1⟩
    | i + 2 => cases ha
  subst he
  exact ⟨_, rfl, _, _, _, [], _, [], hW', trodAll_mk1 (shut_bool Try.underlying4 _), (trodAll_cons_mk (Below.trod laidOut (by kernel_rfl) (of_decide_eq_true (by kernel_rfl)) h0 bel lt0) (trodAll_cons_mk (Below.trod laidOut (by kernel_rfl) (of_decide_eq_true (by kernel_rfl)) h1 bel lt1) trodAll_mk0)), rfl, bel.frame _, fun h => by cases h⟩

theorem closed : joinedFacts Try.pinned.checked.prog 6 Try.f6 Rows.replicaTowardsBackSpec Rows.replicaTowardsBackRow = true := by
  unfold joinedFacts
  rw [frame.mayEnter, frame.liftsNo, frame.made, frame.laid, frame.rowed, frame.noStops, frame.noKnobs, frame.heard, frame.keys]
  kernel_rfl

theorem over : Rows.replicaTowardsBackRow.holds Try.pinned (OpenSpec.ofChange Rows.replicaTowardsBackSpec) :=
  OpenClaim.holds_of_wide 6 Try.f6 rfl rfl rfl rfl rfl rfl rfl ⟨rfl, rfl, rfl, rfl, rfl⟩ rfl rfl rfl rfl rfl (by kernel_rfl) Try.func6 closed
    (of_decide_eq_true (by kernel_rfl)) (by unfold Func.isWrapper; first | (rw [if_pos (by decide +kernel)]; kernel_rfl) | (rw [if_neg (by decide +kernel)]; exact ⟨rfl, rfl⟩))
    (fun os started H enc _ => lifted os started H enc)
theorem proved : Rows.ReplicaTowardsBackSaid := over
end Go.Proofs.Ythpcjddcgdlilaa.replicaTowardsBack
