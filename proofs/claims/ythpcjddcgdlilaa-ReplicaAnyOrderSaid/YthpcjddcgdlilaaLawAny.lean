/- PROVED: ReplicaAnyOrder returns true for every input: Rows.ReplicaAnyOrderSaid. Conditions: none beyond the given row. -/
import Derived.Test.YthpcjddcgdlilaaM1
import Derived.Test.YthpcjddcgdlilaaM2
import Derived.Test.YthpcjddcgdlilaaM3
import Derived.Test.YthpcjddcgdlilaaM4
import Derived.Test.YthpcjddcgdlilaaM5
import Derived.Test.YthpcjddcgdlilaaM6
import Derived.Test.YthpcjddcgdlilaaM7
import Derived.Test.YthpcjddcgdlilaaRows
import Derived.WalkKit
import Derived.ProofKit
import Derived.OpenShut
import Derived.ShutString
import Derived.ChangeOld
import Derived.Below
import Derived.Carry

namespace Go.Proofs.Ythpcjddcgdlilaa.replicaAnyOrder
open Go.ChangeShapes Go.WideShapes Go.ChangeAt Go.RowKit
open Go Go.Proofs Go.Ab Go.Ch
set_option linter.unusedVariables false
set_option linter.unusedSimpArgs false

theorem own : ownKnob Try.prog.godebug = none := by kernel_rfl
theorem laidOut : laidOutB Try.prog = true := by kernel_rfl
theorem tabs {W : World} : TabW Try.prog W := fun a b ha _ => by
  have h : Try.prog.globalNamed "unicode/utf8.first" = none := by kernel_rfl
  rw [h] at ha; cases ha
set_option maxRecDepth 100000 in
theorem rdInt : Rd Try.prog 3 1 intT := Rd.int Try.underlying3 (by kernel_rfl)
theorem rdInts : Rd Try.prog 22 1 (fun l : List Int => .lst 1 (l.map intT)) := Rd.slice Try.underlying22 (by decide) (by kernel_rfl) rdInt

set_option maxRecDepth 100000 in
theorem lifted (os : Os) (started : os.Started) (H : Type) (enc : TypeId × Value → H) :
    ReturnsInHanded {} Try.checked os 3 .any (Rows.replicaAnyOrderSpec.pre6 enc Try.prog Try.f3 Rows.replicaAnyOrderRow.domain false) (Rows.replicaAnyOrderSpec.post enc Try.prog Try.f3 false true false false) := by
  refine returnsInHanded_of_change (C := Try.checked) own started (by kernel_rfl) Try.func3
    (ChangeSpec.witness6 (enc := enc) (C := Try.checked) false ⟨#[], #[.slice none 0 0, .slice none 0 0, .slice none 0 0, .int .i64 0], []⟩ 8 (by kernel_rfl) (by kernel_rfl) (by kernel_rfl) (by kernel_rfl)) ?_
  intro W base args ds gs before hval0 hW hcnd _
  have hval : ∀ (j : Nat) t v, Try.f3.params[j]? = some t → args[j]? = some v → Value.okWide Try.prog W .any base t v := hval0
  have hW' := hW
  obtain ⟨p, q, hA0, hV, rfl, hfz, hnd⟩ := hW
  have hA : DataW.TrodAll enc Try.prog W 0 (fun _ => true) true Try.f3.params.toList args.toList ds p := hA0
  rw [Try.params3] at hA hval
  obtain ⟨v0, vs0, d0, ds0, p0, q0, hargs, rfl, rfl, h0, r0⟩ := trodAll_cons hA
  obtain ⟨v1, vs1, d1, ds1, p1, q1, rfl, rfl, rfl, h1, r1⟩ := trodAll_cons r0
  obtain ⟨v2, vs2, d2, ds2, p2, q2, rfl, rfl, rfl, h2, r2⟩ := trodAll_cons r1
  obtain ⟨v3, vs3, d3, ds3, p3, q3, rfl, rfl, rfl, h3, r3⟩ := trodAll_cons r2
  obtain ⟨rfl, rfl, rfl⟩ := trodAll_nil r3
  obtain rfl : args = #[v0, v1, v2, v3] := by cases args; simp_all
  obtain ⟨rfl, rfl⟩ := trodVars_none hV
  obtain ⟨a0, len0, cap0, rfl⟩ := okWide_slice Try.underlying22 (hval 0 22 v0 rfl rfl)
  obtain ⟨a1, len1, cap1, rfl⟩ := okWide_slice Try.underlying22 (hval 1 22 v1 rfl rfl)
  obtain ⟨a2, len2, cap2, rfl⟩ := okWide_slice Try.underlying22 (hval 2 22 v2 rfl rfl)
  obtain ⟨a3, rfl, rfl, rfl, w3⟩ := open_int Try.underlying3 (hval 3 3 v3 rfl rfl) h3
  have lt0 : ∀ x ∈ p0, x.block < W.heap.size := by obtain ⟨m, hm⟩ := h0; exact DataW.trod_lt m _ _ _ hm
  have lt1 : ∀ x ∈ p1, x.block < W.heap.size := by obtain ⟨m, hm⟩ := h1; exact DataW.trod_lt m _ _ _ hm
  have lt2 : ∀ x ∈ p2, x.block < W.heap.size := by obtain ⟨m, hm⟩ := h2; exact DataW.trod_lt m _ _ _ hm
  have lt3 : ∀ x ∈ ([] : List MemPlace), x.block < W.heap.size := fun x hx => by cases hx
  obtain ⟨x0, t0⟩ := rdInts.arg (fun _ => rfl) h0 rfl
  obtain ⟨x1, t1⟩ := rdInts.arg (fun _ => rfl) h1 rfl
  obtain ⟨x2, t2⟩ := rdInts.arg (fun _ => rfl) h2 rfl
  obtain ⟨x3, t3⟩ := rdInt.arg (fun _ => rfl) h3 rfl
  clear hA0 hval0
  refine ((fc_anyOrder x0 x1 x2 x3).law tabs (us := [.slice a0 len0 cap0, .slice a1 len1 cap1, .slice a2 len2 cap2, .int .i64 a3]) rfl (fun i a u ha hu => ?_)).mono fun e W' ⟨he, bel⟩ => ?_
  · match i with
    | 0 => cases ha; cases hu; exact ⟨_, rfl, t0⟩
    | 1 => cases ha; cases hu; exact ⟨_, rfl, t1⟩
    | 2 => cases ha; cases hu; exact ⟨_, rfl, t2⟩
    | 3 => cases ha; cases hu; exact ⟨_, rfl, t3⟩
    | i + 4 => cases ha
  subst he
  exact ⟨_, rfl, _, _, _, [], _, [], hW', trodAll_mk1 (shut_bool Try.underlying4 _), (trodAll_cons_mk (Below.trod laidOut (by kernel_rfl) (of_decide_eq_true (by kernel_rfl)) h0 bel lt0) (trodAll_cons_mk (Below.trod laidOut (by kernel_rfl) (of_decide_eq_true (by kernel_rfl)) h1 bel lt1) (trodAll_cons_mk (Below.trod laidOut (by kernel_rfl) (of_decide_eq_true (by kernel_rfl)) h2 bel lt2) (trodAll_cons_mk (Below.trod laidOut (by kernel_rfl) (of_decide_eq_true (by kernel_rfl)) h3 bel lt3) trodAll_mk0)))), rfl, bel.frame _, fun h => by cases h⟩

theorem closed : joinedFacts Try.pinned.checked.prog 3 Try.f3 Rows.replicaAnyOrderSpec Rows.replicaAnyOrderRow = true := by
  unfold joinedFacts
  rw [frame.mayEnter, frame.liftsNo, frame.made, frame.laid, frame.rowed, frame.noStops, frame.noKnobs, frame.heard, frame.keys]
  kernel_rfl

theorem over : Rows.replicaAnyOrderRow.holds Try.pinned (OpenSpec.ofChange Rows.replicaAnyOrderSpec) :=
  OpenClaim.holds_of_wide 3 Try.f3 rfl rfl rfl rfl rfl rfl rfl ⟨rfl, rfl, rfl, rfl, rfl⟩ rfl rfl rfl rfl rfl (by kernel_rfl) Try.func3 closed
    (of_decide_eq_true (by kernel_rfl)) (by unfold Func.isWrapper; first | (rw [if_pos (by decide +kernel)]; kernel_rfl) | (rw [if_neg (by decide +kernel)]; exact ⟨rfl, rfl⟩))
    (fun os started H enc _ => lifted os started H enc)
theorem proved : Rows.ReplicaAnyOrderSaid := over
end Go.Proofs.Ythpcjddcgdlilaa.replicaAnyOrder
