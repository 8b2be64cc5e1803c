/- PROVED: AttrUndoRestores returns true for every input of bulk at most 1048576: Rows.AttrUndoRestoresUptoSaid. Conditions: none beyond the given row. -/
import Derived.Test.YtbdbibmbfmlobaaChAttrF
import Derived.Test.YtbdbibmbfmlobaaFrame
import Derived.Test.YtbdbibmbfmlobaaAbBulk
import Derived.Test.YtbdbibmbfmlobaaRows
import Derived.WalkKit
import Derived.ProofKit
import Derived.OpenShut
import Derived.ShutString
import Derived.ChangeOld
import Derived.Below
import Derived.Carry
import Derived.JoinedCond
namespace Go.Proofs.Ytbdbibmbfmlobaa.attrUndoRestores
open Go.ChangeShapes Go.WideShapes Go.ChangeAt Go.RowKit
open Go Go.Proofs Go.Ab Go.Ch
set_option linter.unusedVariables false
set_option linter.unusedSimpArgs false

theorem own : ownKnob Try.prog.godebug = none := by kernel_rfl
theorem laidOut : laidOutB Try.prog = true := by kernel_rfl
set_option maxRecDepth 100000 in
theorem rdAttr : RdM Try.prog 38 2 attrT (fun a => a.name.size + a.val.size + 3) :=
  RdM.map (RdM.struct Try.underlying38 (by kernel_rfl) (RdFM.cons rfl (RdM.str Try.underlying9 (by kernel_rfl)) (RdFM.cons rfl (RdM.str Try.underlying9 (by kernel_rfl)) RdFM.nil))) (fun p => ⟨p.1, p.2.1⟩) (fun a => rfl)
    (fun a => by simp only; omega) (fun b => ⟨rfl, fun T hT => by simp [attrT, Tree.cells] at hT; rcases hT with rfl | rfl <;> rfl⟩)
theorem rdAttrs : RdM Try.prog 32 1 (fun l : List Attr => .lst 2 (l.map attrT)) (fun l => (l.map fun a => a.name.size + a.val.size + 3).sum + 1) := RdM.slice Try.underlying32 (by decide) (by kernel_rfl) rdAttr
theorem szd {l : List Attr} (h : (l.map fun a => a.name.size + a.val.size + 3).sum + 1 ≤ 1048576) : Szd l := fun a ha => by
  have := sum_mem (μ := fun a : Attr => a.name.size + a.val.size + 3) ha

  omega
theorem len {l : List Attr} : l.length ≤ (l.map fun a => a.name.size + a.val.size + 3).sum := sum_len (fun a => by omega) l

set_option maxRecDepth 100000 in
theorem lifted (os : Os) (started : os.Started) (H : Type) (enc : TypeId × Value → H) (F : Stop.Interp) :
    ReturnsInHanded {} Try.checked os 4 .any ((Rows.OpenSpec.upto Rows.attrUndoRestoresSpec).pre6 enc Try.prog Try.f4 Rows.attrUndoRestoresUptoRow.domain false) (((Rows.OpenSpec.upto Rows.attrUndoRestoresSpec).at F).post enc Try.prog Try.f4 false true false false) := by
  refine returnsInHanded_of_cond (C := Try.checked) (s := Rows.OpenSpec.upto Rows.attrUndoRestoresSpec) (k := Rows.uptoSmall) rfl own started (by kernel_rfl) Try.func4
    (OpenSpec.witness (enc := enc) (C := Try.checked) (s := Rows.OpenSpec.upto Rows.attrUndoRestoresSpec) (k := Rows.uptoSmall) rfl false ⟨#[], #[.slice none 0 0, .slice none 0 0], []⟩ 8 (by kernel_rfl) (by kernel_rfl) (by kernel_rfl)
      (x := ([.nil, .nil], [], [])) (by kernel_rfl) rfl (by kernel_rfl)) ?_
  intro W base args ds gs before hval0 hW hcnd hsm _
  have hbulk := bulk_bound hsm
  have hval : ∀ (j : Nat) t v, Try.f4.params[j]? = some t → args[j]? = some v → Value.okWide Try.prog W .any base t v := hval0
  have hW' := hW
  obtain ⟨p, q, hA0, hV, rfl, hfz, hnd⟩ := hW
  have hA : DataW.TrodAll enc Try.prog W 0 (fun _ => true) true Try.f4.params.toList args.toList ds p := hA0
  rw [Try.params4] at hA hval
  obtain ⟨v0, vs0, d0, ds0, p0, q0, hargs, rfl, rfl, h0, r0⟩ := trodAll_cons hA
  obtain ⟨v1, vs1, d1, ds1, p1, q1, rfl, rfl, rfl, h1, r1⟩ := trodAll_cons r0
  obtain ⟨rfl, rfl, rfl⟩ := trodAll_nil r1
  obtain rfl : args = #[v0, v1] := by cases args; simp_all
  obtain ⟨rfl, rfl⟩ := trodVars_none hV
  simp only [Rows.uptoBulkAll, List.cons_append, List.nil_append, List.append_nil] at hbulk
  obtain ⟨a0, len0, cap0, rfl⟩ := okWide_slice Try.underlying32 (hval 0 32 v0 rfl rfl)
  obtain ⟨a1, len1, cap1, rfl⟩ := okWide_slice Try.underlying32 (hval 1 32 v1 rfl rfl)
  have lt0 : ∀ x ∈ p0, x.block < W.heap.size := by obtain ⟨m, hm⟩ := h0; exact DataW.trod_lt m _ _ _ hm
  have lt1 : ∀ x ∈ p1, x.block < W.heap.size := by obtain ⟨m, hm⟩ := h1; exact DataW.trod_lt m _ _ _ hm
  obtain ⟨x0, t0, b0⟩ := rdAttrs.arg (fun _ => rfl) h0 rfl
  obtain ⟨x1, t1, b1⟩ := rdAttrs.arg (fun _ => rfl) h1 rfl
  clear hA0 hval0
  have n0 := len (l := x0)
  have n1 := len (l := x1)
  refine ((fc_law2 x0 x1 (szd (by omega)) (szd (by omega)) (by omega)).law (us := [.slice a0 len0 cap0, .slice a1 len1 cap1]) rfl (fun i a u ha hu => ?_)).mono fun e W' ⟨he, bel⟩ => ?_
  · match i with
    | 0 => cases ha; cases hu; exact ⟨_, rfl, t0⟩
    | 1 => cases ha; cases hu; exact ⟨_, rfl, t1⟩
    | i + 2 => cases ha
  subst he
  exact ⟨_, rfl, _, _, _, [], _, [], hW', trodAll_mk1 (shut_bool Try.underlying4 _), (trodAll_cons_mk (Below.trod laidOut (by kernel_rfl) (of_decide_eq_true (by kernel_rfl)) h0 bel lt0) (trodAll_cons_mk (Below.trod laidOut (by kernel_rfl) (of_decide_eq_true (by kernel_rfl)) h1 bel lt1) trodAll_mk0)), rfl, bel.frame _, fun h => by cases h⟩

theorem closed : joinedFacts Try.pinned.checked.prog 4 Try.f4 (Rows.OpenSpec.upto Rows.attrUndoRestoresSpec).bare Rows.attrUndoRestoresUptoRow = true := by
  unfold joinedFacts
  rw [frame.mayEnter, frame.liftsNo, frame.made, frame.laid, frame.rowed, frame.noStops, frame.noKnobs, frame.heard, frame.keys]
  kernel_rfl

theorem over : Rows.attrUndoRestoresUptoRow.holds Try.pinned (Rows.OpenSpec.upto Rows.attrUndoRestoresSpec) :=
  OpenClaim.holds_of_cond 4 Try.f4 rfl rfl rfl rfl rfl rfl rfl ⟨rfl, rfl, rfl, rfl, rfl⟩ rfl rfl rfl rfl rfl (by kernel_rfl) Try.func4 closed
    (of_decide_eq_true (by kernel_rfl)) (by unfold Func.isWrapper; first | (rw [if_pos (by decide +kernel)]; kernel_rfl) | (rw [if_neg (by decide +kernel)]; exact ⟨rfl, rfl⟩))
    (fun os started H enc _ F => lifted os started H enc F)
theorem proved : Rows.AttrUndoRestoresUptoSaid := over
end Go.Proofs.Ytbdbibmbfmlobaa.attrUndoRestores
