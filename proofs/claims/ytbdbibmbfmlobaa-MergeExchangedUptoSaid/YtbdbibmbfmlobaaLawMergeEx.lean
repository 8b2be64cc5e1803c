/- PROVED: MergeExchanged returns true for every input of bulk at most 1048576: Rows.MergeExchangedUptoSaid. Conditions: none beyond the given row. -/
import Derived.Test.YtbdbibmbfmlobaaM1
import Derived.Test.YtbdbibmbfmlobaaM2
import Derived.Test.YtbdbibmbfmlobaaM3
import Derived.Test.YtbdbibmbfmlobaaM4
import Derived.Test.YtbdbibmbfmlobaaM5
import Derived.Test.YtbdbibmbfmlobaaM6
import Derived.Test.YtbdbibmbfmlobaaM7
import Derived.Test.YtbdbibmbfmlobaaM8
import Derived.Test.YtbdbibmbfmlobaaRows
import Derived.WalkKit
import Derived.ProofKit
import Derived.OpenShut
import Derived.ShutString
import Derived.ChangeOld
import Derived.Below
import Derived.Carry
import Derived.JoinedCond
namespace Go.Proofs.Ytbdbibmbfmlobaa.mergeExchanged
open Go.ChangeShapes Go.WideShapes Go.ChangeAt Go.RowKit
open Go Go.Proofs Go.Ab Go.Ch
set_option linter.unusedVariables false
set_option linter.unusedSimpArgs false

theorem own : ownKnob Try.prog.godebug = none := by kernel_rfl
theorem laidOut : laidOutB Try.prog = true := by kernel_rfl
set_option maxRecDepth 100000 in
theorem rdAttr : RdM Try.prog 38 2 attrT (fun a => a.name.size + a.val.size + 3) :=
  RdM.map (RdM.struct Try.underlying38 (by kernel_rfl) (RdFM.cons rfl (RdM.str Try.underlying9 (by kernel_rfl)) (RdFM.cons rfl (RdM.str Try.underlying9 (by kernel_rfl)) RdFM.nil))) (fun p => ⟨p.1, p.2.1⟩) (fun a => rfl)
    (fun a => by simp only; omega) (fun b => ⟨rfl, fun T hT => by simp [attrT, Tree.cells] at hT; rcases hT with rfl | rfl <;> rfl⟩)
theorem rdAttrs : RdM Try.prog 32 1 (fun l : List Attr => .lst 2 (l.map attrT)) (fun l => (l.map fun a => a.name.size + a.val.size + 3).sum + 1) := RdM.slice Try.underlying32 (by decide) (by kernel_rfl) rdAttr
theorem rdI : RdM Try.prog 3 1 (fun z : Int => .sc (.int .i64 z)) (fun _ => 1) := RdM.int Try.underlying3 (by kernel_rfl)
theorem rdInts : RdM Try.prog 43 1 (fun l : List Int => .lst 1 (l.map intT)) (fun l => (l.map fun _ : Int => 1).sum + 1) := RdM.slice (f := intT) Try.underlying43 (by decide) (by kernel_rfl) rdI
def muA (l : List Attr) : Nat := (l.map fun a => a.name.size + a.val.size + 3).sum
def muE (e : Elem) : Nat := muA e.attrs + 4
def muD (s : DStep) : Nat := muA s.attrs + (s.elems.map muE).sum + 5
set_option maxRecDepth 100000 in
theorem rdElem : RdM Try.prog 84 3 elemT muE := by
  have h := RdM.struct Try.underlying84 (by kernel_rfl) (RdFM.cons rfl rdI (RdFM.cons rfl rdI (RdFM.cons rfl rdAttrs RdFM.nil)))
  exact RdM.map h (fun p : Int × Int × List Attr × Unit => ⟨p.1, p.2.1, p.2.2.1⟩) (fun a => rfl)
    (fun a => by simp only [muE, muA]; omega) (fun b => ⟨rfl, fun T hT => by simp [elemT, Tree.cells] at hT; rcases hT with rfl | rfl | rfl <;> rfl⟩)
theorem rdFlow : RdM Try.prog 63 1 (fun l : List Elem => .lst 3 (l.map elemT)) (fun l => (l.map muE).sum + 1) := RdM.slice Try.underlying63 (by decide) (by kernel_rfl) rdElem
set_option maxRecDepth 100000 in
theorem rdStep : RdM Try.prog 70 4 dstepT muD := by
  have h := RdM.struct Try.underlying70 (by kernel_rfl) (RdFM.cons rfl rdI (RdFM.cons rfl rdI (RdFM.cons rfl rdAttrs (RdFM.cons rfl rdFlow RdFM.nil))))
  exact RdM.map h (fun p : Int × Int × List Attr × List Elem × Unit => ⟨p.1, p.2.1, p.2.2.1, p.2.2.2.1⟩) (fun a => rfl)
    (fun a => by simp only [muD, muA]; omega) (fun b => ⟨rfl, fun T hT => by simp [dstepT, Tree.cells] at hT; rcases hT with rfl | rfl | rfl | rfl <;> rfl⟩)
theorem rdDelta : RdM Try.prog 64 1 (fun l : List DStep => .lst 4 (l.map dstepT)) (fun l => (l.map muD).sum + 1) := RdM.slice Try.underlying64 (by decide) (by kernel_rfl) rdStep
theorem szA {l : List Attr} (h : muA l ≤ 1048576) : Szd l ∧ l.length ≤ 1048576 := by
  unfold muA at h
  refine ⟨fun a ha => ?_, ?_⟩
  · have := sum_mem (μ := fun a : Attr => a.name.size + a.val.size + 3) ha
    omega
  · have := sum_len (μ := fun a : Attr => a.name.size + a.val.size + 3) (fun a => by omega) l
    omega
theorem szF {l : List Elem} (h : (l.map muE).sum ≤ 1048576) : SzE l ∧ AN 1048576 l ∧ l.length ≤ 1048576 := by
  have hm : ∀ x ∈ l, muA x.attrs ≤ 1048576 := fun x hx => by
    have := sum_mem (μ := muE) hx
    unfold muE at this h
    omega
  refine ⟨fun x hx => (szA (hm x hx)).1, fun x hx => (szA (hm x hx)).2, ?_⟩
  have := sum_len (μ := muE) (fun a => by unfold muE; omega) l
  omega
theorem szD' {l : List DStep} (h : (l.map muD).sum ≤ 1048576) : DSz l ∧ DN 100000000000 l := by
  have hm : ∀ s ∈ l, muA s.attrs ≤ 1048576 ∧ (s.elems.map muE).sum ≤ 1048576 := fun s hs => by
    have h1 := sum_mem (μ := muD) hs
    have h2 : muD s ≤ 1048576 := Nat.le_trans h1 h
    unfold muD at h2
    omega
  refine ⟨fun s hs => ⟨(szA (hm s hs).1).1, (szF (hm s hs).2).1⟩, fun s hs => ?_⟩
  have q := szF (hm s hs).2
  have r := (szA (hm s hs).1).2
  exact ⟨by omega, by omega, fun x hx => by have := q.2.1 x hx; omega⟩
theorem an11 {l : List Elem} (h : AN 1048576 l) : AN 100000000000 l := fun x hx => by have := h x hx; omega

set_option maxRecDepth 100000 in
theorem lifted (os : Os) (started : os.Started) (H : Type) (enc : TypeId × Value → H) (F : Stop.Interp) :
    ReturnsInHanded {} Try.checked os 18 .any ((Rows.OpenSpec.upto Rows.mergeExchangedSpec).pre6 enc Try.prog Try.f18 Rows.mergeExchangedUptoRow.domain false) (((Rows.OpenSpec.upto Rows.mergeExchangedSpec).at F).post enc Try.prog Try.f18 false true false false) := by
  refine returnsInHanded_of_cond (C := Try.checked) (s := Rows.OpenSpec.upto Rows.mergeExchangedSpec) (k := Rows.uptoSmall) rfl own started (by kernel_rfl) Try.func18
    (OpenSpec.witness (enc := enc) (C := Try.checked) (s := Rows.OpenSpec.upto Rows.mergeExchangedSpec) (k := Rows.uptoSmall) rfl false ⟨#[], #[.slice none 0 0, .slice none 0 0, .slice none 0 0], []⟩ 8 (by kernel_rfl) (by kernel_rfl) (by kernel_rfl)
      (x := ([.nil, .nil, .nil], [], [])) (by kernel_rfl) rfl (by kernel_rfl)) ?_
  intro W base args ds gs before hval0 hW hcnd hsm _
  have hbulk := bulk_bound hsm
  have hval : ∀ (j : Nat) t v, Try.f18.params[j]? = some t → args[j]? = some v → Value.okWide Try.prog W .any base t v := hval0
  have hW' := hW
  obtain ⟨p, q, hA0, hV, rfl, hfz, hnd⟩ := hW
  have hA : DataW.TrodAll enc Try.prog W 0 (fun _ => true) true Try.f18.params.toList args.toList ds p := hA0
  rw [Try.params18] at hA hval
  obtain ⟨v0, vs0, d0, ds0, p0, q0, hargs, rfl, rfl, h0, r0⟩ := trodAll_cons hA
  obtain ⟨v1, vs1, d1, ds1, p1, q1, rfl, rfl, rfl, h1, r1⟩ := trodAll_cons r0
  obtain ⟨v2, vs2, d2, ds2, p2, q2, rfl, rfl, rfl, h2, r2⟩ := trodAll_cons r1
  obtain ⟨rfl, rfl, rfl⟩ := trodAll_nil r2
  obtain rfl : args = #[v0, v1, v2] := by cases args; simp_all
  obtain ⟨rfl, rfl⟩ := trodVars_none hV
  simp only [Rows.uptoBulkAll, List.cons_append, List.nil_append, List.append_nil] at hbulk
  obtain ⟨a0, len0, cap0, rfl⟩ := okWide_slice Try.underlying63 (hval 0 63 v0 rfl rfl)
  obtain ⟨a1, len1, cap1, rfl⟩ := okWide_slice Try.underlying43 (hval 1 43 v1 rfl rfl)
  obtain ⟨a2, len2, cap2, rfl⟩ := okWide_slice Try.underlying43 (hval 2 43 v2 rfl rfl)
  have lt0 : ∀ x ∈ p0, x.block < W.heap.size := by obtain ⟨m, hm⟩ := h0; exact DataW.trod_lt m _ _ _ hm
  have lt1 : ∀ x ∈ p1, x.block < W.heap.size := by obtain ⟨m, hm⟩ := h1; exact DataW.trod_lt m _ _ _ hm
  have lt2 : ∀ x ∈ p2, x.block < W.heap.size := by obtain ⟨m, hm⟩ := h2; exact DataW.trod_lt m _ _ _ hm
  obtain ⟨x0, t0, b0⟩ := rdFlow.arg (fun _ => rfl) h0 rfl
  obtain ⟨x1, t1, b1⟩ := rdInts.arg (fun _ => rfl) h1 rfl
  obtain ⟨x2, t2, b2⟩ := rdInts.arg (fun _ => rfl) h2 rfl
  clear hA0 hval0
  refine ((fc_lawEx x0 x1 x2 (szF (by omega)).1 (szF (by omega)).2.1).law (us := [.slice a0 len0 cap0, .slice a1 len1 cap1, .slice a2 len2 cap2]) rfl (fun i a u ha hu => ?_)).mono fun e W' ⟨he, bel⟩ => ?_
  · match i with
    | 0 => cases ha; cases hu; exact ⟨_, rfl, t0⟩
    | 1 => cases ha; cases hu; exact ⟨_, rfl, t1⟩
    | 2 => cases ha; cases hu; exact ⟨_, rfl, t2⟩
    | i + 3 => cases ha
  subst he
  exact ⟨_, rfl, _, _, _, [], _, [], hW', trodAll_mk1 (shut_bool Try.underlying4 _), (trodAll_cons_mk (Below.trod laidOut (by kernel_rfl) (of_decide_eq_true (by kernel_rfl)) h0 bel lt0) (trodAll_cons_mk (Below.trod laidOut (by kernel_rfl) (of_decide_eq_true (by kernel_rfl)) h1 bel lt1) (trodAll_cons_mk (Below.trod laidOut (by kernel_rfl) (of_decide_eq_true (by kernel_rfl)) h2 bel lt2) trodAll_mk0))), rfl, bel.frame _, fun h => by cases h⟩

theorem closed : joinedFacts Try.pinned.checked.prog 18 Try.f18 (Rows.OpenSpec.upto Rows.mergeExchangedSpec).bare Rows.mergeExchangedUptoRow = true := by
  unfold joinedFacts
  rw [frame.mayEnter, frame.liftsNo, frame.made, frame.laid, frame.rowed, frame.noStops, frame.noKnobs, frame.heard, frame.keys]
  kernel_rfl

theorem over : Rows.mergeExchangedUptoRow.holds Try.pinned (Rows.OpenSpec.upto Rows.mergeExchangedSpec) :=
  OpenClaim.holds_of_cond 18 Try.f18 rfl rfl rfl rfl rfl rfl rfl ⟨rfl, rfl, rfl, rfl, rfl⟩ rfl rfl rfl rfl rfl (by kernel_rfl) Try.func18 closed
    (of_decide_eq_true (by kernel_rfl)) (by unfold Func.isWrapper; first | (rw [if_pos (by decide +kernel)]; kernel_rfl) | (rw [if_neg (by decide +kernel)]; exact ⟨rfl, rfl⟩))
    (fun os started H enc _ F => lifted os started H enc F)
theorem proved : Rows.MergeExchangedUptoSaid := over
end Go.Proofs.Ytbdbibmbfmlobaa.mergeExchanged
