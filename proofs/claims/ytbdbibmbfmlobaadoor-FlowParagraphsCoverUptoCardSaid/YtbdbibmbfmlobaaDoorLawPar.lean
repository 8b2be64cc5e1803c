/- PROVED: FlowParagraphsCover returns true for every input of bulk at most 1048576: the tied card Rows.FlowParagraphsCoverUptoCardSaid. The listed variables are tied to the pruned copy of the program. -/
import Derived.Test.YtbdbibmbfmlobaaDoorM1
import Derived.Test.YtbdbibmbfmlobaaDoorM2
import Derived.Test.YtbdbibmbfmlobaaDoorM3
import Derived.Test.YtbdbibmbfmlobaaDoorM4
import Derived.Test.YtbdbibmbfmlobaaDoorCards
import Derived.Test.YtbdbibmbfmlobaaDoorTie
import Derived.WalkKit
import Derived.ProofKit
import Derived.OpenShut
import Derived.Below
import Derived.Carry
import Derived.ChangeOld
import Derived.JoinedCond
import Derived.Deep.DeepHandedRow
import Derived.Lib.LaidTab
import Derived.Lib.LaidU8T
import Derived.ChangeMaps5

namespace Go.Proofs.YtbdbibmbfmlobaaDoor.flowParagraphsCover
open Go.ChangeShapes Go.WideShapes Go.ChangeAt Go.RowKit
open Go Go.Proofs Go.Ab Go.Ch
set_option linter.unusedVariables false
set_option linter.unusedSimpArgs false

theorem own : ownKnob Tryd.prog.godebug = none := by kernel_rfl
theorem laidOut : laidOutB Tryd.prog = true := by kernel_rfl
set_option maxRecDepth 100000 in
theorem rdAttr : RdM Tryd.prog 51 2 attrT (fun a => a.name.size + a.val.size + 3) :=
  RdM.map (RdM.struct Tryd.underlying51 (by kernel_rfl) (RdFM.cons rfl (RdM.str Tryd.underlying9 (by kernel_rfl)) (RdFM.cons rfl (RdM.str Tryd.underlying9 (by kernel_rfl)) RdFM.nil))) (fun p => ⟨p.1, p.2.1⟩) (fun a => rfl)
    (fun a => by simp only; omega) (fun b => ⟨rfl, fun T hT => by simp [attrT, Tree.cells] at hT; rcases hT with rfl | rfl <;> rfl⟩)
theorem rdAttrs : RdM Tryd.prog 22 1 (fun l : List Attr => .lst 2 (l.map attrT)) (fun l => (l.map fun a => a.name.size + a.val.size + 3).sum + 1) := RdM.slice Tryd.underlying22 (by decide) (by kernel_rfl) rdAttr
theorem rdI : RdM Tryd.prog 3 1 (fun z : Int => .sc (.int .i64 z)) (fun _ => 1) := RdM.int Tryd.underlying3 (by kernel_rfl)
def muA (l : List Attr) : Nat := (l.map fun a => a.name.size + a.val.size + 3).sum
def muE (e : Elem) : Nat := muA e.attrs + 4
set_option maxRecDepth 100000 in
theorem rdElem : RdM Tryd.prog 31 3 elemT muE := by
  have h := RdM.struct Tryd.underlying31 (by kernel_rfl) (RdFM.cons rfl rdI (RdFM.cons rfl rdI (RdFM.cons rfl rdAttrs RdFM.nil)))
  exact RdM.map h (fun p : Int × Int × List Attr × Unit => ⟨p.1, p.2.1, p.2.2.1⟩) (fun a => rfl)
    (fun a => by simp only [muE, muA]; omega) (fun b => ⟨rfl, fun T hT => by simp [elemT, Tree.cells] at hT; rcases hT with rfl | rfl | rfl <;> rfl⟩)
theorem rdFlow : RdM Tryd.prog 24 1 (fun l : List Elem => .lst 3 (l.map elemT)) (fun l => (l.map muE).sum + 1) := RdM.slice Tryd.underlying24 (by decide) (by kernel_rfl) rdElem
theorem szA {l : List Attr} (h : muA l ≤ 1048576) : Szd l ∧ l.length ≤ 1048576 := by
  unfold muA at h
  refine ⟨fun a ha => ?_, ?_⟩
  · have := sum_mem (μ := fun a : Attr => a.name.size + a.val.size + 3) ha
    omega
  · have := sum_len (μ := fun a : Attr => a.name.size + a.val.size + 3) (fun a => by omega) l
    omega
theorem szF {l : List Elem} (h : (l.map muE).sum ≤ 1048576) : SzE l ∧ AN 1048576 l ∧ l.length ≤ 1048576 := by
  have hm : ∀ x ∈ l, muA x.attrs ≤ 1048576 := fun x hx => by
    have := sum_mem (μ := muE) hx
    unfold muE at this h
    omega
  refine ⟨fun x hx => (szA (hm x hx)).1, fun x hx => (szA (hm x hx)).2, ?_⟩
  have := sum_len (μ := muE) (fun a => by unfold muE; omega) l
  omega
theorem an4 {l : List Elem} (h : AN 1048576 l) : AN 400000000000 l := fun x hx => by have := h x hx; omega

theorem contract (H : Type) (enc : TypeId × Value → H) (W : World) (base : Nat) (args : Array Value) (ds gs : List (DataW H)) (before : List MemPlace)
    (hval0 : ∀ (j : Nat) t v, Tryd.f5.params[j]? = some t → args[j]? = some v → Value.okWide Tryd.prog W .any base t v)
    (hW : DataW.Whole enc Tryd.prog Tryd.f5.params.toList Rows.flowParagraphsCoverSpec.vars false W args.toList ds gs before) (hsm : Rows.uptoSmall H (ds ++ gs) = true) (hT : TabW Tryd.prog W) :
    Calls Tryd.prog 5 args W fun e W' => ∃ v, e = .returned v ∧ Rows.flowParagraphsCoverSpec.post enc Tryd.prog Tryd.f5 false true false false W args v W' := by
  have hbulk := bulk_bound hsm
  have hval : ∀ (j : Nat) t v, Tryd.f5.params[j]? = some t → args[j]? = some v → Value.okWide Tryd.prog W .any base t v := hval0
  have hW' := hW
  obtain ⟨p, q, hA0, hV, rfl, hfz, hnd⟩ := hW
  have hA : DataW.TrodAll enc Tryd.prog W 0 (fun _ => true) true Tryd.f5.params.toList args.toList ds p := hA0
  rw [Tryd.params5] at hA hval
  obtain ⟨v0, vs0, d0, ds0, p0, q0, hargs, rfl, rfl, h0, r0⟩ := trodAll_cons hA
  obtain ⟨v1, vs1, d1, ds1, p1, q1, rfl, rfl, rfl, h1, r1⟩ := trodAll_cons r0
  obtain ⟨rfl, rfl, rfl⟩ := trodAll_nil r1
  obtain rfl : args = #[v0, v1] := by cases args; simp_all
  obtain ⟨rfl, rfl⟩ := trodVars_none hV
  simp only [Rows.uptoBulkAll, List.cons_append, List.nil_append, List.append_nil] at hbulk
  obtain ⟨a0, len0, cap0, rfl⟩ := okWide_slice Tryd.underlying24 (hval 0 24 v0 rfl rfl)
  obtain ⟨a1, rfl, rfl, rfl, w1⟩ := open_int Tryd.underlying3 (hval 1 3 v1 rfl rfl) h1
  have lt0 : ∀ x ∈ p0, x.block < W.heap.size := by obtain ⟨m, hm⟩ := h0; exact DataW.trod_lt m _ _ _ hm
  have lt1 : ∀ x ∈ ([] : List MemPlace), x.block < W.heap.size := fun x hx => by cases hx
  obtain ⟨x0, t0, b0⟩ := rdFlow.arg (fun _ => rfl) h0 rfl
  obtain ⟨x1, t1, b1⟩ := rdI.arg (fun _ => rfl) h1 rfl
  clear hA0 hval0
  obtain ⟨rfl, _, _⟩ := flow_cells t0
  refine (lawPar x0 a1 a0 cap0 (szF (l := x0) (by omega)).2.2 W hT t0).mono fun e W' ⟨he, bel⟩ => ?_
  subst he
  exact ⟨_, rfl, _, _, _, [], _, [], hW', trodAll_mk1 (shut_bool Tryd.underlying4 _), (trodAll_cons_mk (Below.trod laidOut (by kernel_rfl) (of_decide_eq_true (by kernel_rfl)) h0 bel lt0) (trodAll_cons_mk (Below.trod laidOut (by kernel_rfl) (of_decide_eq_true (by kernel_rfl)) h1 bel lt1) trodAll_mk0)), rfl, bel.frame _, fun h => by cases h⟩

/-- A world for the witness: the two listed tables as they are laid. -/
def cellsD : {H : Type} → DataW H → List Value
  | _, .lit (.int k n) => [.int k n]
  | _, _ => []
def cells1D {H : Type} : DataW H → List Value
  | .agg ps => ps.flatMap cellsD
  | _ => []
def cells2D {H : Type} : DataW H → List Value
  | .agg ps => ps.flatMap cells1D
  | _ => []
def setCells (cs : List Value) : Obj → Obj
  | .cells _ t frozen => .cells cs.toArray t frozen
  | o => o
noncomputable def laidWorld (os : Os) : World :=
  { World.holding Tryd.prog os ⟨#[], #[], []⟩ with heap := ((World.holding Tryd.prog os ⟨#[], #[], []⟩).heap.modify 0 (setCells (cells1D Pinned.utf8First))).modify 1 (setCells (cells2D (Rows.laid_unicode_utf8_acceptRanges (H := Unit)))) }
theorem laid_met (os : Os) : laidMet Tryd.prog Rows.flowParagraphsCoverUptoRow.laid ((laidWorld os).forCall (fun _ _ => 0) ⟨#[], #[.slice none 0 0, .int .i64 0], []⟩).memory :=
  laidMet_of_run' 8 (by kernel_rfl) (by kernel_rfl)
theorem reads (os : Os) {H : Type} (enc : TypeId × Value → H) : ∃ places, DataW.whole enc Tryd.prog ((laidWorld os).forCall (fun _ _ => 0) ⟨#[], #[.slice none 0 0, .int .i64 0], []⟩).memory Tryd.f5.params.toList Rows.flowParagraphsCoverSpec.vars false #[Value.slice none 0 0, Value.int .i64 0].toList 8 = some ([.nil, .lit (.int .i64 0)], [], places) :=
  ⟨[], by kernel_rfl⟩
theorem first_eq : Go.Lib.firstData = Rows.laid_unicode_utf8_first := by kernel_rfl
theorem accept_eq : Go.Lib.acceptData = (Rows.laid_unicode_utf8_acceptRanges : DataW Unit) := by kernel_rfl
theorem extra : U8Extra Tryd.prog Tryd.lays260_ren :=
  { n3 := by kernel_rfl, n4 := by kernel_rfl, y3 := by kernel_rfl, y4 := by kernel_rfl, c5 := by kernel_rfl, c119 := by kernel_rfl, c138 := by kernel_rfl }
theorem tables {W : World} (hL : laidMetH Tryd.prog Rows.flowParagraphsCoverUptoRow.laid W) : TabW Tryd.prog W := by
  have hL : laidMet Tryd.prog Rows.flowParagraphsCoverUptoRow.laid W := by
    unfold laidMetH at hL
    have e : ((Rows.flowParagraphsCoverUptoRow.laid).filter fun x => x.2.handleName?.isSome) = [] := by kernel_rfl
    rw [e] at hL; exact hL
  have h4 := Go.Lib.laidMet.reads hL (n := "unicode/utf8.acceptRanges") (d := Rows.laid_unicode_utf8_acceptRanges) (List.mem_cons_self ..)
  have h3 := Go.Lib.laidMet.reads hL (n := "unicode/utf8.first") (d := Rows.laid_unicode_utf8_first) (List.mem_cons_of_mem _ (List.mem_cons_self ..))
  rw [← first_eq] at h3
  rw [← accept_eq] at h4
  intro a b ha hb
  obtain rfl : 0 = a := Option.some.inj ((show Tryd.prog.globalNamed "unicode/utf8.first" = some 0 by kernel_rfl).symm.trans ha)
  obtain rfl : 1 = b := Option.some.inj ((show Tryd.prog.globalNamed "unicode/utf8.acceptRanges" = some 1 by kernel_rfl).symm.trans hb)
  exact utf8Tabs_of_readsT (U8Types.of260 Tryd.lays260) extra h3 h4
set_option maxRecDepth 100000 in
theorem lifted (os : Os) (started : os.Started) (H : Type) (enc : TypeId × Value → H) (F : Stop.Interp) :
    ReturnsInHanded {} Tryd.checked os 5 .any ((Rows.OpenSpec.upto Rows.flowParagraphsCoverSpec).preRow enc Tryd.prog Tryd.f5 Rows.flowParagraphsCoverUptoRow.domain false Rows.flowParagraphsCoverUptoRow.laid) (((Rows.OpenSpec.upto Rows.flowParagraphsCoverSpec).at F).post enc Tryd.prog Tryd.f5 false true false false) := by
  obtain ⟨places, hx⟩ := reads os enc
  refine returnsInHanded_of_row (C := Tryd.checked) (s := Rows.OpenSpec.upto Rows.flowParagraphsCoverSpec) own started (by kernel_rfl) Tryd.func5
    (witness_row_at (enc := enc) (C := Tryd.checked) false (laidWorld os) #[.slice none 0 0, .int .i64 0] rfl (by kernel_rfl) (by kernel_rfl) (by kernel_rfl)
      (OpenSpec.preRow_of_cond 8 hx (by kernel_rfl) (fun k hk => by cases hk; kernel_rfl) (by kernel_rfl) (laid_met os))) ?_
  intro W base args ds gs before hval hW _ hcond _ hL _ _
  exact contract H enc W base args ds gs before hval hW (hcond _ rfl) (tables hL)
set_option maxRecDepth 100000 in
theorem closed : joinedFacts Tryd.pinned.checked.prog 5 Tryd.f5 (Rows.OpenSpec.upto Rows.flowParagraphsCoverSpec).bare Rows.flowParagraphsCoverUptoRow = true := by kernel_rfl
theorem saidUpto : Rows.FlowParagraphsCoverUptoSaid :=
  OpenClaim.holds_of_cond 5 Tryd.f5 rfl rfl rfl rfl rfl rfl rfl ⟨rfl, rfl, rfl, rfl, rfl⟩ rfl rfl rfl rfl rfl (by kernel_rfl) Tryd.func5 closed
    (of_decide_eq_true (by kernel_rfl)) (by unfold Func.isWrapper; first | (rw [if_pos (by decide +kernel)]; kernel_rfl) | (rw [if_neg (by decide +kernel)]; exact ⟨rfl, rfl⟩))
    (fun os started H enc _ F => by rw [OpenClaim.pre_eq_preRow]; exact lifted os started H enc F)
theorem plain (f : FuncId) (fn : Func) (hf : Tryd.pinned.checked.prog.funcNamed "chancery/chancerykeep1.FlowParagraphsCover" = some f) (hfn : Tryd.pinned.checked.prog.funcs[f]? = some fn) :
    false = Tryd.pinned.checked.prog.looks [] ∧ ∀ (j : Nat) t, fn.params[j]? = some t → Tryd.pinned.checked.prog.wantsStandIn t = false := by
  obtain rfl : f = 5 := Option.some.inj ((show Tryd.prog.funcNamed "chancery/chancerykeep1.FlowParagraphsCover" = some 5 by kernel_rfl).symm.trans hf) |>.symm
  obtain rfl : fn = Tryd.f5 := (Option.some.inj (Tryd.func5.symm.trans hfn)).symm
  refine ⟨by kernel_rfl, fun j t ht => ?_⟩
  rw [Tryd.params5] at ht
  have hm := Array.mem_of_getElem? ht
  simp only [List.mem_toArray, List.mem_cons, List.not_mem_nil, or_false] at hm
  rcases hm with rfl | rfl
  · exact (show Tryd.prog.wantsStandIn 24 = false by kernel_rfl)
  · exact (show Tryd.prog.wantsStandIn 3 = false by kernel_rfl)
theorem proved : Rows.FlowParagraphsCoverUptoCardSaid :=
  Claim7.holds_tied_plain_at .later [] _ _ _ _ saidUpto (fun _ h => by cases h) (by kernel_rfl) (fun _ h => by cases h) flowParagraphsCoverUpto_row_tie rfl ⟨rfl, rfl⟩ (by kernel_rfl) rfl plain (by kernel_rfl)
end Go.Proofs.YtbdbibmbfmlobaaDoor.flowParagraphsCover
