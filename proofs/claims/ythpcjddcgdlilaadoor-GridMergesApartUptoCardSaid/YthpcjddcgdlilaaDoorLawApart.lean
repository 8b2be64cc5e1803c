/- PROVED: GridMergesApart returns true for every input of bulk at most 1048576: the tied card Rows.GridMergesApartUptoCardSaid. The listed variables are tied to the pruned copy of the program. -/
import Derived.Test.YthpcjddcgdlilaaDoorM1
import Derived.Test.YthpcjddcgdlilaaDoorM2
import Derived.Test.YthpcjddcgdlilaaDoorM3
import Derived.Test.YthpcjddcgdlilaaDoorM4
import Derived.Test.YthpcjddcgdlilaaDoorM5
import Derived.Test.YthpcjddcgdlilaaDoorM6
import Derived.Test.YthpcjddcgdlilaaDoorM7
import Derived.Test.YthpcjddcgdlilaaDoorM8
import Derived.Test.YthpcjddcgdlilaaDoorCards
import Derived.Test.YthpcjddcgdlilaaDoorTie
import Derived.WalkKit
import Derived.ProofKit
import Derived.OpenShut
import Derived.Below
import Derived.Carry
import Derived.ChangeOld
import Derived.JoinedCond
import Derived.Deep.DeepHandedRow
import Derived.Lib.LaidTab
import Derived.Lib.LaidU8T
import Derived.ChangeMaps5

namespace Go.Proofs.YthpcjddcgdlilaaDoor.gridMergesApart
open Go.ChangeShapes Go.WideShapes Go.ChangeAt Go.RowKit
open Go Go.Proofs Go.Ab Go.Ch
set_option linter.unusedVariables false
set_option linter.unusedSimpArgs false

theorem own : ownKnob Tryd.prog.godebug = none := by kernel_rfl
theorem laidOut : laidOutB Tryd.prog = true := by kernel_rfl
theorem rdI : RdM Tryd.prog 3 1 (fun z : Int => .sc (.int .i64 z)) (fun _ => 1) := RdM.int Tryd.underlying3 (by kernel_rfl)
set_option maxRecDepth 100000 in
theorem rdIs : RdM Tryd.prog 26 1 (fun l : List Int => .lst 1 (l.map intT)) (fun l => (l.map fun _ : Int => 1).sum + 1) := RdM.slice (f := intT) Tryd.underlying26 (by decide) (by kernel_rfl) rdI
theorem rdStr : RdM Tryd.prog 9 1 (fun s : ByteArray => .sc (.string s)) (fun s => s.size + 1) := RdM.str Tryd.underlying9 (by kernel_rfl)
def muAt (a : Attr) : Nat := a.name.size + a.val.size + 1
def muA (l : List Attr) : Nat := (l.map muAt).sum
def muC (c : Cell) : Nat := c.text.size + muA c.attrs + 1
def muQ (_ : Rect) : Nat := 1
def muS (_ : AxStep) : Nat := 1
def muG (g : Grid) : Nat := (g.cells.map muC).sum + (g.merges.map muQ).sum
def muE (e : GEd) : Nat := (e.cells.map muC).sum + (e.split.map muQ).sum + (e.merge.map muQ).sum
set_option maxRecDepth 100000 in
theorem rdAttr : RdM Tryd.prog 111 2 attrT muAt := by
  have h := RdM.struct Tryd.underlying111 (by kernel_rfl) (RdFM.cons rfl rdStr (RdFM.cons rfl rdStr RdFM.nil))
  exact RdM.map h (fun p : ByteArray × ByteArray × Unit => ⟨p.1, p.2.1⟩) (fun a => rfl)
    (fun a => by simp only [muAt]; omega) (fun b => ⟨rfl, fun T hT => by simp only [attrT, Tree.cells, List.mem_cons, List.not_mem_nil, or_false] at hT; rcases hT with rfl | rfl <;> rfl⟩)
set_option maxRecDepth 100000 in
theorem rdAttrs : RdM Tryd.prog 48 1 (fun l : List Attr => .lst 2 (l.map attrT)) (fun l => (l.map muAt).sum + 1) := RdM.slice Tryd.underlying48 (by decide) (by kernel_rfl) rdAttr
set_option maxRecDepth 100000 in
theorem rdStep : RdM Tryd.prog 80 2 Go.Ch.stepT muS := by
  have h := RdM.struct Tryd.underlying80 (by kernel_rfl) (RdFM.cons rfl rdI (RdFM.cons rfl rdI RdFM.nil))
  exact RdM.map h (fun p : Int × Int × Unit => ⟨p.1, p.2.1⟩) (fun a => rfl)
    (fun a => by simp only [muS]; omega) (fun b => ⟨rfl, fun T hT => by simp only [Go.Ch.stepT, Tree.cells, List.mem_cons, List.not_mem_nil, or_false] at hT; rcases hT with rfl | rfl <;> rfl⟩)
set_option maxRecDepth 100000 in
theorem rdSteps : RdM Tryd.prog 31 1 (fun l : List AxStep => .lst 2 (l.map Go.Ch.stepT)) (fun l => (l.map muS).sum + 1) := RdM.slice Tryd.underlying31 (by decide) (by kernel_rfl) rdStep
set_option maxRecDepth 100000 in
theorem rdCell : RdM Tryd.prog 50 5 cellT muC := by
  have h := RdM.struct Tryd.underlying50 (by kernel_rfl) (RdFM.cons rfl rdI (RdFM.cons rfl rdI (RdFM.cons rfl rdStr (RdFM.cons rfl rdI (RdFM.cons rfl rdAttrs RdFM.nil)))))
  exact RdM.map h (fun p : Int × Int × ByteArray × Int × List Attr × Unit => ⟨p.1, p.2.1, p.2.2.1, p.2.2.2.1, p.2.2.2.2.1⟩) (fun a => rfl)
    (fun a => by simp only [muC, muA]; omega) (fun b => ⟨rfl, fun T hT => by simp only [cellT, Tree.cells, List.mem_cons, List.not_mem_nil, or_false] at hT; rcases hT with rfl | rfl | rfl | rfl | rfl <;> rfl⟩)
set_option maxRecDepth 100000 in
theorem rdCells : RdM Tryd.prog 22 1 (fun l : List Cell => .lst 5 (l.map cellT)) (fun l => (l.map muC).sum + 1) := RdM.slice Tryd.underlying22 (by decide) (by kernel_rfl) rdCell
set_option maxRecDepth 100000 in
theorem rdRect : RdM Tryd.prog 39 4 rectT muQ := by
  have h := RdM.struct Tryd.underlying39 (by kernel_rfl) (RdFM.cons rfl rdI (RdFM.cons rfl rdI (RdFM.cons rfl rdI (RdFM.cons rfl rdI RdFM.nil))))
  exact RdM.map h (fun p : Int × Int × Int × Int × Unit => ⟨p.1, p.2.1, p.2.2.1, p.2.2.2.1⟩) (fun a => rfl)
    (fun a => by simp only [muQ]; omega) (fun b => ⟨rfl, fun T hT => by simp only [rectT, Tree.cells, List.mem_cons, List.not_mem_nil, or_false] at hT; rcases hT with rfl | rfl | rfl | rfl <;> rfl⟩)
set_option maxRecDepth 100000 in
theorem rdRects : RdM Tryd.prog 23 1 (fun l : List Rect => .lst 4 (l.map rectT)) (fun l => (l.map muQ).sum + 1) := RdM.slice Tryd.underlying23 (by decide) (by kernel_rfl) rdRect
set_option maxRecDepth 100000 in
theorem rdGrid : RdM Tryd.prog 25 4 gridT muG := by
  have h := RdM.struct Tryd.underlying25 (by kernel_rfl) (RdFM.cons rfl rdI (RdFM.cons rfl rdI (RdFM.cons rfl rdCells (RdFM.cons rfl rdRects RdFM.nil))))
  exact RdM.map h (fun p : Int × Int × List Cell × List Rect × Unit => ⟨p.1, p.2.1, p.2.2.1, p.2.2.2.1⟩) (fun a => rfl)
    (fun a => by simp only [muG]; omega) (fun b => ⟨rfl, fun T hT => by simp only [gridT, Tree.cells, List.mem_cons, List.not_mem_nil, or_false] at hT; rcases hT with rfl | rfl | rfl | rfl <;> rfl⟩)
set_option maxRecDepth 100000 in
theorem rdGEd : RdM Tryd.prog 33 5 gedT muE := by
  have h := RdM.struct Tryd.underlying33 (by kernel_rfl) (RdFM.cons rfl rdSteps (RdFM.cons rfl rdSteps (RdFM.cons rfl rdCells (RdFM.cons rfl rdRects (RdFM.cons rfl rdRects RdFM.nil)))))
  exact RdM.map h (fun p : List AxStep × List AxStep × List Cell × List Rect × List Rect × Unit => ⟨p.1, p.2.1, p.2.2.1, p.2.2.2.1, p.2.2.2.2.1⟩) (fun a => rfl)
    (fun a => by simp only [muE]; omega) (fun b => ⟨rfl, fun T hT => by simp only [gedT, Tree.cells, List.mem_cons, List.not_mem_nil, or_false] at hT; rcases hT with rfl | rfl | rfl | rfl | rfl <;> rfl⟩)
/-- An argument that is a struct. -/
theorem _root_.Go.Ab.RdM.argS {P : Program} {W : World} {t : TypeId} {k : Nat} {α : Type} {f : α → Tree} {μ : α → Nat} (h : RdM P t k f μ) (h1 : ∀ a, ∃ cs, f a = .agg cs) {H : Type} {enc : TypeId × Value → H} {v : Value} {d : DataW H} {ps : List MemPlace} (hd : DataW.Trod enc P W 0 (fun _ => true) true t v d ps) (hv : ∃ us, v = .agg us) :
    ∃ a, TRep W (fun b => b < W.heap.size) (f a) v ∧ μ a ≤ Rows.uptoBulk d := by
  obtain ⟨fuel, hf⟩ := hd
  obtain ⟨a, ⟨c1, c2⟩, c3⟩ := h.2.2 H enc W fuel _ _ hf
  obtain ⟨us, rfl⟩ := hv
  obtain ⟨cs, e⟩ := h1 a
  have hE := (h.1 a).2
  refine ⟨a, ?_, c3⟩
  rw [e] at c1 c2 hE ⊢
  exact TRep.agg cs us.toList c1 hE (fun i T u q1 q2 => c2 i T u q1 q2)
theorem szA {l : List Attr} (h : muA l ≤ 1048576) : Szd l ∧ l.length ≤ 1048576 := by
  unfold muA at h
  refine ⟨fun a ha => ?_, ?_⟩
  · have := sum_mem (μ := muAt) ha
    unfold muAt at this h
    omega
  · have := sum_len (μ := muAt) (fun a => by unfold muAt; omega) l
    omega
theorem szC {l : List Cell} (h : (l.map muC).sum ≤ 1048576) : SzC l ∧ CAN 1000000000000 l ∧ l.length ≤ 1048576 := by
  have hm : ∀ c ∈ l, c.text.size ≤ 1048576 ∧ muA c.attrs ≤ 1048576 := fun c hc => by
    have := sum_mem (μ := muC) hc
    unfold muC at this h
    omega
  refine ⟨fun c hc => ⟨by have := (hm c hc).1; omega, (szA (hm c hc).2).1⟩, fun c hc => Nat.le_trans (szA (hm c hc).2).2 (by decide), ?_⟩
  have := sum_len (μ := muC) (fun a => by unfold muC; omega) l
  omega
theorem szQ {l : List Rect} (h : (l.map muQ).sum ≤ 1048576) : l.length ≤ 1048576 := by
  have := sum_len (μ := muQ) (fun a => by unfold muQ; omega) l
  omega
theorem limG {x : Grid} (h : muG x ≤ 1048576) : LimG 1048576 x ∧ SzC x.cells := by
  unfold muG at h
  have h1 := szC (l := x.cells) (by omega)
  exact ⟨⟨h1.2.2, szQ (by omega), h1.2.1⟩, h1.1⟩
theorem limE {e : GEd} (h : muE e ≤ 1048576) : LimE 1048576 e ∧ SzC e.cells := by
  unfold muE at h
  have h1 := szC (l := e.cells) (by omega)
  exact ⟨⟨h1.2.2, szQ (by omega), szQ (by omega), h1.2.1⟩, h1.1⟩

set_option maxRecDepth 100000 in
theorem contract (H : Type) (enc : TypeId × Value → H) (W : World) (base : Nat) (args : Array Value) (ds gs : List (DataW H)) (before : List MemPlace)
    (hval0 : ∀ (j : Nat) t v, Tryd.f3.params[j]? = some t → args[j]? = some v → Value.okWide Tryd.prog W .any base t v)
    (hW : DataW.Whole enc Tryd.prog Tryd.f3.params.toList Rows.gridMergesApartSpec.vars false W args.toList ds gs before) (hsm : Rows.uptoSmall H (ds ++ gs) = true) (hT : TabW Tryd.prog W) :
    Calls Tryd.prog 3 args W fun e W' => ∃ v, e = .returned v ∧ Rows.gridMergesApartSpec.post enc Tryd.prog Tryd.f3 false true false false W args v W' := by
  have hbulk := bulk_bound hsm
  have hval := hval0
  have hW' := hW
  obtain ⟨p, q, hA0, hV, rfl, hfz, hnd⟩ := hW
  have hA : DataW.TrodAll enc Tryd.prog W 0 (fun _ => true) true Tryd.f3.params.toList args.toList ds p := hA0
  rw [Tryd.params3] at hA hval
  obtain ⟨v0, vs0, d0, ds0, p0, q0, hargs, rfl, rfl, h0, r0⟩ := trodAll_cons hA
  obtain ⟨v1, vs1, d1, ds1, p1, q1, rfl, rfl, rfl, h1, r1⟩ := trodAll_cons r0
  obtain ⟨rfl, rfl, rfl⟩ := trodAll_nil r1
  obtain rfl : args = #[v0, v1] := by cases args; simp_all
  obtain ⟨rfl, rfl⟩ := trodVars_none hV
  simp only [Rows.uptoBulkAll, List.cons_append, List.nil_append, List.append_nil] at hbulk
  obtain ⟨a0, rfl, _⟩ := okWide_struct Tryd.underlying25 (hval 0 25 v0 rfl rfl)
  obtain ⟨a1, len1, cap1, rfl⟩ := okWide_slice Tryd.underlying26 (hval 1 26 v1 rfl rfl)
  have lt0 : ∀ x ∈ p0, x.block < W.heap.size := by obtain ⟨m, hm⟩ := h0; exact DataW.trod_lt m _ _ _ hm
  have lt1 : ∀ x ∈ p1, x.block < W.heap.size := by obtain ⟨m, hm⟩ := h1; exact DataW.trod_lt m _ _ _ hm
  obtain ⟨x0, t0, b0⟩ := rdGrid.argS (fun _ => ⟨_, rfl⟩) h0 ⟨_, rfl⟩
  obtain ⟨x1, t1, b1⟩ := rdIs.arg (fun _ => rfl) h1 rfl
  clear hA0 hval0
  refine ((fc_law26 x0 x1 (limG (by omega)).1 (limG (by omega)).2).law hT (us := [.agg a0, .slice a1 len1 cap1]) rfl (fun i a u ha hu => ?_)).mono fun e W' ⟨he, bel⟩ => ?_
  · match i with
    | 0 => cases ha; cases hu; exact ⟨_, rfl, t0⟩
    | 1 => cases ha; cases hu; exact ⟨_, rfl, t1⟩
    | i + 2 => cases ha
  subst he
  exact ⟨_, rfl, _, _, _, [], _, [], hW', trodAll_mk1 (shut_bool Tryd.underlying4 _), (trodAll_cons_mk (Below.trod laidOut (by kernel_rfl) (of_decide_eq_true (by kernel_rfl)) h0 bel lt0) (trodAll_cons_mk (Below.trod laidOut (by kernel_rfl) (of_decide_eq_true (by kernel_rfl)) h1 bel lt1) trodAll_mk0)), rfl, bel.frame _, fun h => by cases h⟩

/-- A world for the witness: the two listed tables as they are laid. -/
def cellsD : {H : Type} → DataW H → List Value
  | _, .lit (.int k n) => [.int k n]
  | _, _ => []
def cells1D {H : Type} : DataW H → List Value
  | .agg ps => ps.flatMap cellsD
  | _ => []
def cells2D {H : Type} : DataW H → List Value
  | .agg ps => ps.flatMap cells1D
  | _ => []
def setCells (cs : List Value) : Obj → Obj
  | .cells _ t frozen => .cells cs.toArray t frozen
  | o => o
noncomputable def laidWorld (os : Os) : World :=
  { World.holding Tryd.prog os ⟨#[], #[], []⟩ with heap := ((World.holding Tryd.prog os ⟨#[], #[], []⟩).heap.modify 0 (setCells (cells1D Pinned.utf8First))).modify 1 (setCells (cells2D (Rows.laid_unicode_utf8_acceptRanges (H := Unit)))) }
theorem laid_met (os : Os) : laidMet Tryd.prog Rows.gridMergesApartUptoRow.laid ((laidWorld os).forCall (fun _ _ => 0) ⟨#[], #[.agg #[.int .i64 0, .int .i64 0, .slice none 0 0, .slice none 0 0], .slice none 0 0], []⟩).memory :=
  laidMet_of_run' 8 (by kernel_rfl) (by kernel_rfl)
theorem reads (os : Os) {H : Type} (enc : TypeId × Value → H) : ∃ places, DataW.whole enc Tryd.prog ((laidWorld os).forCall (fun _ _ => 0) ⟨#[], #[.agg #[.int .i64 0, .int .i64 0, .slice none 0 0, .slice none 0 0], .slice none 0 0], []⟩).memory Tryd.f3.params.toList Rows.gridMergesApartSpec.vars false #[(Value.agg #[.int .i64 0, .int .i64 0, .slice none 0 0, .slice none 0 0]), Value.slice none 0 0].toList 8 = some ([.agg [.lit (.int .i64 0), .lit (.int .i64 0), .nil, .nil], .nil], [], places) :=
  ⟨[], by kernel_rfl⟩
theorem first_eq : Go.Lib.firstData = Rows.laid_unicode_utf8_first := by kernel_rfl
theorem accept_eq : Go.Lib.acceptData = (Rows.laid_unicode_utf8_acceptRanges : DataW Unit) := by kernel_rfl
theorem extra : U8Extra Tryd.prog Tryd.lays260_ren :=
  { n3 := by kernel_rfl, n4 := by kernel_rfl, y3 := by kernel_rfl, y4 := by kernel_rfl, c5 := by kernel_rfl, c119 := by kernel_rfl, c138 := by kernel_rfl }
theorem tables {W : World} (hL : laidMetH Tryd.prog Rows.gridMergesApartUptoRow.laid W) : TabW Tryd.prog W := by
  have hL : laidMet Tryd.prog Rows.gridMergesApartUptoRow.laid W := by
    unfold laidMetH at hL
    have e : ((Rows.gridMergesApartUptoRow.laid).filter fun x => x.2.handleName?.isSome) = [] := by kernel_rfl
    rw [e] at hL; exact hL
  have h4 := Go.Lib.laidMet.reads hL (n := "unicode/utf8.acceptRanges") (d := Rows.laid_unicode_utf8_acceptRanges) (List.mem_cons_self ..)
  have h3 := Go.Lib.laidMet.reads hL (n := "unicode/utf8.first") (d := Rows.laid_unicode_utf8_first) (List.mem_cons_of_mem _ (List.mem_cons_self ..))
  rw [← first_eq] at h3
  rw [← accept_eq] at h4
  intro a b ha hb
  obtain rfl : 0 = a := Option.some.inj ((show Tryd.prog.globalNamed "unicode/utf8.first" = some 0 by kernel_rfl).symm.trans ha)
  obtain rfl : 1 = b := Option.some.inj ((show Tryd.prog.globalNamed "unicode/utf8.acceptRanges" = some 1 by kernel_rfl).symm.trans hb)
  exact utf8Tabs_of_readsT (U8Types.of260 Tryd.lays260) extra h3 h4
set_option maxRecDepth 100000 in
theorem lifted (os : Os) (started : os.Started) (H : Type) (enc : TypeId × Value → H) (F : Stop.Interp) :
    ReturnsInHanded {} Tryd.checked os 3 .any ((Rows.OpenSpec.upto Rows.gridMergesApartSpec).preRow enc Tryd.prog Tryd.f3 Rows.gridMergesApartUptoRow.domain false Rows.gridMergesApartUptoRow.laid) (((Rows.OpenSpec.upto Rows.gridMergesApartSpec).at F).post enc Tryd.prog Tryd.f3 false true false false) := by
  obtain ⟨places, hx⟩ := reads os enc
  refine returnsInHanded_of_row (C := Tryd.checked) (s := Rows.OpenSpec.upto Rows.gridMergesApartSpec) own started (by kernel_rfl) Tryd.func3
    (witness_row_at (enc := enc) (C := Tryd.checked) false (laidWorld os) #[.agg #[.int .i64 0, .int .i64 0, .slice none 0 0, .slice none 0 0], .slice none 0 0] rfl (by kernel_rfl) (by kernel_rfl) (by kernel_rfl)
      (OpenSpec.preRow_of_cond 8 hx (by kernel_rfl) (fun k hk => by cases hk; kernel_rfl) (by kernel_rfl) (laid_met os))) ?_
  intro W base args ds gs before hval hW _ hcond _ hL _ _
  exact contract H enc W base args ds gs before hval hW (hcond _ rfl) (tables hL)
set_option maxRecDepth 100000 in
theorem closed : joinedFacts Tryd.pinned.checked.prog 3 Tryd.f3 (Rows.OpenSpec.upto Rows.gridMergesApartSpec).bare Rows.gridMergesApartUptoRow = true := by kernel_rfl
theorem saidUpto : Rows.GridMergesApartUptoSaid :=
  OpenClaim.holds_of_cond 3 Tryd.f3 rfl rfl rfl rfl rfl rfl rfl ⟨rfl, rfl, rfl, rfl, rfl⟩ rfl rfl rfl rfl rfl (by kernel_rfl) Tryd.func3 closed
    (of_decide_eq_true (by kernel_rfl)) (by unfold Func.isWrapper; first | (rw [if_pos (by decide +kernel)]; kernel_rfl) | (rw [if_neg (by decide +kernel)]; exact ⟨rfl, rfl⟩))
    (fun os started H enc _ F => by rw [OpenClaim.pre_eq_preRow]; exact lifted os started H enc F)
theorem plain (f : FuncId) (fn : Func) (hf : Tryd.pinned.checked.prog.funcNamed "chancery/chancerykeep1.GridMergesApart" = some f) (hfn : Tryd.pinned.checked.prog.funcs[f]? = some fn) :
    false = Tryd.pinned.checked.prog.looks [] ∧ ∀ (j : Nat) t, fn.params[j]? = some t → Tryd.pinned.checked.prog.wantsStandIn t = false := by
  obtain rfl : f = 3 := Option.some.inj ((show Tryd.prog.funcNamed "chancery/chancerykeep1.GridMergesApart" = some 3 by kernel_rfl).symm.trans hf) |>.symm
  obtain rfl : fn = Tryd.f3 := (Option.some.inj (Tryd.func3.symm.trans hfn)).symm
  refine ⟨by kernel_rfl, fun j t ht => ?_⟩
  rw [Tryd.params3] at ht
  have hm := Array.mem_of_getElem? ht
  simp only [List.mem_toArray, List.mem_cons, List.not_mem_nil, or_false] at hm
  rcases hm with rfl | rfl
  · exact (show Tryd.prog.wantsStandIn 25 = false by kernel_rfl)
  · exact (show Tryd.prog.wantsStandIn 26 = false by kernel_rfl)
theorem proved : Rows.GridMergesApartUptoCardSaid :=
  Claim7.holds_tied_plain_at .later [] _ _ _ _ saidUpto (fun _ h => by cases h) (by kernel_rfl) (fun _ h => by cases h) gridMergesApartUpto_row_tie rfl ⟨rfl, rfl⟩ (by kernel_rfl) rfl plain (by kernel_rfl)
end Go.Proofs.YthpcjddcgdlilaaDoor.gridMergesApart
