/- PROVED: StyleDirectCounts returns true for every input of bulk at most 1048576: the tied card Rows.StyleDirectCountsUptoCardSaid. The listed variables are tied to the pruned copy of the program. -/
import Derived.Test.YtfhidobmbgmjfaaGreatDoorM1
import Derived.Test.YtfhidobmbgmjfaaGreatDoorM2
import Derived.Test.YtfhidobmbgmjfaaGreatDoorM3
import Derived.Test.YtfhidobmbgmjfaaGreatDoorM4
import Derived.Test.YtfhidobmbgmjfaaGreatDoorM5
import Derived.Test.YtfhidobmbgmjfaaGreatDoorM6
import Derived.Test.YtfhidobmbgmjfaaGreatDoorM7
import Derived.Test.YtfhidobmbgmjfaaGreatDoorM8
import Derived.Test.YtfhidobmbgmjfaaGreatDoorM9
import Derived.Test.YtfhidobmbgmjfaaGreatDoorM10
import Derived.Lay
import Derived.Test.YtfhidobmbgmjfaaGreatDoorCards
import Derived.Test.YtfhidobmbgmjfaaGreatDoorTie
import Derived.WalkKit
import Derived.ProofKit
import Derived.OpenShut
import Derived.Below
import Derived.Carry
import Derived.ChangeOld
import Derived.JoinedCond
import Derived.Deep.DeepHandedRow
import Derived.Lib.LaidTab
import Derived.Lib.LaidU8T
import Derived.ChangeMaps5

namespace Go.Proofs.YtfhidobmbgmjfaaGreatDoor.styleDirectCounts
open Go.ChangeShapes Go.WideShapes Go.ChangeAt Go.RowKit
open Go Go.Proofs Go.Ab Go.Ch
set_option linter.unusedVariables false
set_option linter.unusedSimpArgs false

theorem own : ownKnob Tryz.prog.godebug = none := by kernel_rfl
theorem laidOut : laidOutB Tryz.prog = true := by kernel_rfl
theorem rdI : RdM Tryz.prog 3 1 (fun z : Int => .sc (.int .i64 z)) (fun _ => 1) := RdM.int Tryz.underlying3 (by kernel_rfl)
theorem rdStr : RdM Tryz.prog 9 1 (fun s : ByteArray => .sc (.string s)) (fun s => s.size + 1) := RdM.str Tryz.underlying9 (by kernel_rfl)
def muAt (a : Attr) : Nat := a.name.size + a.val.size + 1
def muA (l : List Attr) : Nat := (l.map muAt).sum
def muE (e : Elem) : Nat := muA e.attrs + 1
def muC (c : Cell) : Nat := c.text.size + muA c.attrs + 1
def muQ (_ : Rect) : Nat := 1
def muG (g : Grid) : Nat := (g.cells.map muC).sum + (g.merges.map muQ).sum
def muO (o : DOp) : Nat := o.plc.size + o.nm.size + o.vl.size + 1
def muN (n : Ch.Node) : Nat := muA n.attrs + (n.flow.map muE).sum + muG n.grid + (n.draw.map muO).sum + 1
def muD (d : Ch.Doc) : Nat := (d.nodes.map muN).sum
set_option maxRecDepth 100000 in
theorem rdAttr : RdM Tryz.prog 50 2 attrT muAt := by
  have h := RdM.struct Tryz.underlying50 (by kernel_rfl) (RdFM.cons rfl rdStr (RdFM.cons rfl rdStr RdFM.nil))
  exact RdM.map h (fun p : ByteArray × ByteArray × Unit => ⟨p.1, p.2.1⟩) (fun a => rfl)
    (fun a => by simp only [muAt]; omega) (fun b => ⟨rfl, fun T hT => by simp only [attrT, Tree.cells, List.mem_cons, List.not_mem_nil, or_false] at hT; rcases hT with rfl | rfl <;> rfl⟩)
set_option maxRecDepth 100000 in
theorem rdAttrs : RdM Tryz.prog 40 1 (fun l : List Attr => .lst 2 (l.map attrT)) (fun l => (l.map muAt).sum + 1) := RdM.slice Tryz.underlying40 (by decide) (by kernel_rfl) rdAttr
set_option maxRecDepth 100000 in
theorem rdElem : RdM Tryz.prog 42 3 elemT muE := by
  have h := RdM.struct Tryz.underlying42 (by kernel_rfl) (RdFM.cons rfl rdI (RdFM.cons rfl rdI (RdFM.cons rfl rdAttrs RdFM.nil)))
  exact RdM.map h (fun p : Int × Int × List Attr × Unit => ⟨p.1, p.2.1, p.2.2.1⟩) (fun a => rfl)
    (fun a => by simp only [muE, muA]; omega) (fun b => ⟨rfl, fun T hT => by simp only [elemT, Tree.cells, List.mem_cons, List.not_mem_nil, or_false] at hT; rcases hT with rfl | rfl | rfl <;> rfl⟩)
set_option maxRecDepth 100000 in
theorem rdFlow : RdM Tryz.prog 56 1 (fun l : List Elem => .lst 3 (l.map elemT)) (fun l => (l.map muE).sum + 1) := RdM.slice Tryz.underlying56 (by decide) (by kernel_rfl) rdElem
set_option maxRecDepth 100000 in
theorem rdCell : RdM Tryz.prog 125 5 cellT muC := by
  have h := RdM.struct Tryz.underlying125 (by kernel_rfl) (RdFM.cons rfl rdI (RdFM.cons rfl rdI (RdFM.cons rfl rdStr (RdFM.cons rfl rdI (RdFM.cons rfl rdAttrs RdFM.nil)))))
  exact RdM.map h (fun p : Int × Int × ByteArray × Int × List Attr × Unit => ⟨p.1, p.2.1, p.2.2.1, p.2.2.2.1, p.2.2.2.2.1⟩) (fun a => rfl)
    (fun a => by simp only [muC, muA]; omega) (fun b => ⟨rfl, fun T hT => by simp only [cellT, Tree.cells, List.mem_cons, List.not_mem_nil, or_false] at hT; rcases hT with rfl | rfl | rfl | rfl | rfl <;> rfl⟩)
set_option maxRecDepth 100000 in
theorem rdCells : RdM Tryz.prog 57 1 (fun l : List Cell => .lst 5 (l.map cellT)) (fun l => (l.map muC).sum + 1) := RdM.slice Tryz.underlying57 (by decide) (by kernel_rfl) rdCell
set_option maxRecDepth 100000 in
theorem rdRect : RdM Tryz.prog 134 4 rectT muQ := by
  have h := RdM.struct Tryz.underlying134 (by kernel_rfl) (RdFM.cons rfl rdI (RdFM.cons rfl rdI (RdFM.cons rfl rdI (RdFM.cons rfl rdI RdFM.nil))))
  exact RdM.map h (fun p : Int × Int × Int × Int × Unit => ⟨p.1, p.2.1, p.2.2.1, p.2.2.2.1⟩) (fun a => rfl)
    (fun a => by simp only [muQ]; omega) (fun b => ⟨rfl, fun T hT => by simp only [rectT, Tree.cells, List.mem_cons, List.not_mem_nil, or_false] at hT; rcases hT with rfl | rfl | rfl | rfl <;> rfl⟩)
set_option maxRecDepth 100000 in
theorem rdRects : RdM Tryz.prog 58 1 (fun l : List Rect => .lst 4 (l.map rectT)) (fun l => (l.map muQ).sum + 1) := RdM.slice Tryz.underlying58 (by decide) (by kernel_rfl) rdRect
set_option maxRecDepth 100000 in
theorem rdGrid : RdM Tryz.prog 60 4 gridT muG := by
  have h := RdM.struct Tryz.underlying60 (by kernel_rfl) (RdFM.cons rfl rdI (RdFM.cons rfl rdI (RdFM.cons rfl rdCells (RdFM.cons rfl rdRects RdFM.nil))))
  exact RdM.map h (fun p : Int × Int × List Cell × List Rect × Unit => ⟨p.1, p.2.1, p.2.2.1, p.2.2.2.1⟩) (fun a => rfl)
    (fun a => by simp only [muG]; omega) (fun b => ⟨rfl, fun T hT => by simp only [gridT, Tree.cells, List.mem_cons, List.not_mem_nil, or_false] at hT; rcases hT with rfl | rfl | rfl | rfl <;> rfl⟩)
set_option maxRecDepth 100000 in
theorem rdOp : RdM Tryz.prog 157 8 dopT muO := by
  have h := RdM.struct Tryz.underlying157 (by kernel_rfl) (RdFM.cons rfl rdI (RdFM.cons rfl rdI (RdFM.cons rfl rdI (RdFM.cons rfl rdI (RdFM.cons rfl rdI (RdFM.cons rfl rdStr (RdFM.cons rfl rdStr (RdFM.cons rfl rdStr RdFM.nil))))))))
  exact RdM.map h (fun p : Int × Int × Int × Int × Int × ByteArray × ByteArray × ByteArray × Unit => ⟨p.1, p.2.1, p.2.2.1, p.2.2.2.1, p.2.2.2.2.1, p.2.2.2.2.2.1, p.2.2.2.2.2.2.1, p.2.2.2.2.2.2.2.1⟩) (fun a => rfl)
    (fun a => by simp only [muO]; omega) (fun b => ⟨rfl, fun T hT => by simp only [dopT, Tree.cells, List.mem_cons, List.not_mem_nil, or_false] at hT; rcases hT with rfl | rfl | rfl | rfl | rfl | rfl | rfl | rfl <;> rfl⟩)
set_option maxRecDepth 100000 in
theorem rdOps : RdM Tryz.prog 61 1 (fun l : List DOp => .lst 8 (l.map dopT)) (fun l => (l.map muO).sum + 1) := RdM.slice Tryz.underlying61 (by decide) (by kernel_rfl) rdOp
set_option maxRecDepth 100000 in
theorem rdNode : RdM Tryz.prog 63 9 nodeT muN := by
  have h := RdM.struct Tryz.underlying63 (by kernel_rfl) (RdFM.cons rfl rdI (RdFM.cons rfl rdI (RdFM.cons rfl rdAttrs (RdFM.cons rfl rdFlow (RdFM.cons rfl rdGrid (RdFM.cons rfl rdOps RdFM.nil))))))
  exact RdM.map h (fun p : Int × Int × List Attr × List Elem × Grid × List DOp × Unit => ⟨p.1, p.2.1, p.2.2.1, p.2.2.2.1, p.2.2.2.2.1, p.2.2.2.2.2.1⟩) (fun a => rfl)
    (fun a => by simp only [muN, muA]; omega) (fun b => ⟨rfl, fun T hT => by simp only [nodeT, Tree.cells, List.mem_cons, List.not_mem_nil, or_false] at hT; rcases hT with rfl | rfl | rfl | rfl | rfl | rfl | rfl | rfl | rfl <;> rfl⟩)
set_option maxRecDepth 100000 in
theorem rdNodes : RdM Tryz.prog 22 1 (fun l : List Ch.Node => .lst 9 (l.map nodeT)) (fun l => (l.map muN).sum + 1) := RdM.slice Tryz.underlying22 (by decide) (by kernel_rfl) rdNode
set_option maxRecDepth 100000 in
theorem rdDoc : RdM Tryz.prog 24 1 docT muD := by
  have h := RdM.struct Tryz.underlying24 (by kernel_rfl) (RdFM.cons rfl rdNodes RdFM.nil)
  exact RdM.map h (fun p : List Ch.Node × Unit => ⟨p.1⟩) (fun a => rfl)
    (fun a => by simp only [muD]; omega) (fun b => ⟨rfl, fun T hT => by simp only [docT, Tree.cells, List.mem_cons, List.not_mem_nil, or_false] at hT; rcases hT with rfl <;> rfl⟩)
/-- An argument that is a struct. -/
theorem _root_.Go.Ab.RdM.argS {P : Program} {W : World} {t : TypeId} {k : Nat} {α : Type} {f : α → Tree} {μ : α → Nat} (h : RdM P t k f μ) (h1 : ∀ a, ∃ cs, f a = .agg cs) {H : Type} {enc : TypeId × Value → H} {v : Value} {d : DataW H} {ps : List MemPlace} (hd : DataW.Trod enc P W 0 (fun _ => true) true t v d ps) (hv : ∃ us, v = .agg us) :
    ∃ a, TRep W (fun b => b < W.heap.size) (f a) v ∧ μ a ≤ Rows.uptoBulk d := by
  obtain ⟨fuel, hf⟩ := hd
  obtain ⟨a, ⟨c1, c2⟩, c3⟩ := h.2.2 H enc W fuel _ _ hf
  obtain ⟨us, rfl⟩ := hv
  obtain ⟨cs, e⟩ := h1 a
  have hE := (h.1 a).2
  refine ⟨a, ?_, c3⟩
  rw [e] at c1 c2 hE ⊢
  exact TRep.agg cs us.toList c1 hE (fun i T u q1 q2 => c2 i T u q1 q2)
theorem szA {l : List Attr} (h : muA l ≤ 1048576) : Szd l ∧ l.length ≤ 1048576 := by
  unfold muA at h
  refine ⟨fun a ha => ?_, ?_⟩
  · have := sum_mem (μ := muAt) ha
    unfold muAt at this h
    omega
  · have := sum_len (μ := muAt) (fun a => by unfold muAt; omega) l
    omega
theorem szN {n : Ch.Node} (h : muN n ≤ 1048576) : NodeB n := by
  unfold muN muG at h
  have hA := szA (l := n.attrs) (by omega)
  have hE : ∀ x ∈ n.flow, muA x.attrs ≤ 1048576 := fun x hx => by
    have := sum_mem (μ := muE) hx
    unfold muE at this h
    omega
  have hC : ∀ c ∈ n.grid.cells, c.text.size ≤ 1048576 ∧ muA c.attrs ≤ 1048576 := fun c hc => by
    have := sum_mem (μ := muC) hc
    unfold muC at this h
    omega
  have l1 := sum_len (μ := muE) (fun a => by unfold muE; omega) n.flow
  have l2 := sum_len (μ := muC) (fun a => by unfold muC; omega) n.grid.cells
  have l3 := sum_len (μ := muQ) (fun a => by unfold muQ; omega) n.grid.merges
  have l4 := sum_len (μ := muO) (fun a => by unfold muO; omega) n.draw
  exact ⟨hA.1, hA.2, fun x hx => (szA (hE x hx)).1, by omega, fun x hx => (szA (hE x hx)).2, fun c hc => ⟨by have := (hC c hc).1; omega, (szA (hC c hc).2).1⟩, by omega, fun c hc => (szA (hC c hc).2).2, by omega, by omega, fun o ho => by
    have := sum_mem (μ := muO) ho
    unfold muO at this h
    omega⟩
theorem len_mu (n : Ch.Node) : lenN n ≤ muN n := by
  unfold lenN muN muG
  have l1 := sum_len (μ := muE) (fun a => by unfold muE; omega) n.flow
  have l2 := sum_len (μ := muC) (fun a => by unfold muC; omega) n.grid.cells
  have l4 := sum_len (μ := muO) (fun a => by unfold muO; omega) n.draw
  omega
theorem lens_mu (l : List Ch.Node) : lensN l ≤ (l.map muN).sum := by
  unfold lensN
  induction l with
  | nil => simp
  | cons n l ih => have := len_mu n; simp only [List.map_cons, List.sum_cons]; omega
theorem szD {d : Ch.Doc} (h : muD d ≤ 1048576) : DocB d := by
  unfold muD at h
  have l1 := sum_len (μ := muN) (fun a => by unfold muN; omega) d.nodes
  have l2 := lens_mu d.nodes
  exact ⟨by omega, fun n hn => szN (by have := sum_mem (μ := muN) hn; omega), by omega⟩
theorem att_mu (l : List Ch.Node) : attN l ≤ (l.map muN).sum := by
  unfold attN
  induction l with
  | nil => simp
  | cons n l ih =>
    have h1 := sum_len (μ := muAt) (fun a => by unfold muAt; omega) n.attrs
    have h2 : (n.attrs.map muAt).sum ≤ muN n := by unfold muN muA; omega
    simp only [List.map_cons, List.sum_cons]; omega
theorem atD {d : Ch.Doc} (h : muD d ≤ 1048576) : attN d.nodes ≤ 1048576 := Nat.le_trans (att_mu _) h
theorem szEl {x : Elem} (h : muE x ≤ 1048576) : Szd x.attrs ∧ x.attrs.length ≤ 1048576 := szA (by unfold muE at h; omega)

set_option maxRecDepth 100000 in
theorem contract (H : Type) (enc : TypeId × Value → H) (W : World) (base : Nat) (args : Array Value) (ds gs : List (DataW H)) (before : List MemPlace)
    (hval0 : ∀ (j : Nat) t v, Tryz.f5.params[j]? = some t → args[j]? = some v → Value.okWide Tryz.prog W .any base t v)
    (hW : DataW.Whole enc Tryz.prog Tryz.f5.params.toList Rows.styleDirectCountsSpec.vars false W args.toList ds gs before) (hsm : Rows.uptoSmall H (ds ++ gs) = true) (hT : TabW Tryz.prog W) :
    Calls Tryz.prog 5 args W fun e W' => ∃ v, e = .returned v ∧ Rows.styleDirectCountsSpec.post enc Tryz.prog Tryz.f5 false true false false W args v W' := by
  have hbulk := bulk_bound hsm
  have hval := hval0
  have hW' := hW
  obtain ⟨p, q, hA0, hV, rfl, hfz, hnd⟩ := hW
  have hA : DataW.TrodAll enc Tryz.prog W 0 (fun _ => true) true Tryz.f5.params.toList args.toList ds p := hA0
  rw [Tryz.params5] at hA hval
  obtain ⟨v0, vs0, d0, ds0, p0, q0, hargs, rfl, rfl, h0, r0⟩ := trodAll_cons hA
  obtain ⟨v1, vs1, d1, ds1, p1, q1, rfl, rfl, rfl, h1, r1⟩ := trodAll_cons r0
  obtain ⟨v2, vs2, d2, ds2, p2, q2, rfl, rfl, rfl, h2, r2⟩ := trodAll_cons r1
  obtain ⟨rfl, rfl, rfl⟩ := trodAll_nil r2
  obtain rfl : args = #[v0, v1, v2] := by cases args; simp_all
  obtain ⟨rfl, rfl⟩ := trodVars_none hV
  simp only [Rows.uptoBulkAll, List.cons_append, List.nil_append, List.append_nil] at hbulk
  obtain ⟨a0, rfl, _⟩ := okWide_struct Tryz.underlying24 (hval 0 24 v0 rfl rfl)
  obtain ⟨a1, rfl, _⟩ := okWide_struct Tryz.underlying42 (hval 1 42 v1 rfl rfl)
  obtain ⟨a2, len2, cap2, rfl⟩ := okWide_slice Tryz.underlying40 (hval 2 40 v2 rfl rfl)
  have lt0 : ∀ x ∈ p0, x.block < W.heap.size := by obtain ⟨m, hm⟩ := h0; exact DataW.trod_lt m _ _ _ hm
  have lt1 : ∀ x ∈ p1, x.block < W.heap.size := by obtain ⟨m, hm⟩ := h1; exact DataW.trod_lt m _ _ _ hm
  have lt2 : ∀ x ∈ p2, x.block < W.heap.size := by obtain ⟨m, hm⟩ := h2; exact DataW.trod_lt m _ _ _ hm
  obtain ⟨x0, t0, b0⟩ := rdDoc.argS (fun _ => ⟨_, rfl⟩) h0 ⟨_, rfl⟩
  obtain ⟨x1, t1, b1⟩ := rdElem.argS (fun _ => ⟨_, rfl⟩) h1 ⟨_, rfl⟩
  obtain ⟨x2, t2, b2⟩ := rdAttrs.arg (fun _ => rfl) h2 rfl
  clear hA0 hval0
  refine ((fc_law34 x0 x1 x2 (szD (by omega)) (atD (by omega)) (szEl (by omega)).1 (szEl (by omega)).2 (szA (l := x2) (by unfold muA; omega)).1 (szA (l := x2) (by unfold muA; omega)).2).law hT (us := [.agg a0, .agg a1, .slice a2 len2 cap2]) rfl (fun i a u ha hu => ?_)).mono fun e W' ⟨he, bel⟩ => ?_
  · match i with
    | 0 => cases ha; cases hu; exact ⟨_, rfl, t0⟩
    | 1 => cases ha; cases hu; exact ⟨_, rfl, t1⟩
    | 2 => cases ha; cases hu; exact ⟨_, rfl, t2⟩
    | i + 3 => cases ha
  subst he
  exact ⟨_, rfl, _, _, _, [], _, [], hW', trodAll_mk1 (shut_bool Tryz.underlying4 _), (trodAll_cons_mk (Below.trod laidOut (by kernel_rfl) (of_decide_eq_true (by kernel_rfl)) h0 bel lt0) (trodAll_cons_mk (Below.trod laidOut (by kernel_rfl) (of_decide_eq_true (by kernel_rfl)) h1 bel lt1) (trodAll_cons_mk (Below.trod laidOut (by kernel_rfl) (of_decide_eq_true (by kernel_rfl)) h2 bel lt2) trodAll_mk0))), rfl, bel.frame _, fun h => by cases h⟩

/-- A world for the witness: the listed tables as they are laid. -/
noncomputable def laidWorld (os : Os) : World := World.laidAll Tryz.prog os Rows.styleDirectCountsUptoRow.laid
set_option maxRecDepth 100000 in
theorem laid_met (os : Os) : laidMet Tryz.prog Rows.styleDirectCountsUptoRow.laid ((laidWorld os).forCall (fun _ _ => 0) ⟨#[], #[.agg #[.slice none 0 0], .agg #[.int .i64 0, .int .i64 0, .slice none 0 0], .slice none 0 0], []⟩).memory :=
  laidMet_laidAll #[.agg #[.slice none 0 0], .agg #[.int .i64 0, .int .i64 0, .slice none 0 0], .slice none 0 0] (by kernel_rfl) (by kernel_rfl)
set_option maxRecDepth 100000 in
theorem reads (os : Os) {H : Type} (enc : TypeId × Value → H) : ∃ places, DataW.whole enc Tryz.prog ((laidWorld os).forCall (fun _ _ => 0) ⟨#[], #[.agg #[.slice none 0 0], .agg #[.int .i64 0, .int .i64 0, .slice none 0 0], .slice none 0 0], []⟩).memory Tryz.f5.params.toList Rows.styleDirectCountsSpec.vars false #[(Value.agg #[.slice none 0 0]), (Value.agg #[.int .i64 0, .int .i64 0, .slice none 0 0]), Value.slice none 0 0].toList 8 = some ([.agg [.nil], .agg [.lit (.int .i64 0), .lit (.int .i64 0), .nil], .nil], [], places) :=
  ⟨[], by kernel_rfl⟩
theorem first_eq : Go.Lib.firstData = Rows.laid_unicode_utf8_first := by kernel_rfl
theorem accept_eq : Go.Lib.acceptData = (Rows.laid_unicode_utf8_acceptRanges : DataW Unit) := by kernel_rfl
theorem extra : U8Extra Tryz.prog Tryz.lays260_ren :=
  { n3 := by kernel_rfl, n4 := by kernel_rfl, y3 := by kernel_rfl, y4 := by kernel_rfl, c5 := by kernel_rfl, c119 := by kernel_rfl, c138 := by kernel_rfl }
theorem pow_of {W : World} (h : Go.Lib.VarReads Tryz.prog W "internal/strconv.uint64pow10" Rows.laid_internal_strconv_uint64pow10) : ∃ cs, W.var? Tryz.prog "internal/strconv.uint64pow10" = some cs ∧ cs = (Go.Lib.pow10Tab.map fun z => Value.int .u64 z).toArray := by
  have e : (Rows.laid_internal_strconv_uint64pow10 : DataW Unit) = Go.Lib.tabData .u64 Go.Lib.pow10Tab := by kernel_rfl
  rw [e] at h
  obtain ⟨g, t, cs, fuel, p, hg, ht, hv, hd⟩ := h
  obtain rfl : 4 = g := Option.some.inj ((show Tryz.prog.globalNamed "internal/strconv.uint64pow10" = some 4 by kernel_rfl).symm.trans hg)
  obtain rfl : 266 = t := Option.some.inj ((show (Tryz.prog.globals[4]?).map (·.type) = some 266 by kernel_rfl).symm.trans ht)
  have := Go.Lib.cells_of_tab Tryz.underlying266 Tryz.underlying235 (by kernel_rfl) (by kernel_rfl) hd
  refine ⟨cs, hv, ?_⟩
  rw [← this]
theorem err_of {W : World} {n nm : String} {d : DataW Unit} {g : Nat} (h1 : Tryz.prog.globalNamed n = some g) (h2 : (Tryz.prog.globals[g]?).map (·.type) = some 168) (h : Go.Lib.VarReads Tryz.prog W n (.iface nm d)) : ∃ cs, W.var? Tryz.prog n = some cs ∧ ∃ tp p, cs = #[.iface tp p] := by
  obtain ⟨g', t, cs, fuel, p, hg, ht, hv, hd⟩ := h
  obtain rfl := Option.some.inj (h1.symm.trans hg)
  obtain rfl := Option.some.inj (h2.symm.trans ht)
  obtain ⟨_, u, v, e, _, _⟩ := iface_of_trod Tryz.underlying168 hd
  exact ⟨cs, hv, u, v, by apply Array.ext'; simpa using e⟩
theorem tables {W : World} (hL : laidMetH Tryz.prog Rows.styleDirectCountsUptoRow.laid W) : TabW Tryz.prog W := by
  have hL : laidMet Tryz.prog Rows.styleDirectCountsUptoRow.laid W := by
    unfold laidMetH at hL
    have e : ((Rows.styleDirectCountsUptoRow.laid).filter fun x => x.2.handleName?.isSome) = [] := by kernel_rfl
    rw [e] at hL; exact hL
  have mem : ∀ (n : String) (d : DataW Unit), (Rows.styleDirectCountsUptoRow.laid).find? (fun x => x.1 == n) = some (n, d) → (n, d) ∈ Rows.styleDirectCountsUptoRow.laid := fun n d h => List.mem_of_find?_eq_some h
  have h4 := Go.Lib.laidMet.reads hL (mem "unicode/utf8.acceptRanges" Rows.laid_unicode_utf8_acceptRanges (by kernel_rfl))
  have h3 := Go.Lib.laidMet.reads hL (mem "unicode/utf8.first" Rows.laid_unicode_utf8_first (by kernel_rfl))
  have hp := Go.Lib.laidMet.reads hL (mem "internal/strconv.uint64pow10" Rows.laid_internal_strconv_uint64pow10 (by kernel_rfl))
  have hs := Go.Lib.laidMet.reads hL (mem "strconv.ErrSyntax" Rows.laid_strconv_ErrSyntax (by kernel_rfl))
  have hr := Go.Lib.laidMet.reads hL (mem "strconv.ErrRange" Rows.laid_strconv_ErrRange (by kernel_rfl))
  rw [← first_eq] at h3
  rw [← accept_eq] at h4
  refine ⟨fun a b ha hb => ?_, fun p hm a ha => ?_⟩
  · obtain rfl : 0 = a := Option.some.inj ((show Tryz.prog.globalNamed "unicode/utf8.first" = some 0 by kernel_rfl).symm.trans ha)
    obtain rfl : 1 = b := Option.some.inj ((show Tryz.prog.globalNamed "unicode/utf8.acceptRanges" = some 1 by kernel_rfl).symm.trans hb)
    exact utf8Tabs_of_readsT (U8Types.of260 Tryz.lays260) extra h3 h4
  · unfold tabVars at hm
    simp only [List.mem_cons, List.not_mem_nil, or_false] at hm
    rcases hm with rfl | rfl | rfl
    · exact pow_of hp
    · exact err_of (g := 2) (by kernel_rfl) (by kernel_rfl) hs
    · exact err_of (g := 3) (by kernel_rfl) (by kernel_rfl) hr
set_option maxRecDepth 100000 in
theorem lifted (os : Os) (started : os.Started) (H : Type) (enc : TypeId × Value → H) (F : Stop.Interp) :
    ReturnsInHanded {} Tryz.checked os 5 .any ((Rows.OpenSpec.upto Rows.styleDirectCountsSpec).preRow enc Tryz.prog Tryz.f5 Rows.styleDirectCountsUptoRow.domain false Rows.styleDirectCountsUptoRow.laid) (((Rows.OpenSpec.upto Rows.styleDirectCountsSpec).at F).post enc Tryz.prog Tryz.f5 false true false false) := by
  obtain ⟨places, hx⟩ := reads os enc
  refine returnsInHanded_of_row (C := Tryz.checked) (s := Rows.OpenSpec.upto Rows.styleDirectCountsSpec) own started (by kernel_rfl) Tryz.func5
    (witness_row_at (enc := enc) (C := Tryz.checked) false (laidWorld os) #[.agg #[.slice none 0 0], .agg #[.int .i64 0, .int .i64 0, .slice none 0 0], .slice none 0 0] (World.laidAll_os _ _ _) (by kernel_rfl) (by kernel_rfl) (by kernel_rfl)
      (OpenSpec.preRow_of_cond 8 hx (by kernel_rfl) (fun k hk => by cases hk; kernel_rfl) (by kernel_rfl) (laid_met os))) ?_
  intro W base args ds gs before hval hW _ hcond _ hL _ _
  exact contract H enc W base args ds gs before hval hW (hcond _ rfl) (tables hL)
set_option maxRecDepth 100000 in
theorem closed : joinedFacts Tryz.pinned.checked.prog 5 Tryz.f5 (Rows.OpenSpec.upto Rows.styleDirectCountsSpec).bare Rows.styleDirectCountsUptoRow = true := by kernel_rfl
theorem saidUpto : Rows.StyleDirectCountsUptoSaid :=
  OpenClaim.holds_of_cond 5 Tryz.f5 rfl rfl rfl rfl rfl rfl rfl ⟨rfl, rfl, rfl, rfl, rfl⟩ rfl rfl rfl rfl rfl (by kernel_rfl) Tryz.func5 closed
    (of_decide_eq_true (by kernel_rfl)) (by unfold Func.isWrapper; first | (rw [if_pos (by decide +kernel)]; kernel_rfl) | (rw [if_neg (by decide +kernel)]; exact ⟨rfl, rfl⟩))
    (fun os started H enc _ F => by rw [OpenClaim.pre_eq_preRow]; exact lifted os started H enc F)
theorem plain (f : FuncId) (fn : Func) (hf : Tryz.pinned.checked.prog.funcNamed "chancery/chancerykeep1.StyleDirectCounts" = some f) (hfn : Tryz.pinned.checked.prog.funcs[f]? = some fn) :
    true = Tryz.pinned.checked.prog.looks [] ∧ ∀ (j : Nat) t, fn.params[j]? = some t → Tryz.pinned.checked.prog.wantsStandIn t = false := by
  obtain rfl : f = 5 := Option.some.inj ((show Tryz.prog.funcNamed "chancery/chancerykeep1.StyleDirectCounts" = some 5 by kernel_rfl).symm.trans hf) |>.symm
  obtain rfl : fn = Tryz.f5 := (Option.some.inj (Tryz.func5.symm.trans hfn)).symm
  refine ⟨by kernel_rfl, fun j t ht => ?_⟩
  rw [Tryz.params5] at ht
  have hm := Array.mem_of_getElem? ht
  simp only [List.mem_toArray, List.mem_cons, List.not_mem_nil, or_false] at hm
  rcases hm with rfl | rfl | rfl
  · exact (show Tryz.prog.wantsStandIn 24 = false by kernel_rfl)
  · exact (show Tryz.prog.wantsStandIn 42 = false by kernel_rfl)
  · exact (show Tryz.prog.wantsStandIn 40 = false by kernel_rfl)
theorem proved : Rows.StyleDirectCountsUptoCardSaid :=
  Claim7.holds_tied_plain_at .later [] _ _ _ _ saidUpto (fun _ h => by cases h) (by kernel_rfl) (fun _ h => by cases h) styleDirectCountsUpto_row_tie rfl ⟨rfl, rfl⟩ (by kernel_rfl) rfl plain (by kernel_rfl)
end Go.Proofs.YtfhidobmbgmjfaaGreatDoor.styleDirectCounts
