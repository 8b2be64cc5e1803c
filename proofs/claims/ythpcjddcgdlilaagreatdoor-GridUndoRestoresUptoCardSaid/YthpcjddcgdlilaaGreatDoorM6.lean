/- Tables of cells: what the code computes, in plain Lean. -/
import Derived.Test.YthpcjddcgdlilaaGreatDoorM1
import Derived.Test.YthpcjddcgdlilaaGreatDoorM2
import Derived.Test.YthpcjddcgdlilaaGreatDoorM3
import Derived.Test.YthpcjddcgdlilaaGreatDoorM4
import Derived.Test.YthpcjddcgdlilaaGreatDoorM5
import Derived.Shelf.Unicode.DecodeSlow
import Derived.Lib.TrimUEq
import Derived.Lib.QuoteLoop
import Derived.Lib.ValidLaws
import Derived.Lib.ValidAsc
import Derived.Shelf.Small.Bits
import Derived.Shelf.Small.Wraps
import Derived.Shelf.Strconv.Itoa0
import Derived.Shelf.Unicode.Decode
import Derived.Shelf.Unicode.DecodeAny
import Derived.Ground.Names2Prog
import Derived.Shelf.Slices.SearchI
import Derived.Ground.SlsfProg
import Derived.Shelf.SlGeneric
import Derived.Shelf.SlSortCmp.WholeK
import Derived.Test.YthpcjddcgdlilaaGreatDoorProg
import Derived.Shelf.Unicode.ValidAny
section
set_option linter.unusedVariables false
namespace Go.Ch
open Go Go.Ab

structure Cell where
  row : Int
  col : Int
  text : ByteArray
  ref : Int
  attrs : List Attr
instance : Inhabited Cell := ⟨⟨0, 0, { data := #[] }, 0, []⟩⟩
structure Rect where
  row : Int
  col : Int
  h : Int
  w : Int
deriving DecidableEq
instance : Inhabited Rect := ⟨⟨0, 0, 0, 0⟩⟩
structure Grid where
  rows : Int
  cols : Int
  cells : List Cell
  merges : List Rect
instance : Inhabited Grid := ⟨⟨0, 0, [], []⟩⟩
structure GEd where
  rows : List AxStep
  cols : List AxStep
  cells : List Cell
  split : List Rect
  merge : List Rect
instance : Inhabited GEd := ⟨⟨[], [], [], [], []⟩⟩
def cellT (c : Cell) : Tree := .agg [TI c.row, TI c.col, TS c.text, TI c.ref, .lst 2 (c.attrs.map attrT)]
def rectT (r : Rect) : Tree := .agg [TI r.row, TI r.col, TI r.h, TI r.w]
def gridT (g : Grid) : Tree := .agg [TI g.rows, TI g.cols, .lst 5 (g.cells.map cellT), .lst 4 (g.merges.map rectT)]
def gedT (e : GEd) : Tree := .agg [.lst 2 (e.rows.map stepT), .lst 2 (e.cols.map stepT), .lst 5 (e.cells.map cellT), .lst 4 (e.split.map rectT), .lst 4 (e.merge.map rectT)]

def cmpI (x y : Int) : Int := if x < y then -1 else if x > y then 1 else 0
def orL : List Int → Int
  | [] => 0
  | x :: l => if x ≠ 0 then x else orL l
theorem orL_at {l : List Int} {i : Nat} (h : i < l.length) : orL (l.drop i) = if l.getD i default ≠ 0 then l.getD i default else orL (l.drop (i + 1)) := by
  rw [List.drop_eq_getElem_cons h, orL]
  simp [List.getD, List.getElem?_eq_getElem h]
def ordC (a b : Cell) : Int := orL [cmpI a.row b.row, cmpI a.col b.col]
def emptyC (c : Cell) : Bool := (seq c.text { data := #[] } && c.ref == 0) && (c.attrs.length : Int) == 0

/-! ### Rectangles -/
def insB (r : Rect) (m n : Int) : Bool := decide (0 ≤ r.row ∧ 0 ≤ r.col ∧ 1 ≤ r.h ∧ 1 ≤ r.w ∧ r.row < m ∧ r.col < n ∧ r.h ≤ m - r.row ∧ r.w ≤ n - r.col)
def meetB (a b : Rect) : Bool := decide (a.row < b.row + b.h ∧ b.row < a.row + a.h ∧ a.col < b.col + b.w ∧ b.col < a.col + a.w)
/-- Numbers that do not overflow. -/
def RB (r : Rect) : Prop := -1000000000000 ≤ r.row ∧ r.row ≤ 1000000000000 ∧ -1000000000000 ≤ r.col ∧ r.col ≤ 1000000000000 ∧ -1000000000000 ≤ r.h ∧ r.h ≤ 1000000000000 ∧ -1000000000000 ≤ r.w ∧ r.w ≤ 1000000000000
def befB (a b : Rect) : Bool := decide (a.row < b.row ∨ (a.row = b.row ∧ a.col < b.col))
theorem rect_ext {a b : Rect} (h1 : a.row = b.row) (h2 : a.col = b.col) (h3 : a.h = b.h) (h4 : a.w = b.w) : a = b := by
  cases a; cases b; simp_all
/-- The index of a rectangle. -/
def idxQ (l : List Rect) (r : Rect) (i : Nat) : Int := if i < l.length then (if l.getD i default = r then (i : Int) else idxQ l r (i + 1)) else -1
termination_by l.length - i
theorem idxQ_ge {l : List Rect} {r : Rect} : ∀ (n i : Nat), l.length - i = n → (0 ≤ idxQ l r i ↔ r ∈ l.drop i)
  | 0, i, h => by rw [idxQ, if_neg (by omega), List.drop_eq_nil_of_le (by omega)]; simp
  | n + 1, i, h => by
    have hi : i < l.length := by omega
    have hd : l.drop i = l.getD i default :: l.drop (i + 1) := by rw [List.drop_eq_getElem_cons hi]; simp [List.getD, List.getElem?_eq_getElem hi]
    rw [idxQ, if_pos hi, hd]
    split
    · rename_i e
      rw [e]
      exact ⟨fun _ => List.mem_cons_self .., fun _ => by omega⟩
    · rename_i e
      rw [idxQ_ge n (i + 1) (by omega), List.mem_cons]
      exact ⟨.inr, fun h => h.resolve_left (fun h => e h.symm)⟩
def hasQ (l : List Rect) (r : Rect) : Bool := decide (r ∈ l)

/-! ### Through changes of the axes -/
def thrR (r : Rect) (rows cols : List AxStep) : Rect :=
  let (a, h) := if 0 < rows.length then ((hullS rows r.row (r.row + r.h) 0 0 0 0).1, (hullS rows r.row (r.row + r.h) 0 0 0 0).2 - (hullS rows r.row (r.row + r.h) 0 0 0 0).1) else (r.row, r.h)
  let (b, w) := if 0 < cols.length then ((hullS cols r.col (r.col + r.w) 0 0 0 0).1, (hullS cols r.col (r.col + r.w) 0 0 0 0).2 - (hullS cols r.col (r.col + r.w) 0 0 0 0).1) else (r.col, r.w)
  ⟨a, b, h, w⟩
def thrB (r : Rect) : Bool := decide (0 < r.h ∧ 0 < r.w ∧ 2 < r.h + r.w)
/-- An axis' change, if there is one, and the numbers that it speaks of. -/
def AxIn (a : List AxStep) (fr tq : Int) : Prop := 0 < a.length → Valid a ∧ 0 ≤ fr ∧ fr ≤ tq ∧ tq ≤ oldI a
theorem hull_bdA : ∀ {l : List AxStep} (hl : Form l) (M f t first last old now : Int), 0 ≤ first → first ≤ M → 0 ≤ last → last ≤ M → 0 ≤ now → now + newU (ex l) ≤ M →
    0 ≤ (hullS l f t first last old now).1 ∧ (hullS l f t first last old now).1 ≤ M ∧ 0 ≤ (hullS l f t first last old now).2 ∧ (hullS l f t first last old now).2 ≤ M
  | [], _, M, f, t, first, last, old, now, h1, h2, h3, h4, h5, h6 => ⟨h1, h2, h3, h4⟩
  | s :: l, hl, M, f, t, first, last, old, now, h1, h2, h3, h4, h5, h6 => by
    have hn := hl.head.2.2
    have hk := hl.head
    have e : (newU (ex (s :: l)) : Int) = (if s.kind = 2 then 0 else s.n) + newU (ex l) := by
      rw [ex, new_rep, Int.toNat_of_nonneg (by omega)]
    rw [e] at h6
    rw [hullS]
    have hz : (0 : Int) ≤ newU (ex l) := by omega
    by_cases c : s.kind = 0 ∧ max f old < min t (old + s.n)
    · rw [if_pos c, if_neg (show ¬ s.kind = 2 by omega)]
      rw [if_neg (show ¬ s.kind = 2 by omega)] at h6
      refine hull_bdA hl.tail M f t _ _ _ _ ?_ ?_ (by omega) (by omega) (by omega) (by omega) <;> (split <;> omega)
    · rw [if_neg c, if_neg (fun h => c h.1)]
      refine hull_bdA hl.tail M f t _ _ _ _ h1 h2 h3 h4 ?_ ?_
      · split <;> omega
      · split at h6 <;> (split <;> omega)
theorem hull_bd {l : List AxStep} {f t : Int} (hv : Valid l) (h : 0 ≤ f ∧ f ≤ t ∧ t ≤ oldI l) : 0 ≤ (hullS l f t 0 0 0 0).1 ∧ (hullS l f t 0 0 0 0).1 ≤ 2147483647 ∧ 0 ≤ (hullS l f t 0 0 0 0).2 ∧ (hullS l f t 0 0 0 0).2 ≤ 2147483647 :=
  hull_bdA hv.1 2147483647 f t 0 0 0 0 (by omega) (by omega) (by omega) (by omega) (by omega) (by have := hv.2.2; omega)

/-! ### Cells -/
def mvR (a : List AxStep) (p : Int) : Int := if 0 < a.length then placeS a p 0 0 else p
def mvC (rows cols : List AxStep) (c : Cell) : Option Cell :=
  if 0 < rows.length ∧ mvR rows c.row < 0 then none else if 0 < cols.length ∧ mvR cols c.col < 0 then none else some { c with row := mvR rows c.row, col := mvR cols c.col }
def movL (l : List Cell) (rows cols : List AxStep) : List Cell := l.filterMap (mvC rows cols)
def PIn (a : List AxStep) (p : Int) : Prop := 0 < a.length → Valid a ∧ 0 ≤ p ∧ p < oldI a
def CAN (k : Nat) (l : List Cell) : Prop := ∀ c ∈ l, c.attrs.length ≤ k
theorem getDC_mem {l : List Cell} {i : Nat} (h : i < l.length) : l.getD i default ∈ l := by
  rw [show l.getD i default = l[i] by simp [List.getD, List.getElem?_eq_getElem h]]; exact List.getElem_mem _
theorem movL_succ {l : List Cell} {rows cols : List AxStep} {i : Nat} (h : i < l.length) : movL (l.take (i + 1)) rows cols = movL (l.take i) rows cols ++ (mvC rows cols (l.getD i default)).toList := by
  unfold movL
  rw [List.take_succ_eq_append_getElem h, List.filterMap_append]
  simp only [List.getD, List.getElem?_eq_getElem h, Option.getD_some]
  simp only [List.filterMap_cons, List.filterMap_nil]
  cases mvC rows cols l[i] <;> rfl
theorem movL_len (l : List Cell) (rows cols : List AxStep) : (movL l rows cols).length ≤ l.length := List.length_filterMap_le _ _
/-- 'put': the cells ahead of c stay; the one at its place goes; c stands there unless it is empty. -/
def putC (c : Cell) (k : List Cell → List Cell) : List Cell → List Cell
  | [] => (if emptyC c = true then [] else [c]) ++ k []
  | x :: l => if ordC x c < 0 then x :: putC c k l else if ordC x c = 0 then (if emptyC c = true then [] else [c]) ++ k l else (if emptyC c = true then [] else [c]) ++ k (x :: l)
def putL : List Cell → List Cell → List Cell
  | [], l => l
  | c :: ns, l => putC c (putL ns) l
theorem dropC {l : List Cell} {i : Nat} (h : i < l.length) : l.drop i = l.getD i default :: l.drop (i + 1) := by
  rw [List.drop_eq_getElem_cons h]; simp [List.getD, List.getElem?_eq_getElem h]
theorem dropC_end {l : List Cell} {i : Nat} (h : l.length ≤ i) : l.drop i = [] := List.drop_eq_nil_of_le h
theorem putC_lt {c : Cell} {k : List Cell → List Cell} {l : List Cell} {j : Nat} (h : j < l.length) (h0 : ordC (l.getD j default) c < 0) : putC c k (l.drop j) = l.getD j default :: putC c k (l.drop (j + 1)) := by
  rw [dropC h, putC, if_pos h0]
theorem putC_eq {c : Cell} {k : List Cell → List Cell} {l : List Cell} {j : Nat} (h : j < l.length) (h0 : ordC (l.getD j default) c = 0) : putC c k (l.drop j) = (if emptyC c = true then [] else [c]) ++ k (l.drop (j + 1)) := by
  rw [dropC h, putC, if_neg (by omega), if_pos h0]
theorem putC_gt {c : Cell} {k : List Cell → List Cell} {l : List Cell} {j : Nat} (h : j < l.length → 0 < ordC (l.getD j default) c) : putC c k (l.drop j) = (if emptyC c = true then [] else [c]) ++ k (l.drop j) := by
  by_cases hj : j < l.length
  · have := h hj
    rw [dropC hj, putC, if_neg (by omega), if_neg (by omega)]
  · rw [dropC_end (by omega), putC]
def bareC (c : Cell) : Cell := ⟨c.row, c.col, { data := #[] }, 0, []⟩
def sameC (a b : Cell) : Bool := (((a.row == b.row && a.col == b.col) && seq a.text b.text) && a.ref == b.ref) && sameL a.attrs b.attrs
def difC (c : Cell) (k : List Cell → List Cell) : List Cell → List Cell
  | [] => c :: k []
  | x :: l => if ordC x c < 0 then bareC x :: difC c k l else if ordC x c = 0 then (if sameC x c = true then k l else c :: k l) else c :: k (x :: l)
theorem difC_lt {c : Cell} {k : List Cell → List Cell} {l : List Cell} {j : Nat} (h : j < l.length) (h0 : ordC (l.getD j default) c < 0) : difC c k (l.drop j) = bareC (l.getD j default) :: difC c k (l.drop (j + 1)) := by
  rw [dropC h, difC, if_pos h0]
theorem difC_eq {c : Cell} {k : List Cell → List Cell} {l : List Cell} {j : Nat} (h : j < l.length) (h0 : ordC (l.getD j default) c = 0) : difC c k (l.drop j) = if sameC (l.getD j default) c = true then k (l.drop (j + 1)) else c :: k (l.drop (j + 1)) := by
  rw [dropC h, difC, if_neg (by omega), if_pos h0]
theorem difC_gt {c : Cell} {k : List Cell → List Cell} {l : List Cell} {j : Nat} (h : j < l.length → 0 < ordC (l.getD j default) c) : difC c k (l.drop j) = c :: k (l.drop j) := by
  by_cases hj : j < l.length
  · have := h hj
    rw [dropC hj, difC, if_neg (by omega), if_neg (by omega)]
  · rw [dropC_end (by omega), difC]
def difL : List Cell → List Cell → List Cell
  | [], fr => fr.map bareC
  | c :: ns, fr => difC c (difL ns) fr
end Go.Ch
end
section
set_option linter.unusedVariables false
set_option linter.unusedSimpArgs false
set_option maxRecDepth 100000
set_option maxHeartbeats 4000000
open Go Go.Proofs Go.Ab
namespace Go.Ch
theorem fc_isNaN (x : Int) : FC Tryz.prog 87 [VI x] (app emp []) (VB false) (app emp []) := by
 refine .go Tryz.f87 ?_
 have e1 : ((x != x) : Bool) = false := by
  simp
 exact .finE [.r [], .r []] [] (fun z0 => (VB z0, [])) ((x != x) : Bool) (false : Bool) e1.symm

theorem fc_cmpI (x y : Int) : FC Tryz.prog 62 [VI x, VI y] (app emp []) (VI (cmpI x y)) (app emp []) := by
 refine .go Tryz.f62 ?_
 refine .br [.r [], .r [(1, X (Xc0 (fc_isNaN x) X0))], .r [(1, X (Xc0 (fc_isNaN y) X0))], .r [], .f, .r [], .f, .r []] (decide (x < y)) (fun h9 => ?_) (fun h9 => ?_)
 ·
  (try simp only [decide_eq_true_eq, decide_eq_false_iff_not, Int.not_lt, Int.not_le] at h9)
  have e1 : ((cmpI x y) : Int) = -1 := by
   unfold cmpI; ((repeat' split) <;> first | rfl | omega | (simp_all; done) | (simp_all; omega))
  exact .finE [.r []] [] (fun z0 => (VI z0, [])) (-1 : Int) ((cmpI x y) : Int) e1
 ·
  (try simp only [decide_eq_true_eq, decide_eq_false_iff_not, Int.not_lt, Int.not_le] at h9)
  refine .br [.r []] (decide (x > y)) (fun h11 => ?_) (fun h11 => ?_)
  ·
   (try simp only [decide_eq_true_eq, decide_eq_false_iff_not, Int.not_lt, Int.not_le, gt_iff_lt] at h11)
   have e2 : ((cmpI x y) : Int) = 1 := by
    unfold cmpI; ((repeat' split) <;> first | rfl | omega | (simp_all; done) | (simp_all; omega))
   exact .finE [.r []] [] (fun z0 => (VI z0, [])) (1 : Int) ((cmpI x y) : Int) e2
  ·
   (try simp only [decide_eq_true_eq, decide_eq_false_iff_not, Int.not_lt, Int.not_le, gt_iff_lt] at h11)
   have e3 : ((cmpI x y) : Int) = 0 := by
    unfold cmpI; ((repeat' split) <;> first | rfl | omega | (simp_all; done) | (simp_all; omega))
   exact .finE [.r []] [] (fun z0 => (VI z0, [])) (0 : Int) ((cmpI x y) : Int) e3

theorem fc_or (l : List Int) : FC Tryz.prog 61 [VL 1 intT l] (app emp []) (VI (orL l)) (app emp []) := by
 refine .go Tryz.f61 ?_
 refine .len 0 (fun hl0 => ?_)
 refine .loop (α := Nat) [.r [], .r [], .r [(1, X (Xl intT l))]] 40 (fun i => ([(3, VI 0), (6, VL 1 intT l), (7, VI (l.length : Int)), (8, VI (i : Int))], [])) (fun i => i ≤ l.length ∧ orL l = orL (l.drop i)) (fun i => l.length - i) (0 : Nat) ?_ ?_
 ·
  exact ⟨by omega, rfl⟩
 rintro i I3 ih3
 try dsimp only at I3
 refine .br [.r []] (decide ((i : Int) < (l.length : Int))) (fun h3 => ?_) (fun h3 => ?_)
 ·
  (try simp only [decide_eq_true_eq, decide_eq_false_iff_not, Int.not_lt, Int.not_le] at h3)
  refine .br [.r [(0, X (Xi intT l (i : Int)))], .r []] ((l.getD i default) != 0) (fun h5 => ?_) (fun h5 => ?_)
  ·
   (try simp only [bne_iff_ne, bne_eq_false_iff_eq, ne_eq] at h5)
   have e1 : ((orL l) : Int) = (l.getD i default) := by
    rw [I3.2, orL_at (by omega), if_pos (by omega)]
   exact .finE [.r []] [] (fun z0 => (VI z0, [])) ((l.getD i default) : Int) ((orL l) : Int) e1
  ·
   (try simp only [bne_iff_ne, bne_eq_false_iff_eq, ne_eq] at h5)
   refine .back [.r [(0, X (Xn ((i : Int) + 1)))]] [] (ih3 ((i + 1) : Nat) ?_ ?_)
   ·
    refine ⟨by omega, ?_⟩
    rw [I3.2, orL_at (by omega), if_neg (by omega)]
   ·
    ((try dsimp only); omega)
 ·
  (try simp only [decide_eq_true_eq, decide_eq_false_iff_not, Int.not_lt, Int.not_le] at h3)
  have e2 : ((orL l) : Int) = 0 := by
   rw [I3.2, List.drop_eq_nil_of_le (by omega)]; rfl
  exact .finE [.r []] [] (fun z0 => (VI z0, [])) (0 : Int) ((orL l) : Int) e2

theorem fc_order (a b : Cell) : FC Tryz.prog 72 [.t (cellT a), .t (cellT b)] (app emp []) (VI (ordC a b)) (app emp []) := by
 refine .go Tryz.f72 ?_
 have e1 : ((ordC a b) : Int) = (orL [(cmpI a.row b.row), (cmpI a.col b.col)]) := by
  rfl
 exact .finE [.r [], .r [(4, X (Xc0 (fc_cmpI a.row b.row) X0)), (9, X (Xc0 (fc_cmpI a.col b.col) X0)), (11, X (Xc0 (fc_or [(cmpI a.row b.row), (cmpI a.col b.col)]) (rowC intT [(cmpI a.row b.row), (cmpI a.col b.col)] X0)))]] [] (fun z0 => (VI z0, [])) ((orL [(cmpI a.row b.row), (cmpI a.col b.col)]) : Int) ((ordC a b) : Int) e1

theorem fc_empty (c : Cell) : FC Tryz.prog 81 [.t (cellT c)] (app emp []) (VB (emptyC c)) (app emp []) := by
 refine .go Tryz.f81 ?_
 have e1 : ((emptyC c) : Bool) = ((seq c.text ({ data := #[] }) && (c.ref == 0)) && ((c.attrs.length : Int) == 0)) := by
  rfl
 exact .finE [.r [], .r [(5, Xv 1 (seq c.text ({ data := #[] })) X0), (6, Xv 1 (seq c.text ({ data := #[] })) X0), (7, X (Xk (seq c.text ({ data := #[] })))), (10, Xv 1 (seq c.text ({ data := #[] }) && (c.ref == 0)) X0), (11, Xv 1 (seq c.text ({ data := #[] }) && (c.ref == 0)) (Xl attrT c.attrs)), (12, Xv 1 (seq c.text ({ data := #[] }) && (c.ref == 0)) X0), (13, X (Xk (seq c.text ({ data := #[] }) && (c.ref == 0))))]] [] (fun z0 => (VB z0, [])) (((seq c.text ({ data := #[] }) && (c.ref == 0)) && ((c.attrs.length : Int) == 0)) : Bool) ((emptyC c) : Bool) e1

theorem fc_clone (c : Cell) (h : c.attrs.length ≤ 1000000000000) : FC Tryz.prog 42 [.t (cellT c)] (app emp []) (.t (cellT c)) (app emp []) := by
 refine .go Tryz.f42 ?_
 exact .finV [.r [], .r [(2, X (Xan attrT 32 c.attrs))], .r []] [.fR 0 [(c.attrs.length : Nat) = (List.map attrT c.attrs).length] ⟨lm, trivial⟩] []

theorem fc_inside (r : Rect) (m n : Int) (hb : 0 ≤ m ∧ m ≤ 1000000000000 ∧ 0 ≤ n ∧ n ≤ 1000000000000) : FC Tryz.prog 52 [.t (rectT r), VI m, VI n] (app emp []) (VB (insB r m n)) (app emp []) := by
 refine .go Tryz.f52 ?_
 have e1 : ((insB r m n) : Bool) = (((((((decide (r.row ≥ 0) && decide (r.col ≥ 0)) && decide (r.h ≥ 1)) && decide (r.w ≥ 1)) && decide (r.row < m)) && decide (r.col < n)) && decide (r.h ≤ (m - r.row))) && decide (r.w ≤ (n - r.col))) := by
  unfold insB; rw [Bool.eq_iff_iff]; simp; try omega
 exact .finE [.r [], .r [(5, Xv 1 (decide (r.row ≥ 0)) X0), (6, Xv 1 (decide (r.row ≥ 0)) X0), (7, X (Xk (decide (r.row ≥ 0)))), (10, Xv 1 (decide (r.row ≥ 0) && decide (r.col ≥ 0)) X0), (11, Xv 1 (decide (r.row ≥ 0) && decide (r.col ≥ 0)) X0), (12, X (Xk (decide (r.row ≥ 0) && decide (r.col ≥ 0)))), (15, Xv 1 ((decide (r.row ≥ 0) && decide (r.col ≥ 0)) && decide (r.h ≥ 1)) X0), (16, Xv 1 ((decide (r.row ≥ 0) && decide (r.col ≥ 0)) && decide (r.h ≥ 1)) X0), (17, X (Xk ((decide (r.row ≥ 0) && decide (r.col ≥ 0)) && decide (r.h ≥ 1)))), (20, Xv 1 (((decide (r.row ≥ 0) && decide (r.col ≥ 0)) && decide (r.h ≥ 1)) && decide (r.w ≥ 1)) X0), (22, Xv 2 (((decide (r.row ≥ 0) && decide (r.col ≥ 0)) && decide (r.h ≥ 1)) && decide (r.w ≥ 1)) X0), (23, X (Xk (((decide (r.row ≥ 0) && decide (r.col ≥ 0)) && decide (r.h ≥ 1)) && decide (r.w ≥ 1)))), (26, Xv 1 ((((decide (r.row ≥ 0) && decide (r.col ≥ 0)) && decide (r.h ≥ 1)) && decide (r.w ≥ 1)) && decide (r.row < m)) X0), (28, Xv 2 ((((decide (r.row ≥ 0) && decide (r.col ≥ 0)) && decide (r.h ≥ 1)) && decide (r.w ≥ 1)) && decide (r.row < m)) X0), (29, X (Xk ((((decide (r.row ≥ 0) && decide (r.col ≥ 0)) && decide (r.h ≥ 1)) && decide (r.w ≥ 1)) && decide (r.row < m)))), (32, Xv 1 (((((decide (r.row ≥ 0) && decide (r.col ≥ 0)) && decide (r.h ≥ 1)) && decide (r.w ≥ 1)) && decide (r.row < m)) && decide (r.col < n)) X0), (35, Xv 1 (((((decide (r.row ≥ 0) && decide (r.col ≥ 0)) && decide (r.h ≥ 1)) && decide (r.w ≥ 1)) && decide (r.row < m)) && decide (r.col < n)) X0), (36, Xv 2 (((((decide (r.row ≥ 0) && decide (r.col ≥ 0)) && decide (r.h ≥ 1)) && decide (r.w ≥ 1)) && decide (r.row < m)) && decide (r.col < n)) (Xn (m - r.row))), (37, Xv 2 (((((decide (r.row ≥ 0) && decide (r.col ≥ 0)) && decide (r.h ≥ 1)) && decide (r.w ≥ 1)) && decide (r.row < m)) && decide (r.col < n)) X0), (38, X (Xk (((((decide (r.row ≥ 0) && decide (r.col ≥ 0)) && decide (r.h ≥ 1)) && decide (r.w ≥ 1)) && decide (r.row < m)) && decide (r.col < n)))), (41, Xv 1 ((((((decide (r.row ≥ 0) && decide (r.col ≥ 0)) && decide (r.h ≥ 1)) && decide (r.w ≥ 1)) && decide (r.row < m)) && decide (r.col < n)) && decide (r.h ≤ (m - r.row))) X0), (44, Xv 1 ((((((decide (r.row ≥ 0) && decide (r.col ≥ 0)) && decide (r.h ≥ 1)) && decide (r.w ≥ 1)) && decide (r.row < m)) && decide (r.col < n)) && decide (r.h ≤ (m - r.row))) X0), (45, Xv 2 ((((((decide (r.row ≥ 0) && decide (r.col ≥ 0)) && decide (r.h ≥ 1)) && decide (r.w ≥ 1)) && decide (r.row < m)) && decide (r.col < n)) && decide (r.h ≤ (m - r.row))) (Xn (n - r.col))), (46, Xv 2 ((((((decide (r.row ≥ 0) && decide (r.col ≥ 0)) && decide (r.h ≥ 1)) && decide (r.w ≥ 1)) && decide (r.row < m)) && decide (r.col < n)) && decide (r.h ≤ (m - r.row))) X0), (47, X (Xk ((((((decide (r.row ≥ 0) && decide (r.col ≥ 0)) && decide (r.h ≥ 1)) && decide (r.w ≥ 1)) && decide (r.row < m)) && decide (r.col < n)) && decide (r.h ≤ (m - r.row)))))]] [] (fun z0 => (VB z0, [])) ((((((((decide (r.row ≥ 0) && decide (r.col ≥ 0)) && decide (r.h ≥ 1)) && decide (r.w ≥ 1)) && decide (r.row < m)) && decide (r.col < n)) && decide (r.h ≤ (m - r.row))) && decide (r.w ≤ (n - r.col))) : Bool) ((insB r m n) : Bool) e1

theorem fc_meets (a b : Rect) (ha : RB a) (hb : RB b) : FC Tryz.prog 58 [.t (rectT a), .t (rectT b)] (app emp []) (VB (meetB a b)) (app emp []) := by
 refine .go Tryz.f58 ?_
 unfold RB at ha hb
 have e1 : ((meetB a b) : Bool) = (((decide (a.row < (b.row + b.h)) && decide (b.row < (a.row + a.h))) && decide (a.col < (b.col + b.w))) && decide (b.col < (a.col + a.w))) := by
  unfold meetB; rw [Bool.eq_iff_iff]; simp; try omega
 exact .finE [.r [], .r [(6, X (Xn (b.row + b.h))), (10, Xv 1 (decide (a.row < (b.row + b.h))) X0), (12, Xv 1 (decide (a.row < (b.row + b.h))) X0), (14, Xv 1 (decide (a.row < (b.row + b.h))) X0), (15, Xv 2 (decide (a.row < (b.row + b.h))) (Xn (a.row + a.h))), (16, Xv 2 (decide (a.row < (b.row + b.h))) X0), (17, X (Xk (decide (a.row < (b.row + b.h))))), (20, Xv 1 (decide (a.row < (b.row + b.h)) && decide (b.row < (a.row + a.h))) X0), (22, Xv 1 (decide (a.row < (b.row + b.h)) && decide (b.row < (a.row + a.h))) X0), (24, Xv 1 (decide (a.row < (b.row + b.h)) && decide (b.row < (a.row + a.h))) X0), (25, Xv 2 (decide (a.row < (b.row + b.h)) && decide (b.row < (a.row + a.h))) (Xn (b.col + b.w))), (26, Xv 2 (decide (a.row < (b.row + b.h)) && decide (b.row < (a.row + a.h))) X0), (27, X (Xk (decide (a.row < (b.row + b.h)) && decide (b.row < (a.row + a.h))))), (30, Xv 1 ((decide (a.row < (b.row + b.h)) && decide (b.row < (a.row + a.h))) && decide (a.col < (b.col + b.w))) X0), (32, Xv 1 ((decide (a.row < (b.row + b.h)) && decide (b.row < (a.row + a.h))) && decide (a.col < (b.col + b.w))) X0), (34, Xv 1 ((decide (a.row < (b.row + b.h)) && decide (b.row < (a.row + a.h))) && decide (a.col < (b.col + b.w))) X0), (35, Xv 2 ((decide (a.row < (b.row + b.h)) && decide (b.row < (a.row + a.h))) && decide (a.col < (b.col + b.w))) (Xn (a.col + a.w))), (36, Xv 2 ((decide (a.row < (b.row + b.h)) && decide (b.row < (a.row + a.h))) && decide (a.col < (b.col + b.w))) X0), (37, X (Xk ((decide (a.row < (b.row + b.h)) && decide (b.row < (a.row + a.h))) && decide (a.col < (b.col + b.w)))))]] [] (fun z0 => (VB z0, [])) ((((decide (a.row < (b.row + b.h)) && decide (b.row < (a.row + a.h))) && decide (a.col < (b.col + b.w))) && decide (b.col < (a.col + a.w))) : Bool) ((meetB a b) : Bool) e1

theorem fc_before (a b : Rect) : FC Tryz.prog 78 [.t (rectT a), .t (rectT b)] (app emp []) (VB (befB a b)) (app emp []) := by
 refine .go Tryz.f78 ?_
 have e1 : ((befB a b) : Bool) = (decide (a.row < b.row) || ((a.row == b.row) && decide (a.col < b.col))) := by
  unfold befB; rw [Bool.eq_iff_iff]; simp; try omega
 exact .finE [.r [], .r [(7, Xv 1 (!(decide (a.row < b.row))) X0), (9, Xv 1 (!(decide (a.row < b.row))) X0), (10, Xv 2 (!(decide (a.row < b.row))) X0), (11, Xv 1 (!(decide (a.row < b.row))) X0), (13, Xv 1 ((!(decide (a.row < b.row))) && (a.row == b.row)) X0), (15, Xv 1 ((!(decide (a.row < b.row))) && (a.row == b.row)) X0), (16, Xv 2 ((!(decide (a.row < b.row))) && (a.row == b.row)) X0), (17, Xka (!(decide (a.row < b.row))) (a.row == b.row)), (18, X (Xk' (decide (a.row < b.row))))]] [] (fun z0 => (VB z0, [])) ((decide (a.row < b.row) || ((a.row == b.row) && decide (a.col < b.col))) : Bool) ((befB a b) : Bool) e1

theorem fc_idxQ (l : List Rect) (r : Rect) : FC Tryz.prog 83 [VL 4 rectT l, .t (rectT r)] (app emp []) (VI (idxQ l r 0)) (app emp []) := by
 refine .go Tryz.f83 ?_
 refine .len 0 (fun hl0 => ?_)
 refine .loop (α := Nat) [.r [], .r [(1, X (Xl rectT l))]] 40 (fun i => ([(0, VL 4 rectT l), (3, .ptr 0 0), (7, VI (l.length : Int)), (8, VI (i : Int))], [(0, .box [VI r.row, VI r.col, VI r.h, VI r.w])])) (fun i => i ≤ l.length ∧ idxQ l r 0 = idxQ l r i) (fun i => l.length - i) (0 : Nat) ?_ ?_
 ·
  exact ⟨by omega, rfl⟩
 rintro i I2 ih2
 try dsimp only at I2
 refine .br [.r []] (decide ((i : Int) < (l.length : Int))) (fun h2 => ?_) (fun h2 => ?_)
 ·
  (try simp only [decide_eq_true_eq, decide_eq_false_iff_not, Int.not_lt, Int.not_le] at h2)
  refine .br [.r [], .r [(3, X (Xi rectT l (i : Int)))]] (r.row == (((l.getD i default)).row) && (r.col == (((l.getD i default)).col) && (r.h == (((l.getD i default)).h) && (r.w == (((l.getD i default)).w) && true)))) (fun h4 => ?_) (fun h4 => ?_)
  ·
   (try simp only [Bool.and_eq_true, Bool.and_eq_false_iff, Bool.not_eq_true', Bool.not_eq_false', beq_iff_eq, beq_eq_false_iff_ne, ne_eq] at h4)
   have e1 : ((idxQ l r 0) : Int) = (i : Int) := by
    rw [I2.2, idxQ, if_pos (by omega), if_pos]
    refine rect_ext ?_ ?_ ?_ ?_ <;> omega
   exact .finE [.r []] [] (fun z0 => (VI z0, [])) ((i : Int) : Int) ((idxQ l r 0) : Int) e1
  ·
   (try simp only [Bool.and_eq_true, Bool.and_eq_false_iff, Bool.not_eq_true', Bool.not_eq_false', beq_iff_eq, beq_eq_false_iff_ne, ne_eq] at h4)
   refine .back [.r [(0, X (Xn ((i : Int) + 1)))]] [(0, 0)] (ih2 ((i + 1) : Nat) ?_ ?_)
   ·
    refine ⟨by omega, ?_⟩
    rw [I2.2, idxQ, if_pos (by omega), if_neg]
    intro e; rw [e] at h4; simp at h4
   ·
    ((try dsimp only); omega)
 ·
  (try simp only [decide_eq_true_eq, decide_eq_false_iff_not, Int.not_lt, Int.not_le] at h2)
  have e2 : ((idxQ l r 0) : Int) = -1 := by
   rw [I2.2, idxQ, if_neg (by omega)]
  exact .finE [.r []] [] (fun z0 => (VI z0, [])) (-1 : Int) ((idxQ l r 0) : Int) e2

theorem fc_hasQ (l : List Rect) (r : Rect) : FC Tryz.prog 55 [VL 4 rectT l, .t (rectT r)] (app emp []) (VB (hasQ l r)) (app emp []) := by
 refine .go Tryz.f55 ?_
 refine .len 0 (fun hl0 => ?_)
 have e1 : ((hasQ l r) : Bool) = decide ((idxQ l r 0) ≥ 0) := by
  unfold hasQ; rw [Bool.eq_iff_iff]; simp only [decide_eq_true_eq, ge_iff_le]; rw [idxQ_ge _ 0 rfl]; simp
 exact .finE [.r [], .r [(2, X (Xc0 (fc_idxQ l r) X0))]] [] (fun z0 => (VB z0, [])) (decide ((idxQ l r 0) ≥ 0) : Bool) ((hasQ l r) : Bool) e1

theorem fc_axsize (n : Int) (a : List AxStep) (hv : 0 < a.length → Valid a) : FC Tryz.prog 51 [VI n, VL 2 stepT a] (app emp []) (.tup [VI (if 0 < a.length then newI a else n), VB (decide (0 < a.length → oldI a = n))]) (app emp []) := by
 refine .go Tryz.f51 ?_
 refine .len 1 (fun hl1 => ?_)
 refine .br [.r [], .r [(1, X (Xl stepT a))]] ((a.length : Int) == 0) (fun h1 => ?_) (fun h1 => ?_)
 ·
  (try simp only [beq_iff_eq, beq_eq_false_iff_ne, ne_eq] at h1)
  have e1 : ((if 0 < a.length then newI a else n) : Int) = n := by
   first | rw [if_neg (by omega)] | exact decide_eq_true (fun h => by omega) | exact (decide_eq_true (fun h => by omega)).symm
  have e2 : ((decide (0 < a.length → oldI a = n)) : Bool) = true := by
   first | rw [if_neg (by omega)] | exact decide_eq_true (fun h => by omega) | exact (decide_eq_true (fun h => by omega)).symm
  exact .finE [.r []] [] (fun (z0, z1) => (.tup [VI z0, VB z1], [])) ((n : Int), (true : Bool)) (((if 0 < a.length then newI a else n) : Int), ((decide (0 < a.length → oldI a = n)) : Bool)) (pr e1 e2)
 ·
  (try simp only [beq_iff_eq, beq_eq_false_iff_ne, ne_eq] at h1)
  have ha : 0 < a.length := by omega
  have hv2 := hv ha
  have e3 : ((if 0 < a.length then newI a else n) : Int) = (newI a) := by
   first | rw [if_pos (by omega)] | (rw [Bool.eq_iff_iff, decide_eq_true_eq, beq_iff_eq]; exact ⟨fun h => h (by omega), fun h _ => h⟩)
  have e4 : ((decide (0 < a.length → oldI a = n)) : Bool) = ((oldI a) == n) := by
   first | rw [if_pos (by omega)] | (rw [Bool.eq_iff_iff, decide_eq_true_eq, beq_iff_eq]; exact ⟨fun h => h (by omega), fun h _ => h⟩)
  exact .finE [.r [(1, X (Xc0 (fc_axLengths a (by assumption)) X0))], .r []] [] (fun (z0, z1) => (.tup [VI z0, VB z1], [])) (((newI a) : Int), (((oldI a) == n) : Bool)) (((if 0 < a.length then newI a else n) : Int), ((decide (0 < a.length → oldI a = n)) : Bool)) (pr e3 e4)

theorem fc_through (r : Rect) (rows cols : List AxStep) (hb : RB r) (hr : AxIn rows r.row (r.row + r.h)) (hc : AxIn cols r.col (r.col + r.w)) : FC Tryz.prog 54 [.t (rectT r), VL 2 stepT rows, VL 2 stepT cols] (app emp []) (.tup [.t (rectT (thrR r rows cols)), VB (thrB (thrR r rows cols))]) (app emp []) := by
 refine .go Tryz.f54 ?_
 refine .len 1 (fun hl1 => ?_)
 refine .len 2 (fun hl2 => ?_)
 unfold RB at hb
 unfold AxIn at hr hc
 refine .br [.r [], .r [(1, X (Xl stepT rows))]] (decide ((rows.length : Int) > 0)) (fun h1 => ?_) (fun h1 => ?_)
 ·
  (try simp only [decide_eq_true_eq, decide_eq_false_iff_not, Int.not_lt, Int.not_le, gt_iff_lt] at h1)
  have hr0 : 0 < rows.length := by omega
  obtain ⟨hv1, hr1⟩ := hr hr0
  have hh := hull_bd hv1 hr1
  refine .br [.r [(7, X (Xn (r.row + r.h))), (8, X (Xc0 (fc_hull rows r.row (r.row + r.h) (by assumption) (by omega)) X0))], .r [(3, X (Xn (((hullS rows r.row (r.row + r.h) 0 0 0 0).2) - ((hullS rows r.row (r.row + r.h) 0 0 0 0).1))))], .r [(1, X (Xl stepT cols))]] (decide ((cols.length : Int) > 0)) (fun h4 => ?_) (fun h4 => ?_)
  ·
   (try simp only [decide_eq_true_eq, decide_eq_false_iff_not, Int.not_lt, Int.not_le, gt_iff_lt] at h4)
   have hc0 : 0 < cols.length := by omega
   obtain ⟨hv2, hc1⟩ := hc hc0
   have hk := hull_bd hv2 hc1
   have e1 : ((thrR r rows cols) : Rect) = ({ row := (hullS rows r.row (r.row + r.h) 0 0 0 0).1, col := (hullS cols r.col (r.col + r.w) 0 0 0 0).1, h := (((hullS rows r.row (r.row + r.h) 0 0 0 0).2) - ((hullS rows r.row (r.row + r.h) 0 0 0 0).1)), w := (((hullS cols r.col (r.col + r.w) 0 0 0 0).2) - ((hullS cols r.col (r.col + r.w) 0 0 0 0).1)) } : Rect) := by
    unfold thrR; simp only []; (first | rw [if_pos (show 0 < rows.length by omega), if_pos (show 0 < cols.length by omega)] | rw [if_pos (show 0 < rows.length by omega), if_neg (show ¬ 0 < cols.length by omega)] | rw [if_neg (show ¬ 0 < rows.length by omega), if_pos (show 0 < cols.length by omega)] | rw [if_neg (show ¬ 0 < rows.length by omega), if_neg (show ¬ 0 < cols.length by omega)])
   have e2 : ((thrB (thrR r rows cols)) : Bool) = ((decide ((((hullS rows r.row (r.row + r.h) 0 0 0 0).2) - ((hullS rows r.row (r.row + r.h) 0 0 0 0).1)) > 0) && decide ((((hullS cols r.col (r.col + r.w) 0 0 0 0).2) - ((hullS cols r.col (r.col + r.w) 0 0 0 0).1)) > 0)) && decide (((((hullS rows r.row (r.row + r.h) 0 0 0 0).2) - ((hullS rows r.row (r.row + r.h) 0 0 0 0).1)) + (((hullS cols r.col (r.col + r.w) 0 0 0 0).2) - ((hullS cols r.col (r.col + r.w) 0 0 0 0).1))) > 2)) := by
    unfold thrB thrR; simp only []; (first | rw [if_pos (show 0 < rows.length by omega), if_pos (show 0 < cols.length by omega)] | rw [if_pos (show 0 < rows.length by omega), if_neg (show ¬ 0 < cols.length by omega)] | rw [if_neg (show ¬ 0 < rows.length by omega), if_pos (show 0 < cols.length by omega)] | rw [if_neg (show ¬ 0 < rows.length by omega), if_neg (show ¬ 0 < cols.length by omega)]); rw [Bool.eq_iff_iff]; simp; try omega
   exact .finVE [.r [(7, X (Xn (r.col + r.w))), (8, X (Xc0 (fc_hull cols r.col (r.col + r.w) (by assumption) (by omega)) X0))], .r [(3, X (Xn (((hullS cols r.col (r.col + r.w) 0 0 0 0).2) - ((hullS cols r.col (r.col + r.w) 0 0 0 0).1))))], .r [(6, Xv 1 (decide ((((hullS rows r.row (r.row + r.h) 0 0 0 0).2) - ((hullS rows r.row (r.row + r.h) 0 0 0 0).1)) > 0)) X0), (7, Xv 1 (decide ((((hullS rows r.row (r.row + r.h) 0 0 0 0).2) - ((hullS rows r.row (r.row + r.h) 0 0 0 0).1)) > 0)) X0), (8, X (Xk (decide ((((hullS rows r.row (r.row + r.h) 0 0 0 0).2) - ((hullS rows r.row (r.row + r.h) 0 0 0 0).1)) > 0)))), (11, Xv 1 (decide ((((hullS rows r.row (r.row + r.h) 0 0 0 0).2) - ((hullS rows r.row (r.row + r.h) 0 0 0 0).1)) > 0) && decide ((((hullS cols r.col (r.col + r.w) 0 0 0 0).2) - ((hullS cols r.col (r.col + r.w) 0 0 0 0).1)) > 0)) X0), (13, Xv 1 (decide ((((hullS rows r.row (r.row + r.h) 0 0 0 0).2) - ((hullS rows r.row (r.row + r.h) 0 0 0 0).1)) > 0) && decide ((((hullS cols r.col (r.col + r.w) 0 0 0 0).2) - ((hullS cols r.col (r.col + r.w) 0 0 0 0).1)) > 0)) X0), (14, Xv 2 (decide ((((hullS rows r.row (r.row + r.h) 0 0 0 0).2) - ((hullS rows r.row (r.row + r.h) 0 0 0 0).1)) > 0) && decide ((((hullS cols r.col (r.col + r.w) 0 0 0 0).2) - ((hullS cols r.col (r.col + r.w) 0 0 0 0).1)) > 0)) (Xn ((((hullS rows r.row (r.row + r.h) 0 0 0 0).2) - ((hullS rows r.row (r.row + r.h) 0 0 0 0).1)) + (((hullS cols r.col (r.col + r.w) 0 0 0 0).2) - ((hullS cols r.col (r.col + r.w) 0 0 0 0).1))))), (15, Xv 1 (decide ((((hullS rows r.row (r.row + r.h) 0 0 0 0).2) - ((hullS rows r.row (r.row + r.h) 0 0 0 0).1)) > 0) && decide ((((hullS cols r.col (r.col + r.w) 0 0 0 0).2) - ((hullS cols r.col (r.col + r.w) 0 0 0 0).1)) > 0)) X0), (16, X (Xk (decide ((((hullS rows r.row (r.row + r.h) 0 0 0 0).2) - ((hullS rows r.row (r.row + r.h) 0 0 0 0).1)) > 0) && decide ((((hullS cols r.col (r.col + r.w) 0 0 0 0).2) - ((hullS cols r.col (r.col + r.w) 0 0 0 0).1)) > 0))))]] [] [] (fun (z0, z1) => (.tup [.t (rectT z0), VB z1], [])) ((({ row := (hullS rows r.row (r.row + r.h) 0 0 0 0).1, col := (hullS cols r.col (r.col + r.w) 0 0 0 0).1, h := (((hullS rows r.row (r.row + r.h) 0 0 0 0).2) - ((hullS rows r.row (r.row + r.h) 0 0 0 0).1)), w := (((hullS cols r.col (r.col + r.w) 0 0 0 0).2) - ((hullS cols r.col (r.col + r.w) 0 0 0 0).1)) } : Rect) : Rect), (((decide ((((hullS rows r.row (r.row + r.h) 0 0 0 0).2) - ((hullS rows r.row (r.row + r.h) 0 0 0 0).1)) > 0) && decide ((((hullS cols r.col (r.col + r.w) 0 0 0 0).2) - ((hullS cols r.col (r.col + r.w) 0 0 0 0).1)) > 0)) && decide (((((hullS rows r.row (r.row + r.h) 0 0 0 0).2) - ((hullS rows r.row (r.row + r.h) 0 0 0 0).1)) + (((hullS cols r.col (r.col + r.w) 0 0 0 0).2) - ((hullS cols r.col (r.col + r.w) 0 0 0 0).1))) > 2)) : Bool)) (((thrR r rows cols) : Rect), ((thrB (thrR r rows cols)) : Bool)) (pr e1 e2)
  ·
   (try simp only [decide_eq_true_eq, decide_eq_false_iff_not, Int.not_lt, Int.not_le, gt_iff_lt] at h4)
   have e3 : ((thrR r rows cols) : Rect) = ({ row := (hullS rows r.row (r.row + r.h) 0 0 0 0).1, col := r.col, h := (((hullS rows r.row (r.row + r.h) 0 0 0 0).2) - ((hullS rows r.row (r.row + r.h) 0 0 0 0).1)), w := r.w } : Rect) := by
    unfold thrR; simp only []; (first | rw [if_pos (show 0 < rows.length by omega), if_pos (show 0 < cols.length by omega)] | rw [if_pos (show 0 < rows.length by omega), if_neg (show ¬ 0 < cols.length by omega)] | rw [if_neg (show ¬ 0 < rows.length by omega), if_pos (show 0 < cols.length by omega)] | rw [if_neg (show ¬ 0 < rows.length by omega), if_neg (show ¬ 0 < cols.length by omega)])
   have e4 : ((thrB (thrR r rows cols)) : Bool) = ((decide ((((hullS rows r.row (r.row + r.h) 0 0 0 0).2) - ((hullS rows r.row (r.row + r.h) 0 0 0 0).1)) > 0) && decide (r.w > 0)) && decide (((((hullS rows r.row (r.row + r.h) 0 0 0 0).2) - ((hullS rows r.row (r.row + r.h) 0 0 0 0).1)) + r.w) > 2)) := by
    unfold thrB thrR; simp only []; (first | rw [if_pos (show 0 < rows.length by omega), if_pos (show 0 < cols.length by omega)] | rw [if_pos (show 0 < rows.length by omega), if_neg (show ¬ 0 < cols.length by omega)] | rw [if_neg (show ¬ 0 < rows.length by omega), if_pos (show 0 < cols.length by omega)] | rw [if_neg (show ¬ 0 < rows.length by omega), if_neg (show ¬ 0 < cols.length by omega)]); rw [Bool.eq_iff_iff]; simp; try omega
   exact .finVE [.r [(6, Xv 1 (decide ((((hullS rows r.row (r.row + r.h) 0 0 0 0).2) - ((hullS rows r.row (r.row + r.h) 0 0 0 0).1)) > 0)) X0), (7, Xv 1 (decide ((((hullS rows r.row (r.row + r.h) 0 0 0 0).2) - ((hullS rows r.row (r.row + r.h) 0 0 0 0).1)) > 0)) X0), (8, X (Xk (decide ((((hullS rows r.row (r.row + r.h) 0 0 0 0).2) - ((hullS rows r.row (r.row + r.h) 0 0 0 0).1)) > 0)))), (11, Xv 1 (decide ((((hullS rows r.row (r.row + r.h) 0 0 0 0).2) - ((hullS rows r.row (r.row + r.h) 0 0 0 0).1)) > 0) && decide (r.w > 0)) X0), (13, Xv 1 (decide ((((hullS rows r.row (r.row + r.h) 0 0 0 0).2) - ((hullS rows r.row (r.row + r.h) 0 0 0 0).1)) > 0) && decide (r.w > 0)) X0), (14, Xv 2 (decide ((((hullS rows r.row (r.row + r.h) 0 0 0 0).2) - ((hullS rows r.row (r.row + r.h) 0 0 0 0).1)) > 0) && decide (r.w > 0)) (Xn ((((hullS rows r.row (r.row + r.h) 0 0 0 0).2) - ((hullS rows r.row (r.row + r.h) 0 0 0 0).1)) + r.w))), (15, Xv 1 (decide ((((hullS rows r.row (r.row + r.h) 0 0 0 0).2) - ((hullS rows r.row (r.row + r.h) 0 0 0 0).1)) > 0) && decide (r.w > 0)) X0), (16, X (Xk (decide ((((hullS rows r.row (r.row + r.h) 0 0 0 0).2) - ((hullS rows r.row (r.row + r.h) 0 0 0 0).1)) > 0) && decide (r.w > 0))))]] [] [] (fun (z0, z1) => (.tup [.t (rectT z0), VB z1], [])) ((({ row := (hullS rows r.row (r.row + r.h) 0 0 0 0).1, col := r.col, h := (((hullS rows r.row (r.row + r.h) 0 0 0 0).2) - ((hullS rows r.row (r.row + r.h) 0 0 0 0).1)), w := r.w } : Rect) : Rect), (((decide ((((hullS rows r.row (r.row + r.h) 0 0 0 0).2) - ((hullS rows r.row (r.row + r.h) 0 0 0 0).1)) > 0) && decide (r.w > 0)) && decide (((((hullS rows r.row (r.row + r.h) 0 0 0 0).2) - ((hullS rows r.row (r.row + r.h) 0 0 0 0).1)) + r.w) > 2)) : Bool)) (((thrR r rows cols) : Rect), ((thrB (thrR r rows cols)) : Bool)) (pr e3 e4)
 ·
  (try simp only [decide_eq_true_eq, decide_eq_false_iff_not, Int.not_lt, Int.not_le, gt_iff_lt] at h1)
  refine .br [.r [(1, X (Xl stepT cols))]] (decide ((cols.length : Int) > 0)) (fun h4 => ?_) (fun h4 => ?_)
  ·
   (try simp only [decide_eq_true_eq, decide_eq_false_iff_not, Int.not_lt, Int.not_le, gt_iff_lt] at h4)
   have hc0 : 0 < cols.length := by omega
   obtain ⟨hv2, hc1⟩ := hc hc0
   have hk := hull_bd hv2 hc1
   have e5 : ((thrR r rows cols) : Rect) = ({ row := r.row, col := (hullS cols r.col (r.col + r.w) 0 0 0 0).1, h := r.h, w := (((hullS cols r.col (r.col + r.w) 0 0 0 0).2) - ((hullS cols r.col (r.col + r.w) 0 0 0 0).1)) } : Rect) := by
    unfold thrR; simp only []; (first | rw [if_pos (show 0 < rows.length by omega), if_pos (show 0 < cols.length by omega)] | rw [if_pos (show 0 < rows.length by omega), if_neg (show ¬ 0 < cols.length by omega)] | rw [if_neg (show ¬ 0 < rows.length by omega), if_pos (show 0 < cols.length by omega)] | rw [if_neg (show ¬ 0 < rows.length by omega), if_neg (show ¬ 0 < cols.length by omega)])
   have e6 : ((thrB (thrR r rows cols)) : Bool) = ((decide (r.h > 0) && decide ((((hullS cols r.col (r.col + r.w) 0 0 0 0).2) - ((hullS cols r.col (r.col + r.w) 0 0 0 0).1)) > 0)) && decide ((r.h + (((hullS cols r.col (r.col + r.w) 0 0 0 0).2) - ((hullS cols r.col (r.col + r.w) 0 0 0 0).1))) > 2)) := by
    unfold thrB thrR; simp only []; (first | rw [if_pos (show 0 < rows.length by omega), if_pos (show 0 < cols.length by omega)] | rw [if_pos (show 0 < rows.length by omega), if_neg (show ¬ 0 < cols.length by omega)] | rw [if_neg (show ¬ 0 < rows.length by omega), if_pos (show 0 < cols.length by omega)] | rw [if_neg (show ¬ 0 < rows.length by omega), if_neg (show ¬ 0 < cols.length by omega)]); rw [Bool.eq_iff_iff]; simp; try omega
   exact .finVE [.r [(7, X (Xn (r.col + r.w))), (8, X (Xc0 (fc_hull cols r.col (r.col + r.w) (by assumption) (by omega)) X0))], .r [(3, X (Xn (((hullS cols r.col (r.col + r.w) 0 0 0 0).2) - ((hullS cols r.col (r.col + r.w) 0 0 0 0).1))))], .r [(6, Xv 1 (decide (r.h > 0)) X0), (7, Xv 1 (decide (r.h > 0)) X0), (8, X (Xk (decide (r.h > 0)))), (11, Xv 1 (decide (r.h > 0) && decide ((((hullS cols r.col (r.col + r.w) 0 0 0 0).2) - ((hullS cols r.col (r.col + r.w) 0 0 0 0).1)) > 0)) X0), (13, Xv 1 (decide (r.h > 0) && decide ((((hullS cols r.col (r.col + r.w) 0 0 0 0).2) - ((hullS cols r.col (r.col + r.w) 0 0 0 0).1)) > 0)) X0), (14, Xv 2 (decide (r.h > 0) && decide ((((hullS cols r.col (r.col + r.w) 0 0 0 0).2) - ((hullS cols r.col (r.col + r.w) 0 0 0 0).1)) > 0)) (Xn (r.h + (((hullS cols r.col (r.col + r.w) 0 0 0 0).2) - ((hullS cols r.col (r.col + r.w) 0 0 0 0).1))))), (15, Xv 1 (decide (r.h > 0) && decide ((((hullS cols r.col (r.col + r.w) 0 0 0 0).2) - ((hullS cols r.col (r.col + r.w) 0 0 0 0).1)) > 0)) X0), (16, X (Xk (decide (r.h > 0) && decide ((((hullS cols r.col (r.col + r.w) 0 0 0 0).2) - ((hullS cols r.col (r.col + r.w) 0 0 0 0).1)) > 0))))]] [] [] (fun (z0, z1) => (.tup [.t (rectT z0), VB z1], [])) ((({ row := r.row, col := (hullS cols r.col (r.col + r.w) 0 0 0 0).1, h := r.h, w := (((hullS cols r.col (r.col + r.w) 0 0 0 0).2) - ((hullS cols r.col (r.col + r.w) 0 0 0 0).1)) } : Rect) : Rect), (((decide (r.h > 0) && decide ((((hullS cols r.col (r.col + r.w) 0 0 0 0).2) - ((hullS cols r.col (r.col + r.w) 0 0 0 0).1)) > 0)) && decide ((r.h + (((hullS cols r.col (r.col + r.w) 0 0 0 0).2) - ((hullS cols r.col (r.col + r.w) 0 0 0 0).1))) > 2)) : Bool)) (((thrR r rows cols) : Rect), ((thrB (thrR r rows cols)) : Bool)) (pr e5 e6)
  ·
   (try simp only [decide_eq_true_eq, decide_eq_false_iff_not, Int.not_lt, Int.not_le, gt_iff_lt] at h4)
   have e7 : ((thrR r rows cols) : Rect) = r := by
    unfold thrR; simp only []; (first | rw [if_pos (show 0 < rows.length by omega), if_pos (show 0 < cols.length by omega)] | rw [if_pos (show 0 < rows.length by omega), if_neg (show ¬ 0 < cols.length by omega)] | rw [if_neg (show ¬ 0 < rows.length by omega), if_pos (show 0 < cols.length by omega)] | rw [if_neg (show ¬ 0 < rows.length by omega), if_neg (show ¬ 0 < cols.length by omega)])
   have e8 : ((thrB (thrR r rows cols)) : Bool) = ((decide (r.h > 0) && decide (r.w > 0)) && decide ((r.h + r.w) > 2)) := by
    unfold thrB thrR; simp only []; (first | rw [if_pos (show 0 < rows.length by omega), if_pos (show 0 < cols.length by omega)] | rw [if_pos (show 0 < rows.length by omega), if_neg (show ¬ 0 < cols.length by omega)] | rw [if_neg (show ¬ 0 < rows.length by omega), if_pos (show 0 < cols.length by omega)] | rw [if_neg (show ¬ 0 < rows.length by omega), if_neg (show ¬ 0 < cols.length by omega)]); rw [Bool.eq_iff_iff]; simp; try omega
   exact .finVE [.r [(6, Xv 1 (decide (r.h > 0)) X0), (7, Xv 1 (decide (r.h > 0)) X0), (8, X (Xk (decide (r.h > 0)))), (11, Xv 1 (decide (r.h > 0) && decide (r.w > 0)) X0), (13, Xv 1 (decide (r.h > 0) && decide (r.w > 0)) X0), (14, Xv 2 (decide (r.h > 0) && decide (r.w > 0)) (Xn (r.h + r.w))), (15, Xv 1 (decide (r.h > 0) && decide (r.w > 0)) X0), (16, X (Xk (decide (r.h > 0) && decide (r.w > 0))))]] [] [] (fun (z0, z1) => (.tup [.t (rectT z0), VB z1], [])) ((r : Rect), (((decide (r.h > 0) && decide (r.w > 0)) && decide ((r.h + r.w) > 2)) : Bool)) (((thrR r rows cols) : Rect), ((thrB (thrR r rows cols)) : Bool)) (pr e7 e8)
end Go.Ch
end
section
set_option linter.unusedVariables false
set_option linter.unusedSimpArgs false
set_option maxRecDepth 100000
set_option maxHeartbeats 4000000
open Go Go.Proofs Go.Ab
namespace Go.Ch
theorem fc_moved (l : List Cell) (rows cols : List AxStep) (hl : l.length ≤ 100000000000) (ha : CAN 1000000000000 l) (hr : ∀ c ∈ l, PIn rows c.row) (hc : ∀ c ∈ l, PIn cols c.col) : FC Tryz.prog 36 [VL 5 cellT l, VL 2 stepT rows, VL 2 stepT cols] (app emp []) (VL 5 cellT (movL l rows cols)) (app emp []) := by
 refine .go Tryz.f36 ?_
 refine .len 0 (fun hl0 => ?_)
 refine .len 1 (fun hl1 => ?_)
 refine .len 2 (fun hl2 => ?_)
 refine .loop (α := Nat × (List Cell)) [.r [], .r [], .r [(1, X (Xl cellT l))], .le (.nR 7 5)] 41 (fun (i, o) => ([(1, VL 2 stepT rows), (2, VL 2 stepT cols), (7, .row 40 o.length), (14, VL 5 cellT l), (15, VI (l.length : Int)), (16, VI (i : Int))], [(40, OR 5 cellT o)])) (fun (i, o) => i ≤ l.length ∧ o = movL (l.take i) rows cols) (fun (i, o) => l.length - i) (0, []) ?_ ?_
 ·
  exact ⟨by omega, rfl⟩
 rintro ⟨i, o⟩ I3 ih3
 try dsimp only at I3
 have ol : o.length ≤ i := by rw [I3.2]; have := movL_len (l.take i) rows cols; simp at this; omega
 refine .br [.r []] (decide ((i : Int) < (l.length : Int))) (fun h3 => ?_) (fun h3 => ?_)
 ·
  (try simp only [decide_eq_true_eq, decide_eq_false_iff_not, Int.not_lt, Int.not_le] at h3)
  have hm := getDC_mem (l := l) (i := i) (by omega)
  have ha1 := ha _ hm
  have hr1 := hr _ hm
  have hc1 := hc _ hm
  refine .br [.r [(0, X (Xi cellT l (i : Int)))], .r [(1, X (Xc1 89 (fc_clone ((l.getD i default)) (by omega)) X0))], .r [(1, X (Xl stepT rows))]] (decide ((rows.length : Int) > 0)) (fun h6 => ?_) (fun h6 => ?_)
  ·
   (try simp only [decide_eq_true_eq, decide_eq_false_iff_not, Int.not_lt, Int.not_le, gt_iff_lt] at h6)
   obtain ⟨hv1, hx1⟩ := hr1 (by omega)
   have hxx : ∀ x ∈ [(l.getD i default).row], 0 ≤ x ∧ x < oldI rows := fun x hx => by (have := List.mem_singleton.1 hx; omega)
   refine .br [.r [(4, X (Xc1 161 (fc_axApply rows [(((l.getD i default))).row] (by assumption) (by assumption) (by simp)) (rowC intT [(((l.getD i default))).row] X0)))], .r [(4, Xv 1 (!false) (Xi intT (List.map (fun x => placeS rows x 0 0) [(((l.getD i default))).row]) 0)), (5, Xv 1 (!false) X0), (6, Xv 1 (!false) X0), (7, X (Xk' false))]] (false || decide (((List.map (fun x => placeS rows x 0 0) [(((l.getD i default))).row]).getD 0 default) < 0)) (fun h8 => ?_) (fun h8 => ?_)
   ·
    (try simp only [decide_eq_true_eq, decide_eq_false_iff_not, Int.not_lt, Int.not_le, Bool.or_eq_true, Bool.or_eq_false_iff] at h8)
    refine .back [.r [(0, X (Xn ((i : Int) + 1)))]] [(40, 40)] (ih3 ((i + 1), o) ?_ ?_)
    ·
     refine ⟨by omega, ?_⟩
     rw [movL_succ (by omega), ← I3.2]
     unfold mvC mvR
     simp only [List.map_cons, List.map_nil, List.getD_cons_zero] at *
     (repeat' split) <;> first | rfl | (simp; done) | (exfalso; omega) | (exfalso; simp_all; done) | (exfalso; simp_all; omega)
    ·
     ((try dsimp only); omega)
   ·
    (try simp only [decide_eq_true_eq, decide_eq_false_iff_not, Int.not_lt, Int.not_le, Bool.or_eq_true, Bool.or_eq_false_iff] at h8)
    refine .br [.r [(1, X (Xi intT (List.map (fun x => placeS rows x 0 0) [(((l.getD i default))).row]) 0))], .r [(1, X (Xl stepT cols))]] (decide ((cols.length : Int) > 0)) (fun h10 => ?_) (fun h10 => ?_)
    ·
     (try simp only [decide_eq_true_eq, decide_eq_false_iff_not, Int.not_lt, Int.not_le, gt_iff_lt] at h10)
     obtain ⟨hv2, hx2⟩ := hc1 (by omega)
     have hyy : ∀ x ∈ [(l.getD i default).col], 0 ≤ x ∧ x < oldI cols := fun x hx => by (have := List.mem_singleton.1 hx; omega)
     refine .br [.r [(4, X (Xc1 369 (fc_axApply cols [(((l.getD i default))).col] (by assumption) (by assumption) (by simp)) (rowC intT [(((l.getD i default))).col] X0)))], .r [(4, Xv 1 (!false) (Xi intT (List.map (fun x => placeS cols x 0 0) [(((l.getD i default))).col]) 0)), (5, Xv 1 (!false) X0), (6, Xv 1 (!false) X0), (7, X (Xk' false))]] (false || decide (((List.map (fun x => placeS cols x 0 0) [(((l.getD i default))).col]).getD 0 default) < 0)) (fun h12 => ?_) (fun h12 => ?_)
     ·
      (try simp only [decide_eq_true_eq, decide_eq_false_iff_not, Int.not_lt, Int.not_le, Bool.or_eq_true, Bool.or_eq_false_iff] at h12)
      refine .back [.r [(0, X (Xn ((i : Int) + 1)))]] [(40, 40)] (ih3 ((i + 1), o) ?_ ?_)
      ·
       refine ⟨by omega, ?_⟩
       rw [movL_succ (by omega), ← I3.2]
       unfold mvC mvR
       simp only [List.map_cons, List.map_nil, List.getD_cons_zero] at *
       (repeat' split) <;> first | rfl | (simp; done) | (exfalso; omega) | (exfalso; simp_all; done) | (exfalso; simp_all; omega)
      ·
       ((try dsimp only); omega)
     ·
      (try simp only [decide_eq_true_eq, decide_eq_false_iff_not, Int.not_lt, Int.not_le, Bool.or_eq_true, Bool.or_eq_false_iff] at h12)
      refine .back [.r [(1, X (Xi intT (List.map (fun x => placeS cols x 0 0) [(((l.getD i default))).col]) 0))], .r [(3, X (rowC cellT [({ row := ((List.map (fun x => placeS rows x 0 0) [(((l.getD i default))).row]).getD 0 default), col := ((List.map (fun x => placeS cols x 0 0) [(((l.getD i default))).col]).getD 0 default), text := (((l.getD i default))).text, ref := (((l.getD i default))).ref, attrs := (((l.getD i default))).attrs } : Cell)] (Xap 5 cellT 40 o [({ row := ((List.map (fun x => placeS rows x 0 0) [(((l.getD i default))).row]).getD 0 default), col := ((List.map (fun x => placeS cols x 0 0) [(((l.getD i default))).col]).getD 0 default), text := (((l.getD i default))).text, ref := (((l.getD i default))).ref, attrs := (((l.getD i default))).attrs } : Cell)])))], .r [(0, X (Xn ((i : Int) + 1)))]] [(40, 40)] (ih3 ((i + 1), (o ++ [({ row := ((List.map (fun x => placeS rows x 0 0) [(((l.getD i default))).row]).getD 0 default), col := ((List.map (fun x => placeS cols x 0 0) [(((l.getD i default))).col]).getD 0 default), text := (((l.getD i default))).text, ref := (((l.getD i default))).ref, attrs := (((l.getD i default))).attrs } : Cell)])) ?_ ?_)
      ·
       refine ⟨by omega, ?_⟩
       rw [movL_succ (by omega), ← I3.2]
       unfold mvC mvR
       simp only [List.map_cons, List.map_nil, List.getD_cons_zero] at *
       (repeat' split) <;> first | rfl | (simp; done) | (exfalso; omega) | (exfalso; simp_all; done) | (exfalso; simp_all; omega)
      ·
       ((try dsimp only); omega)
    ·
     (try simp only [decide_eq_true_eq, decide_eq_false_iff_not, Int.not_lt, Int.not_le, gt_iff_lt] at h10)
     refine .back [.r [(3, X (rowC cellT [({ row := ((List.map (fun x => placeS rows x 0 0) [(((l.getD i default))).row]).getD 0 default), col := (((l.getD i default))).col, text := (((l.getD i default))).text, ref := (((l.getD i default))).ref, attrs := (((l.getD i default))).attrs } : Cell)] (Xap 5 cellT 40 o [({ row := ((List.map (fun x => placeS rows x 0 0) [(((l.getD i default))).row]).getD 0 default), col := (((l.getD i default))).col, text := (((l.getD i default))).text, ref := (((l.getD i default))).ref, attrs := (((l.getD i default))).attrs } : Cell)])))], .r [(0, X (Xn ((i : Int) + 1)))]] [(40, 40)] (ih3 ((i + 1), (o ++ [({ row := ((List.map (fun x => placeS rows x 0 0) [(((l.getD i default))).row]).getD 0 default), col := (((l.getD i default))).col, text := (((l.getD i default))).text, ref := (((l.getD i default))).ref, attrs := (((l.getD i default))).attrs } : Cell)])) ?_ ?_)
     ·
      refine ⟨by omega, ?_⟩
      rw [movL_succ (by omega), ← I3.2]
      unfold mvC mvR
      simp only [List.map_cons, List.map_nil, List.getD_cons_zero] at *
      (repeat' split) <;> first | rfl | (simp; done) | (exfalso; omega) | (exfalso; simp_all; done) | (exfalso; simp_all; omega)
     ·
      ((try dsimp only); omega)
  ·
   (try simp only [decide_eq_true_eq, decide_eq_false_iff_not, Int.not_lt, Int.not_le, gt_iff_lt] at h6)
   refine .br [.r [(1, X (Xl stepT cols))]] (decide ((cols.length : Int) > 0)) (fun h10 => ?_) (fun h10 => ?_)
   ·
    (try simp only [decide_eq_true_eq, decide_eq_false_iff_not, Int.not_lt, Int.not_le, gt_iff_lt] at h10)
    obtain ⟨hv2, hx2⟩ := hc1 (by omega)
    have hyy : ∀ x ∈ [(l.getD i default).col], 0 ≤ x ∧ x < oldI cols := fun x hx => by (have := List.mem_singleton.1 hx; omega)
    refine .br [.r [(4, X (Xc1 185 (fc_axApply cols [(((l.getD i default))).col] (by assumption) (by assumption) (by simp)) (rowC intT [(((l.getD i default))).col] X0)))], .r [(4, Xv 1 (!false) (Xi intT (List.map (fun x => placeS cols x 0 0) [(((l.getD i default))).col]) 0)), (5, Xv 1 (!false) X0), (6, Xv 1 (!false) X0), (7, X (Xk' false))]] (false || decide (((List.map (fun x => placeS cols x 0 0) [(((l.getD i default))).col]).getD 0 default) < 0)) (fun h12 => ?_) (fun h12 => ?_)
    ·
     (try simp only [decide_eq_true_eq, decide_eq_false_iff_not, Int.not_lt, Int.not_le, Bool.or_eq_true, Bool.or_eq_false_iff] at h12)
     refine .back [.r [(0, X (Xn ((i : Int) + 1)))]] [(40, 40)] (ih3 ((i + 1), o) ?_ ?_)
     ·
      refine ⟨by omega, ?_⟩
      rw [movL_succ (by omega), ← I3.2]
      unfold mvC mvR
      simp only [List.map_cons, List.map_nil, List.getD_cons_zero] at *
      (repeat' split) <;> first | rfl | (simp; done) | (exfalso; omega) | (exfalso; simp_all; done) | (exfalso; simp_all; omega)
     ·
      ((try dsimp only); omega)
    ·
     (try simp only [decide_eq_true_eq, decide_eq_false_iff_not, Int.not_lt, Int.not_le, Bool.or_eq_true, Bool.or_eq_false_iff] at h12)
     refine .back [.r [(1, X (Xi intT (List.map (fun x => placeS cols x 0 0) [(((l.getD i default))).col]) 0))], .r [(3, X (rowC cellT [({ row := (((l.getD i default))).row, col := ((List.map (fun x => placeS cols x 0 0) [(((l.getD i default))).col]).getD 0 default), text := (((l.getD i default))).text, ref := (((l.getD i default))).ref, attrs := (((l.getD i default))).attrs } : Cell)] (Xap 5 cellT 40 o [({ row := (((l.getD i default))).row, col := ((List.map (fun x => placeS cols x 0 0) [(((l.getD i default))).col]).getD 0 default), text := (((l.getD i default))).text, ref := (((l.getD i default))).ref, attrs := (((l.getD i default))).attrs } : Cell)])))], .r [(0, X (Xn ((i : Int) + 1)))]] [(40, 40)] (ih3 ((i + 1), (o ++ [({ row := (((l.getD i default))).row, col := ((List.map (fun x => placeS cols x 0 0) [(((l.getD i default))).col]).getD 0 default), text := (((l.getD i default))).text, ref := (((l.getD i default))).ref, attrs := (((l.getD i default))).attrs } : Cell)])) ?_ ?_)
     ·
      refine ⟨by omega, ?_⟩
      rw [movL_succ (by omega), ← I3.2]
      unfold mvC mvR
      simp only [List.map_cons, List.map_nil, List.getD_cons_zero] at *
      (repeat' split) <;> first | rfl | (simp; done) | (exfalso; omega) | (exfalso; simp_all; done) | (exfalso; simp_all; omega)
     ·
      ((try dsimp only); omega)
   ·
    (try simp only [decide_eq_true_eq, decide_eq_false_iff_not, Int.not_lt, Int.not_le, gt_iff_lt] at h10)
    refine .back [.r [(3, X (rowC cellT [(((l.getD i default)))] (Xap 5 cellT 40 o [(((l.getD i default)))])))], .r [(0, X (Xn ((i : Int) + 1)))]] [(40, 40)] (ih3 ((i + 1), (o ++ [(((l.getD i default)))])) ?_ ?_)
    ·
     refine ⟨by omega, ?_⟩
     rw [movL_succ (by omega), ← I3.2]
     unfold mvC mvR
     simp only [List.map_cons, List.map_nil, List.getD_cons_zero] at *
     (repeat' split) <;> first | rfl | (simp; done) | (exfalso; omega) | (exfalso; simp_all; done) | (exfalso; simp_all; omega)
    ·
     ((try dsimp only); omega)
 ·
  (try simp only [decide_eq_true_eq, decide_eq_false_iff_not, Int.not_lt, Int.not_le] at h3)
  have e1 : ((movL l rows cols) : List Cell) = o := by
   rw [I3.2, List.take_of_length_le (by omega)]
  exact .finE [.r [], .le (.fr 6 [(o.length : Nat) = (List.map cellT o).length] ⟨lm, trivial⟩)] [] (fun z0 => (VL 5 cellT z0, [])) (o : List Cell) ((movL l rows cols) : List Cell) e1

theorem fc_sameCell (a b : Cell) : FC Tryz.prog 89 [.t (cellT a), .t (cellT b)] (app emp []) (VB (sameC a b)) (app emp []) := by
 refine .go Tryz.f89 ?_
 have e1 : ((sameC a b) : Bool) = (((((a.row == b.row) && (a.col == b.col)) && seq a.text b.text) && (a.ref == b.ref)) && (sameL a.attrs b.attrs)) := by
  rfl
 exact .finE [.r [], .r [(7, Xv 1 (a.row == b.row) X0), (9, Xv 1 (a.row == b.row) X0), (10, Xv 2 (a.row == b.row) X0), (11, X (Xk (a.row == b.row))), (14, Xv 1 ((a.row == b.row) && (a.col == b.col)) X0), (16, Xv 1 ((a.row == b.row) && (a.col == b.col)) X0), (17, Xv 2 ((a.row == b.row) && (a.col == b.col)) X0), (18, X (Xk ((a.row == b.row) && (a.col == b.col)))), (21, Xv 1 (((a.row == b.row) && (a.col == b.col)) && seq a.text b.text) X0), (23, Xv 1 (((a.row == b.row) && (a.col == b.col)) && seq a.text b.text) X0), (24, Xv 2 (((a.row == b.row) && (a.col == b.col)) && seq a.text b.text) X0), (25, X (Xk (((a.row == b.row) && (a.col == b.col)) && seq a.text b.text))), (28, Xv 1 ((((a.row == b.row) && (a.col == b.col)) && seq a.text b.text) && (a.ref == b.ref)) X0), (30, Xv 1 ((((a.row == b.row) && (a.col == b.col)) && seq a.text b.text) && (a.ref == b.ref)) X0), (31, Xv 2 ((((a.row == b.row) && (a.col == b.col)) && seq a.text b.text) && (a.ref == b.ref)) (Xc0 (fc_attrSame a.attrs b.attrs) X0)), (32, X (Xk ((((a.row == b.row) && (a.col == b.col)) && seq a.text b.text) && (a.ref == b.ref))))]] [] (fun z0 => (VB z0, [])) ((((((a.row == b.row) && (a.col == b.col)) && seq a.text b.text) && (a.ref == b.ref)) && (sameL a.attrs b.attrs)) : Bool) ((sameC a b) : Bool) e1
end Go.Ch
end
section
set_option linter.unusedVariables false
set_option linter.unusedSimpArgs false
set_option maxRecDepth 100000
set_option maxHeartbeats 4000000
open Go Go.Proofs Go.Ab
namespace Go.Ch
theorem fc_gput (l news : List Cell) (hl : l.length ≤ 100000000000) (hn : news.length ≤ 100000000000) (ha : CAN 1000000000000 news) : FC Tryz.prog 53 [VL 5 cellT l, VL 5 cellT news] (app emp []) (VL 5 cellT (putL news l)) (app emp []) := by
 refine .go Tryz.f53 ?_
 refine .len 0 (fun hl0 => ?_)
 refine .len 1 (fun hl1 => ?_)
 refine .loop (α := Nat × Nat × (List Cell)) [.r [], .r [], .r [], .r [(1, X (Xl cellT news))], .le (.nR 5 5)] 49 (fun (i, k, o) => ([(0, VL 5 cellT l), (5, .row 48 o.length), (6, VI (i : Int)), (9, VL 5 cellT news), (10, VI (news.length : Int)), (11, VI (k : Int))], [(48, OR 5 cellT o)])) (fun (i, k, o) => k ≤ news.length ∧ i ≤ l.length ∧ o.length ≤ i + k ∧ putL news l = o ++ putL (news.drop k) (l.drop i)) (fun (i, k, o) => news.length - k) (0, 0, []) ?_ ?_
 ·
  exact ⟨by omega, by omega, by simp, rfl⟩
 rintro ⟨i, k, o⟩ I4 ih4
 try dsimp only at I4
 refine .br [.r []] (decide ((k : Int) < (news.length : Int))) (fun h4 => ?_) (fun h4 => ?_)
 ·
  (try simp only [decide_eq_true_eq, decide_eq_false_iff_not, Int.not_lt, Int.not_le] at h4)
  have hm := ha _ (getDC_mem (l := news) (i := k) (by omega))
  refine .loop (α := Nat × (List Cell)) [.r [(0, X (Xi cellT news (k : Int)))]] 89 (fun (j, p) => ([(0, VL 5 cellT l), (5, .row 48 p.length), (6, VI (j : Int)), (8, .ptr 73 0), (9, VL 5 cellT news), (10, VI (news.length : Int)), (11, VI (k : Int))], [(48, OR 5 cellT p), (73, .box [VI (((news.getD k default)).row), VI (((news.getD k default)).col), VS (((news.getD k default)).text), VI (((news.getD k default)).ref), VL 2 attrT (((news.getD k default)).attrs)])])) (fun (j, p) => j ≤ l.length ∧ p.length ≤ j + k ∧ putL news l = p ++ putC (news.getD k default) (putL (news.drop (k + 1))) (l.drop j)) (fun (j, p) => l.length - j) (i, o) ?_ ?_
  ·
   exact ⟨by omega, by omega, by rw [I4.2.2.2, dropC (l := news) (by omega), putL]⟩
  rintro ⟨j, p⟩ I6 ih6
  try dsimp only at I6
  skip
  refine .br [.r [(2, X (Xl cellT l)), (7, Xv 2 (decide ((j : Int) < (l.length : Int))) (Xi cellT l (j : Int))), (8, Xv 1 (decide ((j : Int) < (l.length : Int))) X0), (10, Xv 2 (decide ((j : Int) < (l.length : Int))) (Xc0 (fc_order ((l.getD j default)) ((news.getD k default))) X0)), (11, Xv 1 (decide ((j : Int) < (l.length : Int))) X0), (12, X (Xk (decide ((j : Int) < (l.length : Int)))))]] (decide ((j : Int) < (l.length : Int)) && decide ((ordC ((l.getD j default)) ((news.getD k default))) < 0)) (fun h6 => ?_) (fun h6 => ?_)
  ·
   (try simp only [decide_eq_true_eq, decide_eq_false_iff_not, Int.not_lt, Int.not_le, Bool.and_eq_true, Bool.and_eq_false_iff, Bool.not_eq_true', Bool.not_eq_false'] at h6)
   refine .back [.r [(3, X (Xi cellT l (j : Int))), (6, X (rowC cellT [((l.getD j default))] (Xap 5 cellT 48 p [((l.getD j default))])))], .r [(1, X (Xn ((j : Int) + 1)))]] [(48, 48), (73, 73)] (ih6 ((j + 1), (p ++ [((l.getD j default))])) ?_ ?_)
   ·
    refine ⟨by omega, by simp; omega, ?_⟩
    rw [I6.2.2, putC_lt (by omega) (by omega), List.append_assoc]
    rfl
   ·
    ((try dsimp only); omega)
  ·
   (try simp only [decide_eq_true_eq, decide_eq_false_iff_not, Int.not_lt, Int.not_le, Bool.and_eq_true, Bool.and_eq_false_iff, Bool.not_eq_true', Bool.not_eq_false'] at h6)
   refine .br [.r [(2, X (Xl cellT l)), (7, Xv 2 (decide ((j : Int) < (l.length : Int))) (Xi cellT l (j : Int))), (8, Xv 1 (decide ((j : Int) < (l.length : Int))) X0), (10, Xv 2 (decide ((j : Int) < (l.length : Int))) (Xc0 (fc_order ((l.getD j default)) ((news.getD k default))) X0)), (11, Xv 1 (decide ((j : Int) < (l.length : Int))) X0), (12, X (Xk (decide ((j : Int) < (l.length : Int)))))]] (decide ((j : Int) < (l.length : Int)) && ((ordC ((l.getD j default)) ((news.getD k default))) == 0)) (fun h9 => ?_) (fun h9 => ?_)
   ·
    (try simp only [decide_eq_true_eq, decide_eq_false_iff_not, Int.not_lt, Int.not_le, Bool.and_eq_true, Bool.and_eq_false_iff, Bool.not_eq_true', Bool.not_eq_false', beq_iff_eq, beq_eq_false_iff_ne, ne_eq] at h9)
    refine .br [.r [(1, X (Xn ((j : Int) + 1)))], .r [(1, X (Xc0 (fc_empty ((news.getD k default))) X0))]] (!(emptyC ((news.getD k default)))) (fun h11 => ?_) (fun h11 => ?_)
    ·
     (try simp only [Bool.not_eq_true', Bool.not_eq_false'] at h11)
     refine .back [.r [(2, X (Xc1 361 (fc_clone ((news.getD k default)) (by omega)) X0)), (4, X (rowC cellT [((news.getD k default))] (Xap 5 cellT 48 p [((news.getD k default))])))], .r [(0, X (Xn ((k : Int) + 1)))]] [(48, 48)] (ih4 ((j + 1), (k + 1), (p ++ [((news.getD k default))])) ?_ ?_)
     ·
      refine ⟨by omega, by omega, by ((try simp only [List.length_append, List.length_cons, List.length_nil]); omega), ?_⟩
      rw [I6.2.2]
      (first | rw [putC_eq (by omega) (by omega)] | rw [putC_gt (fun h => by omega)])
      (first | rw [if_pos (by assumption)] | rw [if_neg (by simp_all)])
      simp
     ·
      ((try dsimp only); omega)
    ·
     (try simp only [Bool.not_eq_true', Bool.not_eq_false'] at h11)
     refine .back [.r [(0, X (Xn ((k : Int) + 1)))]] [(48, 48)] (ih4 ((j + 1), (k + 1), p) ?_ ?_)
     ·
      refine ⟨by omega, by omega, by ((try simp only [List.length_append, List.length_cons, List.length_nil]); omega), ?_⟩
      rw [I6.2.2]
      (first | rw [putC_eq (by omega) (by omega)] | rw [putC_gt (fun h => by omega)])
      (first | rw [if_pos (by assumption)] | rw [if_neg (by simp_all)])
      simp
     ·
      ((try dsimp only); omega)
   ·
    (try simp only [decide_eq_true_eq, decide_eq_false_iff_not, Int.not_lt, Int.not_le, Bool.and_eq_true, Bool.and_eq_false_iff, Bool.not_eq_true', Bool.not_eq_false', beq_iff_eq, beq_eq_false_iff_ne, ne_eq] at h9)
    refine .br [.r [(1, X (Xc0 (fc_empty ((news.getD k default))) X0))]] (!(emptyC ((news.getD k default)))) (fun h11 => ?_) (fun h11 => ?_)
    ·
     (try simp only [Bool.not_eq_true', Bool.not_eq_false'] at h11)
     refine .back [.r [(2, X (Xc1 337 (fc_clone ((news.getD k default)) (by omega)) X0)), (4, X (rowC cellT [((news.getD k default))] (Xap 5 cellT 48 p [((news.getD k default))])))], .r [(0, X (Xn ((k : Int) + 1)))]] [(48, 48)] (ih4 (j, (k + 1), (p ++ [((news.getD k default))])) ?_ ?_)
     ·
      refine ⟨by omega, by omega, by ((try simp only [List.length_append, List.length_cons, List.length_nil]); omega), ?_⟩
      rw [I6.2.2]
      (first | rw [putC_eq (by omega) (by omega)] | rw [putC_gt (fun h => by omega)])
      (first | rw [if_pos (by assumption)] | rw [if_neg (by simp_all)])
      simp
     ·
      ((try dsimp only); omega)
    ·
     (try simp only [Bool.not_eq_true', Bool.not_eq_false'] at h11)
     refine .back [.r [(0, X (Xn ((k : Int) + 1)))]] [(48, 48)] (ih4 (j, (k + 1), p) ?_ ?_)
     ·
      refine ⟨by omega, by omega, by ((try simp only [List.length_append, List.length_cons, List.length_nil]); omega), ?_⟩
      rw [I6.2.2]
      (first | rw [putC_eq (by omega) (by omega)] | rw [putC_gt (fun h => by omega)])
      (first | rw [if_pos (by assumption)] | rw [if_neg (by simp_all)])
      simp
     ·
      ((try dsimp only); omega)
 ·
  (try simp only [decide_eq_true_eq, decide_eq_false_iff_not, Int.not_lt, Int.not_le] at h4)
  have e1 : ((putL news l) : List Cell) = (o ++ (l.drop i)) := by
   rw [I4.2.2.2, dropC_end (l := news) (by omega), putL]
  exact .finE [.r [(3, X (Xsd cellT 5 l (i : Int))), (4, X (Xap 5 cellT 48 o (l.drop i)))], .le (.fr 4 [(((o ++ (l.drop i)).length) : Nat) = (List.map cellT (o ++ (l.drop i))).length] ⟨lm, trivial⟩)] [] (fun z0 => (VL 5 cellT z0, [])) ((o ++ (l.drop i)) : List Cell) ((putL news l) : List Cell) e1

theorem fc_diffs (l news : List Cell) (hl : l.length ≤ 100000000000) (hn : news.length ≤ 100000000000) (ha : CAN 1000000000000 news) : FC Tryz.prog 65 [VL 5 cellT l, VL 5 cellT news] (app emp []) (VL 5 cellT (difL news l)) (app emp []) := by
 refine .go Tryz.f65 ?_
 refine .len 0 (fun hl0 => ?_)
 refine .len 1 (fun hl1 => ?_)
 refine .loop (α := Nat × Nat × (List Cell)) [.r [], .r [], .r [], .r [(1, X (Xl cellT news))], .le (.nR 5 5)] 49 (fun (i, k, o) => ([(0, VL 5 cellT l), (5, .row 48 o.length), (6, VI (i : Int)), (11, VL 5 cellT news), (12, VI (news.length : Int)), (13, VI (k : Int))], [(48, OR 5 cellT o)])) (fun (i, k, o) => k ≤ news.length ∧ i ≤ l.length ∧ o.length ≤ i + k ∧ difL news l = o ++ difL (news.drop k) (l.drop i)) (fun (i, k, o) => news.length - k) (0, 0, []) ?_ ?_
 ·
  exact ⟨by omega, by omega, by simp, rfl⟩
 rintro ⟨i, k, o⟩ I4 ih4
 try dsimp only at I4
 refine .br [.r []] (decide ((k : Int) < (news.length : Int))) (fun h4 => ?_) (fun h4 => ?_)
 ·
  (try simp only [decide_eq_true_eq, decide_eq_false_iff_not, Int.not_lt, Int.not_le] at h4)
  have hm := ha _ (getDC_mem (l := news) (i := k) (by omega))
  refine .loop (α := Nat × (List Cell)) [.r [(0, X (Xi cellT news (k : Int)))]] 89 (fun (j, p) => ([(0, VL 5 cellT l), (5, .row 48 p.length), (6, VI (j : Int)), (8, .ptr 73 0), (11, VL 5 cellT news), (12, VI (news.length : Int)), (13, VI (k : Int))], [(48, OR 5 cellT p), (73, .box [VI (((news.getD k default)).row), VI (((news.getD k default)).col), VS (((news.getD k default)).text), VI (((news.getD k default)).ref), VL 2 attrT (((news.getD k default)).attrs)])])) (fun (j, p) => j ≤ l.length ∧ p.length ≤ j + k ∧ difL news l = p ++ difC (news.getD k default) (difL (news.drop (k + 1))) (l.drop j)) (fun (j, p) => l.length - j) (i, o) ?_ ?_
  ·
   exact ⟨by omega, by omega, by rw [I4.2.2.2, dropC (l := news) (by omega), difL]⟩
  rintro ⟨j, p⟩ I6 ih6
  try dsimp only at I6
  skip
  refine .br [.r [(2, X (Xl cellT l)), (7, Xv 2 (decide ((j : Int) < (l.length : Int))) (Xi cellT l (j : Int))), (8, Xv 1 (decide ((j : Int) < (l.length : Int))) X0), (10, Xv 2 (decide ((j : Int) < (l.length : Int))) (Xc0 (fc_order ((l.getD j default)) ((news.getD k default))) X0)), (11, Xv 1 (decide ((j : Int) < (l.length : Int))) X0), (12, X (Xk (decide ((j : Int) < (l.length : Int)))))]] (decide ((j : Int) < (l.length : Int)) && decide ((ordC ((l.getD j default)) ((news.getD k default))) < 0)) (fun h6 => ?_) (fun h6 => ?_)
  ·
   (try simp only [decide_eq_true_eq, decide_eq_false_iff_not, Int.not_lt, Int.not_le, Bool.and_eq_true, Bool.and_eq_false_iff, Bool.not_eq_true', Bool.not_eq_false'] at h6)
   refine .back [.r [(3, X (Xi cellT l (j : Int))), (8, X (Xi cellT l (j : Int))), (11, X (Xf [(4, 2)])), (13, X (rowC cellT [({ row := ((l.getD j default)).row, col := ((l.getD j default)).col, text := { data := #[] }, ref := 0, attrs := [] } : Cell)] (Xap 5 cellT 48 p [({ row := ((l.getD j default)).row, col := ((l.getD j default)).col, text := { data := #[] }, ref := 0, attrs := [] } : Cell)])))], .r [(1, X (Xn ((j : Int) + 1)))]] [(48, 48), (73, 73)] (ih6 ((j + 1), (p ++ [({ row := ((l.getD j default)).row, col := ((l.getD j default)).col, text := { data := #[] }, ref := 0, attrs := [] } : Cell)])) ?_ ?_)
   ·
    refine ⟨by omega, by simp; omega, ?_⟩
    rw [I6.2.2, difC_lt (by omega) (by omega), List.append_assoc]
    rfl
   ·
    ((try dsimp only); omega)
  ·
   (try simp only [decide_eq_true_eq, decide_eq_false_iff_not, Int.not_lt, Int.not_le, Bool.and_eq_true, Bool.and_eq_false_iff, Bool.not_eq_true', Bool.not_eq_false'] at h6)
   refine .br [.r [(2, X (Xl cellT l)), (7, Xv 2 (decide ((j : Int) < (l.length : Int))) (Xi cellT l (j : Int))), (8, Xv 1 (decide ((j : Int) < (l.length : Int))) X0), (10, Xv 2 (decide ((j : Int) < (l.length : Int))) (Xc0 (fc_order ((l.getD j default)) ((news.getD k default))) X0)), (11, Xv 1 (decide ((j : Int) < (l.length : Int))) X0), (12, X (Xk (decide ((j : Int) < (l.length : Int)))))]] (decide ((j : Int) < (l.length : Int)) && ((ordC ((l.getD j default)) ((news.getD k default))) == 0)) (fun h9 => ?_) (fun h9 => ?_)
   ·
    (try simp only [decide_eq_true_eq, decide_eq_false_iff_not, Int.not_lt, Int.not_le, Bool.and_eq_true, Bool.and_eq_false_iff, Bool.not_eq_true', Bool.not_eq_false', beq_iff_eq, beq_eq_false_iff_ne, ne_eq] at h9)
    refine .br [.r [(1, X (Xn ((j : Int) + 1)))], .r [(2, X (Xn (((j : Int) + 1) - 1))), (3, X (Xi' cellT l (((j : Int) + 1) - 1) ((j + 1) - 1)) ⟨(by omega), (by omega)⟩), (6, X (Xc0 (fc_sameCell ((l.getD ((j + 1) - 1) default)) ((news.getD k default))) X0))]] (sameC ((l.getD ((j + 1) - 1) default)) ((news.getD k default))) (fun h11 => ?_) (fun h11 => ?_)
    ·
     refine .back [.r [(0, X (Xn ((k : Int) + 1)))]] [(48, 48)] (ih4 ((j + 1), (k + 1), p) ?_ ?_)
     ·
      refine ⟨by omega, by omega, by ((try simp only [List.length_append, List.length_cons, List.length_nil]); omega), ?_⟩
      rw [I6.2.2]
      (first | rw [difC_eq (by omega) (by omega)] | rw [difC_gt (fun h => by omega)])
      (first | rw [if_pos (by assumption)] | rw [if_neg (by simp_all)] | skip)
      all_goals (try simp)
     ·
      ((try dsimp only); omega)
    ·
     refine .back [.r [(2, X (Xc1 393 (fc_clone ((news.getD k default)) (by omega)) X0)), (4, X (rowC cellT [((news.getD k default))] (Xap 5 cellT 48 p [((news.getD k default))])))], .r [(0, X (Xn ((k : Int) + 1)))]] [(48, 48)] (ih4 ((j + 1), (k + 1), (p ++ [((news.getD k default))])) ?_ ?_)
     ·
      refine ⟨by omega, by omega, by ((try simp only [List.length_append, List.length_cons, List.length_nil]); omega), ?_⟩
      rw [I6.2.2]
      (first | rw [difC_eq (by omega) (by omega)] | rw [difC_gt (fun h => by omega)])
      (first | rw [if_pos (by assumption)] | rw [if_neg (by simp_all)] | skip)
      all_goals (try simp)
     ·
      ((try dsimp only); omega)
   ·
    (try simp only [decide_eq_true_eq, decide_eq_false_iff_not, Int.not_lt, Int.not_le, Bool.and_eq_true, Bool.and_eq_false_iff, Bool.not_eq_true', Bool.not_eq_false', beq_iff_eq, beq_eq_false_iff_ne, ne_eq] at h9)
    refine .back [.r [(2, X (Xc1 313 (fc_clone ((news.getD k default)) (by omega)) X0)), (4, X (rowC cellT [((news.getD k default))] (Xap 5 cellT 48 p [((news.getD k default))])))], .r [(0, X (Xn ((k : Int) + 1)))]] [(48, 48)] (ih4 (j, (k + 1), (p ++ [((news.getD k default))])) ?_ ?_)
    ·
     refine ⟨by omega, by omega, by ((try simp only [List.length_append, List.length_cons, List.length_nil]); omega), ?_⟩
     rw [I6.2.2]
     (first | rw [difC_eq (by omega) (by omega)] | rw [difC_gt (fun h => by omega)])
     (first | rw [if_pos (by assumption)] | rw [if_neg (by simp_all)] | skip)
     all_goals (try simp)
    ·
     ((try dsimp only); omega)
 ·
  (try simp only [decide_eq_true_eq, decide_eq_false_iff_not, Int.not_lt, Int.not_le] at h4)
  refine .loop (α := Nat × (List Cell)) [.r [(2, X (Xsd cellT 5 l (i : Int))), (3, X (Xl cellT (l.drop i)))]] 97 (fun (m, q) => ([(5, .row 48 q.length), (76, VL 5 cellT (l.drop i)), (77, VI ((l.drop i).length : Int)), (78, VI (m : Int))], [(48, OR 5 cellT q)])) (fun (m, q) => m ≤ (l.drop i).length ∧ q = o ++ ((l.drop i).take m).map bareC) (fun (m, q) => (l.drop i).length - m) (0, o) ?_ ?_
  ·
   exact ⟨by omega, by simp⟩
  rintro ⟨m, q⟩ I15 ih15
  try dsimp only at I15
  have ql : q.length = o.length + m := by rw [I15.2]; simp; have := I15.1; simp at this; omega
  have hdl : (l.drop i).length = l.length - i := List.length_drop ..
  refine .br [.r []] (decide ((m : Int) < ((l.drop i).length : Int))) (fun h15 => ?_) (fun h15 => ?_)
  ·
   (try simp only [decide_eq_true_eq, decide_eq_false_iff_not, Int.not_lt, Int.not_le] at h15)
   refine .back [.r [(0, X (Xi cellT (l.drop i) (m : Int)))], .r [(5, X (Xf [(4, 2)])), (7, X (rowC cellT [({ row := (((l.drop i).getD m default)).row, col := (((l.drop i).getD m default)).col, text := { data := #[] }, ref := 0, attrs := [] } : Cell)] (Xap 5 cellT 48 q [({ row := (((l.drop i).getD m default)).row, col := (((l.drop i).getD m default)).col, text := { data := #[] }, ref := 0, attrs := [] } : Cell)])))], .r [(0, X (Xn ((m : Int) + 1)))]] [(48, 48)] (ih15 ((m + 1), (q ++ [({ row := (((l.drop i).getD m default)).row, col := (((l.drop i).getD m default)).col, text := { data := #[] }, ref := 0, attrs := [] } : Cell)])) ?_ ?_)
   ·
    refine ⟨by omega, ?_⟩
    have hg : (l.drop i).getD m default = (l.drop i)[m] := by rw [List.getD, List.getElem?_eq_getElem (by omega)]; rfl
    rw [I15.2, List.take_succ_eq_append_getElem (by omega), List.map_append, List.append_assoc, hg]
    rfl
   ·
    ((try dsimp only); omega)
  ·
   (try simp only [decide_eq_true_eq, decide_eq_false_iff_not, Int.not_lt, Int.not_le] at h15)
   have e1 : ((difL news l) : List Cell) = q := by
    rw [I4.2.2.2, dropC_end (l := news) (by omega), difL, I15.2, List.take_of_length_le (by omega)]
   exact .finE [.r [], .le (.fr 4 [(q.length : Nat) = (List.map cellT q).length] ⟨lm, trivial⟩)] [] (fun z0 => (VL 5 cellT z0, [])) (q : List Cell) ((difL news l) : List Cell) e1
end Go.Ch
end
section
set_option linter.unusedVariables false
namespace Go.Ch
open Go Go.Ab

theorem getDX_mem {α : Type} [Inhabited α] {l : List α} {i : Nat} (h : i < l.length) : l.getD i default ∈ l := by
  rw [show l.getD i default = l[i] by simp [List.getD, List.getElem?_eq_getElem h]]; exact List.getElem_mem _
theorem take_succD {α : Type} [Inhabited α] {l : List α} {i : Nat} (h : i < l.length) : l.take (i + 1) = l.take i ++ [l.getD i default] := by
  rw [List.take_succ_eq_append_getElem h]; simp [List.getD, List.getElem?_eq_getElem h]
theorem drop_succD {α : Type} [Inhabited α] {l : List α} {i : Nat} (h : i < l.length) : l.drop i = l.getD i default :: l.drop (i + 1) := by
  rw [List.drop_eq_getElem_cons h]; simp [List.getD, List.getElem?_eq_getElem h]
theorem filt_succ {α : Type} [Inhabited α] (p : α → Bool) {l : List α} {i : Nat} (h : i < l.length) : (l.take (i + 1)).filter p = (l.take i).filter p ++ (if p (l.getD i default) = true then [l.getD i default] else []) := by
  rw [take_succD h, List.filter_append]
  congr 1
  rw [List.filter_cons, List.filter_nil]
theorem filt_len {α : Type} (p : α → Bool) (l : List α) (i : Nat) : ((l.take i).filter p).length ≤ i :=
  Nat.le_trans (List.length_filter_le _ _) (by rw [List.length_take]; omega)

/-! ### Back, rects, reach -/
def outQ (l k : List Rect) : List Rect := l.filter (fun r => !hasQ k r)
def backE (b g : Grid) (rows cols : List AxStep) : GEd := ⟨rows, cols, difL g.cells b.cells, outQ b.merges g.merges, outQ g.merges b.merges⟩
def thrO (rows cols : List AxStep) (r : Rect) : Option Rect := if thrB (thrR r rows cols) = true then some (thrR r rows cols) else none
def rectL (l : List Rect) (rows cols : List AxStep) : List Rect := l.filterMap (thrO rows cols)
/-- A rectangle that both axes' changes can take. -/
def QIn (rows cols : List AxStep) (r : Rect) : Prop := RB r ∧ AxIn rows r.row (r.row + r.h) ∧ AxIn cols r.col (r.col + r.w)
def mxS (a : List AxStep) : Int := if 0 < a.length then oldI a else 2147483647
def RchOk (e : GEd) (h w : Int) : Prop := (∀ c ∈ e.cells, c.row < h ∧ c.col < w) ∧ (∀ r ∈ e.split, insB r h w = true) ∧ ∀ r ∈ e.merge, insB r h w = true

/-! ### What the document says -/
def liesB (r : Rect) (m n : Int) : Bool := insB r m n
theorem lies_eq {r : Rect} {m n : Int} (hm : 0 ≤ m) (hn : 0 ≤ n) : insB r m n = decide (((0 ≤ r.row ∧ r.row ≤ m - 1) ∧ (0 ≤ r.col ∧ r.col ≤ n - 1)) ∧ (1 ≤ r.h ∧ r.h ≤ m - r.row) ∧ (1 ≤ r.w ∧ r.w ≤ n - r.col)) := by
  unfold insB
  rw [Bool.eq_iff_iff]
  simp only [decide_eq_true_eq]
  omega
def sameCells (a b : List Cell) (i : Nat) : Bool := if i < a.length then (if sameC (a.getD i default) (b.getD i default) = true then sameCells a b (i + 1) else false) else true
termination_by a.length - i
def sameCs (a b : List Cell) : Bool := if a.length = b.length then sameCells a b 0 else false
def sameRects (a b : List Rect) (i : Nat) : Bool := if i < a.length then (if a.getD i default = b.getD i default then sameRects a b (i + 1) else false) else true
termination_by a.length - i
def sameQs (a b : List Rect) : Bool := if a.length = b.length then sameRects a b 0 else false
def sameG (a b : Grid) : Bool := ((a.rows == b.rows && a.cols == b.cols) && sameCs a.cells b.cells) && sameQs a.merges b.merges
def sumN (l : List AxStep) : Int := ((ex l).length : Int)
theorem sumN_le {l : List AxStep} (hv : Valid l) : 0 ≤ sumN l ∧ sumN l ≤ 4294967294 := by
  have := ex_len l; have := hv.2.1; have := hv.2.2
  unfold sumN; omega
theorem sumN_at {l : List AxStep} {i : Nat} (h : i < l.length) (hf : Form l) : sumN (l.drop i) = (l.getD i default).n + sumN (l.drop (i + 1)) ∧ 1 ≤ (l.getD i default).n := by
  have h1 := (at_of_form hf) i (Nat.zero_le _) h
  have hn := h1.1.2.2
  refine ⟨?_, hn⟩
  unfold sumN
  rw [drop_ats h, ex, List.length_append, List.length_replicate]
  omega
theorem sumN_end {l : List AxStep} {i : Nat} (h : l.length ≤ i) : sumN (l.drop i) = 0 := by
  rw [List.drop_eq_nil_of_le h]; rfl
def pA (a b : List AxStep) : List AxStep := if a.length = 0 ∨ b.length = 0 then a else pairX1 a b
def pB (a b : List AxStep) : List AxStep := if a.length = 0 ∨ b.length = 0 then b else pairX2 a b
structure PairOk (a b : List AxStep) : Prop where
  va : Valid a
  vb : Valid b
  eq : oldI a = oldI b
  c1 : checkX (pairX1 a b) = 0
  c2 : checkX (pairX2 a b) = 0
def smallB (g : Grid) (e : GEd) : Bool := ((decide (g.rows ≤ 30) && decide (g.cols ≤ 30)) && decide (sumN e.rows ≤ 60)) && decide (sumN e.cols ≤ 60)
def shareB (a b : Rect) : Bool := decide (max a.row b.row < min (a.row + a.h) (b.row + b.h)) && decide (max a.col b.col < min (a.col + a.w) (b.col + b.w))
theorem share_eq {a b : Rect} (h1 : 1 ≤ a.h) (h2 : 1 ≤ a.w) (h3 : 1 ≤ b.h) (h4 : 1 ≤ b.w) : shareB a b = meetB a b := by
  unfold shareB meetB
  rw [Bool.eq_iff_iff]
  simp only [Bool.and_eq_true, decide_eq_true_eq]
  omega
theorem chkX_cg {l : List AxStep} {i : Nat} {x y x' y' : Int} (h1 : x = x') (h2 : y = y') : chkX l i x y = chkX l i x' y' := by rw [h1, h2]
end Go.Ch
end
section
set_option linter.unusedVariables false
set_option linter.unusedSimpArgs false
set_option maxRecDepth 100000
set_option maxHeartbeats 4000000
open Go Go.Proofs Go.Ab
namespace Go.Ch
theorem fc_back (b g : Grid) (rows cols : List AxStep) (k1 : b.cells.length ≤ 100000000000) (k2 : g.cells.length ≤ 100000000000) (k3 : b.merges.length ≤ 100000000000) (k4 : g.merges.length ≤ 100000000000) (ha : CAN 1000000000000 g.cells) : FC Tryz.prog 31 [.t (gridT b), .t (gridT g), VL 2 stepT rows, VL 2 stepT cols] (app emp []) (.t (gedT (backE b g rows cols))) (app emp []) := by
 refine .go Tryz.f31 ?_
 refine .len 2 (fun hl2 => ?_)
 refine .len 3 (fun hl3 => ?_)
 refine .loop (α := Nat × (List Rect) × (List Rect)) [.r [], .r [(6, X (Xc1 72 (fc_diffs b.cells g.cells (by omega) (by omega) (by assumption)) X0))], .le (.nB 88 3 4), .le (.nB 88 4 4), .r [(2, X (Xl rectT b.merges))]] 138 (fun (i, oa, ob) => ([(4, .ptr 0 0), (5, .ptr 8 0), (8, .ptr 16 0), (9, .ptr 88 0), (23, VL 4 rectT b.merges), (24, VI (b.merges.length : Int)), (25, VI (i : Int))], [(0, .box [VI b.rows, VI b.cols, VL 5 cellT b.cells, VL 4 rectT b.merges]), (8, .box [VI g.rows, VI g.cols, VL 5 cellT g.cells, VL 4 rectT g.merges]), (16, .box [VN, VN, VN, VN, VN]), (88, .box [VL 2 stepT rows, VL 2 stepT cols, VL 5 cellT (difL g.cells b.cells), .row 104 oa.length, .row 105 ob.length]), (104, OR 4 rectT oa), (105, OR 4 rectT ob)])) (fun (i, oa, ob) => i ≤ b.merges.length ∧ oa = outQ (b.merges.take i) g.merges ∧ ob = []) (fun (i, oa, ob) => b.merges.length - i) (0, [], []) ?_ ?_
 ·
  exact ⟨by omega, rfl, rfl⟩
 rintro ⟨i, oa, ob⟩ I3 ih3
 try dsimp only at I3
 have ol : oa.length ≤ i := by rw [I3.2.1]; exact filt_len _ _ _
 refine .br [.r []] (decide ((i : Int) < (b.merges.length : Int))) (fun h3 => ?_) (fun h3 => ?_)
 ·
  (try simp only [decide_eq_true_eq, decide_eq_false_iff_not, Int.not_lt, Int.not_le] at h3)
  refine .br [.r [(0, X (Xi rectT b.merges (i : Int)))], .r [(3, X (Xc0 (fc_hasQ g.merges ((b.merges.getD i default))) X0))]] (!(hasQ g.merges ((b.merges.getD i default)))) (fun h5 => ?_) (fun h5 => ?_)
  ·
   (try simp only [Bool.not_eq_true', Bool.not_eq_false'] at h5)
   refine .back [.r [(4, X (rowC rectT [((b.merges.getD i default))] (Xap 4 rectT 104 oa [((b.merges.getD i default))])))], .r [(0, X (Xn ((i : Int) + 1)))]] [(0, 0), (8, 8), (16, 16), (88, 88), (104, 104), (105, 105)] (ih3 ((i + 1), (oa ++ [((b.merges.getD i default))]), ob) ?_ ?_)
   ·
    refine ⟨by omega, ?_, I3.2.2⟩
    rw [I3.2.1]; unfold outQ; rw [filt_succ _ (by omega)]
    simp only [h5, Bool.not_false, Bool.not_true, if_true, if_false, List.append_nil, Bool.false_eq_true]
   ·
    ((try dsimp only); omega)
  ·
   (try simp only [Bool.not_eq_true', Bool.not_eq_false'] at h5)
   refine .back [.r [(0, X (Xn ((i : Int) + 1)))]] [(0, 0), (8, 8), (16, 16), (88, 88), (104, 104), (105, 105)] (ih3 ((i + 1), oa, ob) ?_ ?_)
   ·
    refine ⟨by omega, ?_, I3.2.2⟩
    rw [I3.2.1]; unfold outQ; rw [filt_succ _ (by omega)]
    simp only [h5, Bool.not_false, Bool.not_true, if_true, if_false, List.append_nil, Bool.false_eq_true]
   ·
    ((try dsimp only); omega)
 ·
  (try simp only [decide_eq_true_eq, decide_eq_false_iff_not, Int.not_lt, Int.not_le] at h3)
  refine .loop (α := Nat × (List Rect)) [.r [(2, X (Xl rectT g.merges))]] 178 (fun (j, oc) => ([(4, .ptr 0 0), (8, .ptr 16 0), (9, .ptr 88 0), (42, VL 4 rectT g.merges), (43, VI (g.merges.length : Int)), (44, VI (j : Int))], [(0, .box [VI b.rows, VI b.cols, VL 5 cellT b.cells, VL 4 rectT b.merges]), (16, .box [VN, VN, VN, VN, VN]), (88, .box [VL 2 stepT rows, VL 2 stepT cols, VL 5 cellT (difL g.cells b.cells), .row 104 oa.length, .row 105 oc.length]), (104, OR 4 rectT oa), (105, OR 4 rectT oc)])) (fun (j, oc) => j ≤ g.merges.length ∧ oc = outQ (g.merges.take j) b.merges) (fun (j, oc) => g.merges.length - j) (0, ob) ?_ ?_
  ·
   exact ⟨by omega, I3.2.2⟩
  rintro ⟨j, oc⟩ I9 ih9
  try dsimp only at I9
  have pl : oc.length ≤ j := by rw [I9.2]; exact filt_len _ _ _
  refine .br [.r []] (decide ((j : Int) < (g.merges.length : Int))) (fun h9 => ?_) (fun h9 => ?_)
  ·
   (try simp only [decide_eq_true_eq, decide_eq_false_iff_not, Int.not_lt, Int.not_le] at h9)
   refine .br [.r [(0, X (Xi rectT g.merges (j : Int)))], .r [(3, X (Xc0 (fc_hasQ b.merges ((g.merges.getD j default))) X0))]] (!(hasQ b.merges ((g.merges.getD j default)))) (fun h11 => ?_) (fun h11 => ?_)
   ·
    (try simp only [Bool.not_eq_true', Bool.not_eq_false'] at h11)
    refine .back [.r [(4, X (rowC rectT [((g.merges.getD j default))] (Xap 4 rectT 105 oc [((g.merges.getD j default))])))], .r [(0, X (Xn ((j : Int) + 1)))]] [(0, 0), (16, 16), (88, 88), (104, 104), (105, 105)] (ih9 ((j + 1), (oc ++ [((g.merges.getD j default))])) ?_ ?_)
    ·
     refine ⟨by omega, ?_⟩
     rw [I9.2]; unfold outQ; rw [filt_succ _ (by omega)]
     simp only [h11, Bool.not_false, Bool.not_true, if_true, if_false, List.append_nil, Bool.false_eq_true]
    ·
     ((try dsimp only); omega)
   ·
    (try simp only [Bool.not_eq_true', Bool.not_eq_false'] at h11)
    refine .back [.r [(0, X (Xn ((j : Int) + 1)))]] [(0, 0), (16, 16), (88, 88), (104, 104), (105, 105)] (ih9 ((j + 1), oc) ?_ ?_)
    ·
     refine ⟨by omega, ?_⟩
     rw [I9.2]; unfold outQ; rw [filt_succ _ (by omega)]
     simp only [h11, Bool.not_false, Bool.not_true, if_true, if_false, List.append_nil, Bool.false_eq_true]
    ·
     ((try dsimp only); omega)
  ·
   (try simp only [decide_eq_true_eq, decide_eq_false_iff_not, Int.not_lt, Int.not_le] at h9)
   have q1 : oa = outQ b.merges g.merges := by rw [I3.2.1, List.take_of_length_le (by omega)]
   have q2 : oc = outQ g.merges b.merges := by rw [I9.2, List.take_of_length_le (by omega)]
   have e1 : ((backE b g rows cols) : GEd) = ({ rows := rows, cols := cols, cells := (difL g.cells b.cells), split := oa, merge := oc } : GEd) := by
    unfold backE; rw [q1, q2]
   exact .finVE [.r []] [.fR 0 [(oa.length : Nat) = (List.map rectT oa).length, (oc.length : Nat) = (List.map rectT oc).length] ⟨lm, lm, trivial⟩] [] (fun z0 => (.t (gedT z0), [])) (({ rows := rows, cols := cols, cells := (difL g.cells b.cells), split := oa, merge := oc } : GEd) : GEd) ((backE b g rows cols) : GEd) e1

end Go.Ch
end
section
set_option linter.unusedVariables false
set_option linter.unusedSimpArgs false
set_option maxRecDepth 100000
set_option maxHeartbeats 4000000
open Go Go.Proofs Go.Ab
namespace Go.Ch
theorem fc_axisSize (l : List AxStep) (hv : Valid l) : FC Tryz.prog 23 [VL 2 stepT l] (app emp []) (VI (sumN l)) (app emp []) := by
 refine .go Tryz.f23 ?_
 refine .len 0 (fun hl0 => ?_)
 have hs := sumN_le hv
 refine .loop (α := Int × Nat) [.r [], .r [], .r [(1, X (Xl stepT l))]] 40 (fun (n, i) => ([(0, VL 2 stepT l), (3, VI n), (6, VI (l.length : Int)), (7, VI (i : Int))], [])) (fun (n, i) => i ≤ l.length ∧ 0 ≤ n ∧ 0 ≤ sumN (l.drop i) ∧ sumN l = n + sumN (l.drop i)) (fun (n, i) => l.length - i) (0, 0) ?_ ?_
 ·
  exact ⟨by omega, by decide, by unfold sumN; omega, by simp⟩
 rintro ⟨n, i⟩ I3 ih3
 try dsimp only at I3
 refine .br [.r []] (decide ((i : Int) < (l.length : Int))) (fun h3 => ?_) (fun h3 => ?_)
 ·
  (try simp only [decide_eq_true_eq, decide_eq_false_iff_not, Int.not_lt, Int.not_le] at h3)
  obtain ⟨t1, t2⟩ := sumN_at (l := l) (i := i) (by omega) hv.1
  have t3 : 0 ≤ sumN (l.drop (i + 1)) := by unfold sumN; omega
  refine .back [.r [], .r [(3, X (Xi stepT l (i : Int))), (6, X (Xn (n + (((l.getD i default)).n))))], .r [(0, X (Xn ((i : Int) + 1)))]] [] (ih3 ((n + (((l.getD i default)).n)), (i + 1)) ?_ ?_)
  ·
   exact ⟨by omega, by omega, t3, by omega⟩
  ·
   ((try dsimp only); omega)
 ·
  (try simp only [decide_eq_true_eq, decide_eq_false_iff_not, Int.not_lt, Int.not_le] at h3)
  have e1 : ((sumN l) : Int) = n := by
   have := sumN_end (l := l) (i := i) (by omega)
   omega
  exact .finE [.r []] [] (fun z0 => (VI z0, [])) (n : Int) ((sumN l) : Int) e1

theorem fc_axisError (l : List AxStep) : FC Tryz.prog 24 [VL 2 stepT l] (app emp []) (VI (checkX l)) (app emp []) := by
 refine .go Tryz.f24 ?_
 refine .len 0 (fun hl0 => ?_)
 refine .loop (α := Int × Int × Nat) [.r [], .r [], .r [(1, X (Xl stepT l))]] 48 (fun (b, a, i) => ([(0, VL 2 stepT l), (3, VI b), (4, VI a), (7, VI (l.length : Int)), (8, VI (i : Int))], [])) (fun (b, a, i) => i ≤ l.length ∧ 0 ≤ b ∧ b ≤ 4294967296 ∧ 0 ≤ a ∧ a ≤ 4294967296 ∧ checkX l = chkX l i (min b 2147483648) (min a 2147483648)) (fun (b, a, i) => l.length - i) (0, 0, 0) ?_ ?_
 ·
  exact ⟨by omega, by decide, by decide, by decide, by decide, rfl⟩
 rintro ⟨b, a, i⟩ I3 ih3
 try dsimp only at I3
 refine .br [.r []] (decide ((i : Int) < (l.length : Int))) (fun h3 => ?_) (fun h3 => ?_)
 ·
  (try simp only [decide_eq_true_eq, decide_eq_false_iff_not, Int.not_lt, Int.not_le] at h3)
  refine .br [.r [], .r [(2, X (Xi stepT l (i : Int))), (5, X (Xc0 (fc_in (((l.getD i default)).kind) 0 2) X0))]] (!(decide (0 ≤ (((l.getD i default)).kind) ∧ (((l.getD i default)).kind) ≤ 2))) (fun h5 => ?_) (fun h5 => ?_)
  ·
   (try simp only [decide_eq_true_eq, decide_eq_false_iff_not, Int.not_lt, Int.not_le, Bool.not_eq_true', Bool.not_eq_false'] at h5)
   have e1 : ((checkX l) : Int) = 8 := by
    rw [I3.2.2.2.2.2, chkX]; ((repeat' split) <;> first | rfl | omega | (simp_all; done) | (simp_all; omega))
   exact .finE [.r []] [] (fun z0 => (VI z0, [])) (8 : Int) ((checkX l) : Int) e1
  ·
   (try simp only [decide_eq_true_eq, decide_eq_false_iff_not, Int.not_lt, Int.not_le, Bool.not_eq_true', Bool.not_eq_false'] at h5)
   refine .br [.r [(2, X (Xi stepT l (i : Int))), (5, X (Xc0 (fc_in (((l.getD i default)).n) 1 2147483647) X0))]] (!(decide (1 ≤ (((l.getD i default)).n) ∧ (((l.getD i default)).n) ≤ 2147483647))) (fun h7 => ?_) (fun h7 => ?_)
   ·
    (try simp only [decide_eq_true_eq, decide_eq_false_iff_not, Int.not_lt, Int.not_le, Bool.not_eq_true', Bool.not_eq_false'] at h7)
    have e2 : ((checkX l) : Int) = 2 := by
     rw [I3.2.2.2.2.2, chkX]; ((repeat' split) <;> first | rfl | omega | (simp_all; done) | (simp_all; omega))
    exact .finE [.r []] [] (fun z0 => (VI z0, [])) (2 : Int) ((checkX l) : Int) e2
   ·
    (try simp only [decide_eq_true_eq, decide_eq_false_iff_not, Int.not_lt, Int.not_le, Bool.not_eq_true', Bool.not_eq_false'] at h7)
    refine .br [.r [(5, Xv 2 (decide ((i : Int) > 0)) (Xi stepT l (i : Int))), (6, Xv 1 (decide ((i : Int) > 0)) X0), (7, Xv 1 (decide ((i : Int) > 0)) X0), (10, Xv 1 (decide ((i : Int) > 0)) (Xn ((i : Int) - 1))), (11, Xv 2 (decide ((i : Int) > 0)) (Xi' stepT l ((i : Int) - 1) (i - 1))), (12, Xv 1 (decide ((i : Int) > 0)) X0), (13, Xv 1 (decide ((i : Int) > 0)) X0), (14, Xv 2 (decide ((i : Int) > 0)) X0), (15, Xv 1 (decide ((i : Int) > 0)) X0), (18, Xv 2 ((decide ((i : Int) > 0)) && !((((l.getD i default)).kind) == (((l.getD (i - 1) default)).kind))) (Xi stepT l (i : Int))), (19, Xv 1 ((decide ((i : Int) > 0)) && !((((l.getD i default)).kind) == (((l.getD (i - 1) default)).kind))) X0), (20, Xv 1 ((decide ((i : Int) > 0)) && !((((l.getD i default)).kind) == (((l.getD (i - 1) default)).kind))) X0), (21, Xv 1 ((decide ((i : Int) > 0)) && !((((l.getD i default)).kind) == (((l.getD (i - 1) default)).kind))) X0), (22, Xv 1 ((decide ((i : Int) > 0)) && !((((l.getD i default)).kind) == (((l.getD (i - 1) default)).kind))) X0), (25, Xv 1 (((decide ((i : Int) > 0)) && !((((l.getD i default)).kind) == (((l.getD (i - 1) default)).kind))) && ((((l.getD i default)).kind) == 1)) (Xn ((i : Int) - 1))), (26, Xv 2 (((decide ((i : Int) > 0)) && !((((l.getD i default)).kind) == (((l.getD (i - 1) default)).kind))) && ((((l.getD i default)).kind) == 1)) (Xi' stepT l ((i : Int) - 1) (i - 1))), (27, Xv 1 (((decide ((i : Int) > 0)) && !((((l.getD i default)).kind) == (((l.getD (i - 1) default)).kind))) && ((((l.getD i default)).kind) == 1)) X0), (28, Xv 1 (((decide ((i : Int) > 0)) && !((((l.getD i default)).kind) == (((l.getD (i - 1) default)).kind))) && ((((l.getD i default)).kind) == 1)) X0), (29, Xv 1 (((decide ((i : Int) > 0)) && !((((l.getD i default)).kind) == (((l.getD (i - 1) default)).kind))) && ((((l.getD i default)).kind) == 1)) X0), (30, Xka ((decide ((i : Int) > 0)) && !((((l.getD i default)).kind) == (((l.getD (i - 1) default)).kind))) ((((l.getD i default)).kind) == 1)), (31, Xko (decide ((i : Int) > 0)) ((((l.getD i default)).kind) == (((l.getD (i - 1) default)).kind))), (32, X (Xk (decide ((i : Int) > 0))))]] (decide ((i : Int) > 0) && (((((l.getD i default)).kind) == (((l.getD (i - 1) default)).kind)) || (((((l.getD i default)).kind) == 1) && ((((l.getD (i - 1) default)).kind) == 2)))) (fun h9 => ?_) (fun h9 => ?_)
    ·
     (try simp only [decide_eq_true_eq, decide_eq_false_iff_not, Int.not_lt, Int.not_le, gt_iff_lt, Bool.and_eq_true, Bool.and_eq_false_iff, Bool.not_eq_true', Bool.not_eq_false', Bool.or_eq_true, Bool.or_eq_false_iff, beq_iff_eq, beq_eq_false_iff_ne, ne_eq] at h9)
     have e3 : ((checkX l) : Int) = 5 := by
      rw [I3.2.2.2.2.2, chkX]; ((repeat' split) <;> first | rfl | omega | (simp_all; done) | (simp_all; omega))
     exact .finE [.r []] [] (fun z0 => (VI z0, [])) (5 : Int) ((checkX l) : Int) e3
    ·
     (try simp only [decide_eq_true_eq, decide_eq_false_iff_not, Int.not_lt, Int.not_le, gt_iff_lt, Bool.and_eq_true, Bool.and_eq_false_iff, Bool.not_eq_true', Bool.not_eq_false', Bool.or_eq_true, Bool.or_eq_false_iff, beq_iff_eq, beq_eq_false_iff_ne, ne_eq] at h9)
     refine .br [.r [(2, X (Xi stepT l (i : Int))), (8, Xv 1 ((((l.getD i default)).kind) != 1) X0), (9, X (Xk ((((l.getD i default)).kind) != 1)))]] (((((l.getD i default)).kind) != 1) && decide (b < 2147483648)) (fun h11 => ?_) (fun h11 => ?_)
     ·
      (try simp only [decide_eq_true_eq, decide_eq_false_iff_not, Int.not_lt, Int.not_le, Bool.and_eq_true, Bool.and_eq_false_iff, Bool.not_eq_true', Bool.not_eq_false', bne_iff_ne, bne_eq_false_iff_eq, ne_eq] at h11)
      refine .br [.r [(3, X (Xi stepT l (i : Int))), (6, X (Xn (b + (((l.getD i default)).n))))], .r [(2, X (Xi stepT l (i : Int))), (8, Xv 1 ((((l.getD i default)).kind) != 2) X0), (9, X (Xk ((((l.getD i default)).kind) != 2)))]] (((((l.getD i default)).kind) != 2) && decide (a < 2147483648)) (fun h13 => ?_) (fun h13 => ?_)
      ·
       (try simp only [decide_eq_true_eq, decide_eq_false_iff_not, Int.not_lt, Int.not_le, Bool.and_eq_true, Bool.and_eq_false_iff, Bool.not_eq_true', Bool.not_eq_false', bne_iff_ne, bne_eq_false_iff_eq, ne_eq] at h13)
       refine .at 672 [] ([(0, VL 2 stepT l), (3, VI (b + (((l.getD i default)).n))), (4, VI a), (5, VI (i : Int)), (7, VI (l.length : Int)), (8, VI (i : Int)), (84, VB (((((l.getD i default)).kind) != 2) && decide (a < 2147483648)))], []) ?_
       refine .back [.r [(3, X (Xi stepT l (i : Int))), (6, X (Xn (a + (((l.getD i default)).n))))], .r [(0, X (Xn ((i : Int) + 1)))]] [] (ih3 ((b + (((l.getD i default)).n)), (a + (((l.getD i default)).n)), (i + 1)) ?_ ?_)
       ·
        refine ⟨by omega, by omega, by omega, by omega, by omega, ?_⟩
        rw [I3.2.2.2.2.2, chkX, if_pos (by omega), if_neg (by omega), if_neg (by omega), if_neg (by omega)]
        exact chkX_cg (by split <;> omega) (by split <;> omega)
       ·
        ((try dsimp only); omega)
      ·
       (try simp only [decide_eq_true_eq, decide_eq_false_iff_not, Int.not_lt, Int.not_le, Bool.and_eq_true, Bool.and_eq_false_iff, Bool.not_eq_true', Bool.not_eq_false', bne_iff_ne, bne_eq_false_iff_eq, ne_eq] at h13)
       refine .at 672 [] ([(0, VL 2 stepT l), (3, VI (b + (((l.getD i default)).n))), (4, VI a), (5, VI (i : Int)), (7, VI (l.length : Int)), (8, VI (i : Int)), (84, VB (((((l.getD i default)).kind) != 2) && decide (a < 2147483648)))], []) ?_
       refine .back [.r [(0, X (Xn ((i : Int) + 1)))]] [] (ih3 ((b + (((l.getD i default)).n)), a, (i + 1)) ?_ ?_)
       ·
        refine ⟨by omega, by omega, by omega, by omega, by omega, ?_⟩
        rw [I3.2.2.2.2.2, chkX, if_pos (by omega), if_neg (by omega), if_neg (by omega), if_neg (by omega)]
        exact chkX_cg (by split <;> omega) (by split <;> omega)
       ·
        ((try dsimp only); omega)
     ·
      (try simp only [decide_eq_true_eq, decide_eq_false_iff_not, Int.not_lt, Int.not_le, Bool.and_eq_true, Bool.and_eq_false_iff, Bool.not_eq_true', Bool.not_eq_false', bne_iff_ne, bne_eq_false_iff_eq, ne_eq] at h11)
      refine .br [.r [(2, X (Xi stepT l (i : Int))), (8, Xv 1 ((((l.getD i default)).kind) != 2) X0), (9, X (Xk ((((l.getD i default)).kind) != 2)))]] (((((l.getD i default)).kind) != 2) && decide (a < 2147483648)) (fun h13 => ?_) (fun h13 => ?_)
      ·
       (try simp only [decide_eq_true_eq, decide_eq_false_iff_not, Int.not_lt, Int.not_le, Bool.and_eq_true, Bool.and_eq_false_iff, Bool.not_eq_true', Bool.not_eq_false', bne_iff_ne, bne_eq_false_iff_eq, ne_eq] at h13)
       refine .at 608 [] ([(0, VL 2 stepT l), (3, VI b), (4, VI a), (5, VI (i : Int)), (7, VI (l.length : Int)), (8, VI (i : Int)), (84, VB (((((l.getD i default)).kind) != 2) && decide (a < 2147483648)))], []) ?_
       refine .back [.r [(3, X (Xi stepT l (i : Int))), (6, X (Xn (a + (((l.getD i default)).n))))], .r [(0, X (Xn ((i : Int) + 1)))]] [] (ih3 (b, (a + (((l.getD i default)).n)), (i + 1)) ?_ ?_)
       ·
        refine ⟨by omega, by omega, by omega, by omega, by omega, ?_⟩
        rw [I3.2.2.2.2.2, chkX, if_pos (by omega), if_neg (by omega), if_neg (by omega), if_neg (by omega)]
        exact chkX_cg (by split <;> omega) (by split <;> omega)
       ·
        ((try dsimp only); omega)
      ·
       (try simp only [decide_eq_true_eq, decide_eq_false_iff_not, Int.not_lt, Int.not_le, Bool.and_eq_true, Bool.and_eq_false_iff, Bool.not_eq_true', Bool.not_eq_false', bne_iff_ne, bne_eq_false_iff_eq, ne_eq] at h13)
       refine .at 608 [] ([(0, VL 2 stepT l), (3, VI b), (4, VI a), (5, VI (i : Int)), (7, VI (l.length : Int)), (8, VI (i : Int)), (84, VB (((((l.getD i default)).kind) != 2) && decide (a < 2147483648)))], []) ?_
       refine .back [.r [(0, X (Xn ((i : Int) + 1)))]] [] (ih3 (b, a, (i + 1)) ?_ ?_)
       ·
        refine ⟨by omega, by omega, by omega, by omega, by omega, ?_⟩
        rw [I3.2.2.2.2.2, chkX, if_pos (by omega), if_neg (by omega), if_neg (by omega), if_neg (by omega)]
        exact chkX_cg (by split <;> omega) (by split <;> omega)
       ·
        ((try dsimp only); omega)
 ·
  (try simp only [decide_eq_true_eq, decide_eq_false_iff_not, Int.not_lt, Int.not_le] at h3)
  refine .br [.r [(4, Xv 1 (!(decide (b > 2147483647))) X0), (5, X (Xk' (decide (b > 2147483647))))]] (decide (b > 2147483647) || decide (a > 2147483647)) (fun h16 => ?_) (fun h16 => ?_)
  ·
   (try simp only [decide_eq_true_eq, decide_eq_false_iff_not, Int.not_lt, Int.not_le, gt_iff_lt, Bool.or_eq_true, Bool.or_eq_false_iff] at h16)
   have e4 : ((checkX l) : Int) = 3 := by
    rw [I3.2.2.2.2.2, chkX]; ((repeat' split) <;> first | rfl | omega | (simp_all; done) | (simp_all; omega))
   exact .finE [.r []] [] (fun z0 => (VI z0, [])) (3 : Int) ((checkX l) : Int) e4
  ·
   (try simp only [decide_eq_true_eq, decide_eq_false_iff_not, Int.not_lt, Int.not_le, gt_iff_lt, Bool.or_eq_true, Bool.or_eq_false_iff] at h16)
   have e5 : ((checkX l) : Int) = 0 := by
    rw [I3.2.2.2.2.2, chkX]; ((repeat' split) <;> first | rfl | omega | (simp_all; done) | (simp_all; omega))
   exact .finE [.r []] [] (fun z0 => (VI z0, [])) (0 : Int) ((checkX l) : Int) e5

theorem fc_sizes (l : List AxStep) (hv : Valid l) : FC Tryz.prog 25 [VL 2 stepT l] (app emp []) (.tup [VI (oldI l), VI (newI l)]) (app emp []) := by
 refine .go Tryz.f25 ?_
 refine .len 0 (fun hl0 => ?_)
 refine .loop (α := Int × Int × Nat) [.r [], .r [], .r [(1, X (Xl stepT l))]] 56 (fun (b, a, i) => ([(0, VL 2 stepT l), (4, VI b), (5, VI a), (8, VI (l.length : Int)), (9, VI (i : Int))], [])) (fun (b, a, i) => i ≤ l.length ∧ 0 ≤ b ∧ 0 ≤ a ∧ oldI l = b + oldU (ex (l.drop i)) ∧ newI l = a + newU (ex (l.drop i))) (fun (b, a, i) => l.length - i) (0, 0, 0) ?_ ?_
 ·
  exact ⟨by omega, by decide, by decide, by simp [oldI], by simp [newI]⟩
 rintro ⟨b, a, i⟩ I3 ih3
 try dsimp only at I3
 have hv1 : oldI l ≤ 2147483647 := by have := hv.2.1; unfold oldI; omega
 have hv2 : newI l ≤ 2147483647 := by have := hv.2.2; unfold newI; omega
 refine .br [.r []] (decide ((i : Int) < (l.length : Int))) (fun h3 => ?_) (fun h3 => ?_)
 ·
  (try simp only [decide_eq_true_eq, decide_eq_false_iff_not, Int.not_lt, Int.not_le] at h3)
  have hst := lens_step (l := l) (i := i) (by omega) hv.1
  have u1 : (0 : Int) ≤ oldU (ex (l.drop (i + 1))) := by omega
  have u2 : (0 : Int) ≤ newU (ex (l.drop (i + 1))) := by omega
  obtain ⟨s1, s2, s3, s4, s5⟩ := hst
  refine .br [.r [], .r [(2, X (Xi stepT l (i : Int)))]] ((((l.getD i default)).kind) != 1) (fun h5 => ?_) (fun h5 => ?_)
  ·
   (try simp only [bne_iff_ne, bne_eq_false_iff_eq, ne_eq] at h5)
   rw [if_neg (by omega)] at s1
   refine .br [.r [(3, X (Xi stepT l (i : Int))), (6, X (Xn (b + (((l.getD i default)).n))))], .r [(2, X (Xi stepT l (i : Int)))]] ((((l.getD i default)).kind) != 2) (fun h7 => ?_) (fun h7 => ?_)
   ·
    (try simp only [bne_iff_ne, bne_eq_false_iff_eq, ne_eq] at h7)
    rw [if_neg (by omega)] at s2
    refine .back [.r [(3, X (Xi stepT l (i : Int))), (6, X (Xn (a + (((l.getD i default)).n))))], .r [(0, X (Xn ((i : Int) + 1)))]] [] (ih3 ((b + (((l.getD i default)).n)), (a + (((l.getD i default)).n)), (i + 1)) ?_ ?_)
    ·
     first | rw [if_pos (by omega)] at s1 | rw [if_neg (by omega)] at s1 | skip
     first | rw [if_pos (by omega)] at s2 | rw [if_neg (by omega)] at s2 | skip
     refine ⟨by omega, by omega, by omega, by omega, by omega⟩
    ·
     ((try dsimp only); omega)
   ·
    (try simp only [bne_iff_ne, bne_eq_false_iff_eq, ne_eq] at h7)
    refine .back [.r [(0, X (Xn ((i : Int) + 1)))]] [] (ih3 ((b + (((l.getD i default)).n)), a, (i + 1)) ?_ ?_)
    ·
     first | rw [if_pos (by omega)] at s1 | rw [if_neg (by omega)] at s1 | skip
     first | rw [if_pos (by omega)] at s2 | rw [if_neg (by omega)] at s2 | skip
     refine ⟨by omega, by omega, by omega, by omega, by omega⟩
    ·
     ((try dsimp only); omega)
  ·
   (try simp only [bne_iff_ne, bne_eq_false_iff_eq, ne_eq] at h5)
   refine .br [.r [(2, X (Xi stepT l (i : Int)))]] ((((l.getD i default)).kind) != 2) (fun h7 => ?_) (fun h7 => ?_)
   ·
    (try simp only [bne_iff_ne, bne_eq_false_iff_eq, ne_eq] at h7)
    rw [if_neg (by omega)] at s2
    refine .back [.r [(3, X (Xi stepT l (i : Int))), (6, X (Xn (a + (((l.getD i default)).n))))], .r [(0, X (Xn ((i : Int) + 1)))]] [] (ih3 (b, (a + (((l.getD i default)).n)), (i + 1)) ?_ ?_)
    ·
     first | rw [if_pos (by omega)] at s1 | rw [if_neg (by omega)] at s1 | skip
     first | rw [if_pos (by omega)] at s2 | rw [if_neg (by omega)] at s2 | skip
     refine ⟨by omega, by omega, by omega, by omega, by omega⟩
    ·
     ((try dsimp only); omega)
   ·
    (try simp only [bne_iff_ne, bne_eq_false_iff_eq, ne_eq] at h7)
    refine .back [.r [(0, X (Xn ((i : Int) + 1)))]] [] (ih3 (b, a, (i + 1)) ?_ ?_)
    ·
     first | rw [if_pos (by omega)] at s1 | rw [if_neg (by omega)] at s1 | skip
     first | rw [if_pos (by omega)] at s2 | rw [if_neg (by omega)] at s2 | skip
     refine ⟨by omega, by omega, by omega, by omega, by omega⟩
    ·
     ((try dsimp only); omega)
 ·
  (try simp only [decide_eq_true_eq, decide_eq_false_iff_not, Int.not_lt, Int.not_le] at h3)
  have e1 : ((oldI l) : Int) = b := by
   have := ex_end (l := l) (i := i) (by omega)
   rw [this] at I3
   have i1 := I3.2.2.2.1
   have i2 := I3.2.2.2.2
   simp only [oldU, newU] at i1 i2
   omega
  have e2 : ((newI l) : Int) = a := by
   have := ex_end (l := l) (i := i) (by omega)
   rw [this] at I3
   have i1 := I3.2.2.2.1
   have i2 := I3.2.2.2.2
   simp only [oldU, newU] at i1 i2
   omega
  exact .finE [.r []] [] (fun (z0, z1) => (.tup [VI z0, VI z1], [])) ((b : Int), (a : Int)) (((oldI l) : Int), ((newI l) : Int)) (pr e1 e2)

theorem fc_emptyR (c : Cell) : FC Tryz.prog 45 [.t (cellT c)] (app emp []) (VB (emptyC c)) (app emp []) := by
 refine .go Tryz.f45 ?_
 have e1 : ((emptyC c) : Bool) = ((seq c.text ({ data := #[] }) && (c.ref == 0)) && ((c.attrs.length : Int) == 0)) := by
  rfl
 exact .finE [.r [], .r [(5, Xv 1 (seq c.text ({ data := #[] })) X0), (6, Xv 1 (seq c.text ({ data := #[] })) X0), (7, X (Xk (seq c.text ({ data := #[] })))), (10, Xv 1 (seq c.text ({ data := #[] }) && (c.ref == 0)) X0), (11, Xv 1 (seq c.text ({ data := #[] }) && (c.ref == 0)) (Xl attrT c.attrs)), (12, Xv 1 (seq c.text ({ data := #[] }) && (c.ref == 0)) X0), (13, X (Xk (seq c.text ({ data := #[] }) && (c.ref == 0))))]] [] (fun z0 => (VB z0, [])) (((seq c.text ({ data := #[] }) && (c.ref == 0)) && ((c.attrs.length : Int) == 0)) : Bool) ((emptyC c) : Bool) e1

theorem fc_sameCellR (a b : Cell) : FC Tryz.prog 41 [.t (cellT a), .t (cellT b)] (app emp []) (VB (sameC a b)) (app emp []) := by
 refine .go Tryz.f41 ?_
 have e1 : ((sameC a b) : Bool) = (((((a.row == b.row) && (a.col == b.col)) && seq a.text b.text) && (a.ref == b.ref)) && (sameL a.attrs b.attrs)) := by
  rfl
 exact .finE [.r [], .r [(7, Xv 1 (a.row == b.row) X0), (9, Xv 1 (a.row == b.row) X0), (10, Xv 2 (a.row == b.row) X0), (11, X (Xk (a.row == b.row))), (14, Xv 1 ((a.row == b.row) && (a.col == b.col)) X0), (16, Xv 1 ((a.row == b.row) && (a.col == b.col)) X0), (17, Xv 2 ((a.row == b.row) && (a.col == b.col)) X0), (18, X (Xk ((a.row == b.row) && (a.col == b.col)))), (21, Xv 1 (((a.row == b.row) && (a.col == b.col)) && seq a.text b.text) X0), (23, Xv 1 (((a.row == b.row) && (a.col == b.col)) && seq a.text b.text) X0), (24, Xv 2 (((a.row == b.row) && (a.col == b.col)) && seq a.text b.text) X0), (25, X (Xk (((a.row == b.row) && (a.col == b.col)) && seq a.text b.text))), (28, Xv 1 ((((a.row == b.row) && (a.col == b.col)) && seq a.text b.text) && (a.ref == b.ref)) X0), (30, Xv 1 ((((a.row == b.row) && (a.col == b.col)) && seq a.text b.text) && (a.ref == b.ref)) X0), (31, Xv 2 ((((a.row == b.row) && (a.col == b.col)) && seq a.text b.text) && (a.ref == b.ref)) (Xc0 (fc_sameAttrs a.attrs b.attrs) X0)), (32, X (Xk ((((a.row == b.row) && (a.col == b.col)) && seq a.text b.text) && (a.ref == b.ref))))]] [] (fun z0 => (VB z0, [])) ((((((a.row == b.row) && (a.col == b.col)) && seq a.text b.text) && (a.ref == b.ref)) && (sameL a.attrs b.attrs)) : Bool) ((sameC a b) : Bool) e1

theorem fc_sameCells (a b : List Cell) : FC Tryz.prog 17 [VL 5 cellT a, VL 5 cellT b] (app emp []) (VB (sameCs a b)) (app emp []) := by
 refine .go Tryz.f17 ?_
 refine .len 0 (fun hl0 => ?_)
 refine .len 1 (fun hl1 => ?_)
 refine .br [.r [], .r [(1, X (Xl cellT a)), (3, X (Xl cellT b))]] ((a.length : Int) != (b.length : Int)) (fun h1 => ?_) (fun h1 => ?_)
 ·
  (try simp only [bne_iff_ne, bne_eq_false_iff_eq, ne_eq] at h1)
  have e1 : ((sameCs a b) : Bool) = false := by
   unfold sameCs; rw [if_neg (by omega)]
  exact .finE [.r []] [] (fun z0 => (VB z0, [])) (false : Bool) ((sameCs a b) : Bool) e1
 ·
  (try simp only [bne_iff_ne, bne_eq_false_iff_eq, ne_eq] at h1)
  refine .loop (α := Nat) [.r [(1, X (Xl cellT a))]] 72 (fun i => ([(0, VL 5 cellT a), (1, VL 5 cellT b), (12, VI (a.length : Int)), (13, VI (i : Int))], [])) (fun i => i ≤ a.length ∧ sameCells a b 0 = sameCells a b i) (fun i => a.length - i) (0 : Nat) ?_ ?_
  ·
   exact ⟨by omega, rfl⟩
  rintro i I4 ih4
  try dsimp only at I4
  refine .br [.r []] (decide ((i : Int) < (a.length : Int))) (fun h4 => ?_) (fun h4 => ?_)
  ·
   (try simp only [decide_eq_true_eq, decide_eq_false_iff_not, Int.not_lt, Int.not_le] at h4)
   refine .br [.r [], .r [(2, X (Xi cellT a (i : Int))), (6, X (Xi cellT b (i : Int))), (8, X (Xc0 (fc_sameCellR ((a.getD i default)) ((b.getD i default))) X0))]] (!(sameC ((a.getD i default)) ((b.getD i default)))) (fun h6 => ?_) (fun h6 => ?_)
   ·
    (try simp only [Bool.not_eq_true', Bool.not_eq_false'] at h6)
    have e2 : ((sameCs a b) : Bool) = false := by
     unfold sameCs; rw [if_pos (by omega), I4.2, sameCells, if_pos (by omega), if_neg]
     rw [h6]; decide
    exact .finE [.r []] [] (fun z0 => (VB z0, [])) (false : Bool) ((sameCs a b) : Bool) e2
   ·
    (try simp only [Bool.not_eq_true', Bool.not_eq_false'] at h6)
    refine .back [.r [(0, X (Xn ((i : Int) + 1)))]] [] (ih4 ((i + 1) : Nat) ?_ ?_)
    ·
     refine ⟨by omega, ?_⟩
     rw [I4.2, sameCells, if_pos (by omega), if_pos]
     exact h6
    ·
     ((try dsimp only); omega)
  ·
   (try simp only [decide_eq_true_eq, decide_eq_false_iff_not, Int.not_lt, Int.not_le] at h4)
   have e3 : ((sameCs a b) : Bool) = true := by
    unfold sameCs; rw [if_pos (by omega), I4.2, sameCells, if_neg (by omega)]
   exact .finE [.r []] [] (fun z0 => (VB z0, [])) (true : Bool) ((sameCs a b) : Bool) e3

theorem fc_sameRects (a b : List Rect) : FC Tryz.prog 32 [VL 4 rectT a, VL 4 rectT b] (app emp []) (VB (sameQs a b)) (app emp []) := by
 refine .go Tryz.f32 ?_
 refine .len 0 (fun hl0 => ?_)
 refine .len 1 (fun hl1 => ?_)
 refine .br [.r [], .r [(1, X (Xl rectT a)), (3, X (Xl rectT b))]] ((a.length : Int) != (b.length : Int)) (fun h1 => ?_) (fun h1 => ?_)
 ·
  (try simp only [bne_iff_ne, bne_eq_false_iff_eq, ne_eq] at h1)
  have e1 : ((sameQs a b) : Bool) = false := by
   unfold sameQs; rw [if_neg (by omega)]
  exact .finE [.r []] [] (fun z0 => (VB z0, [])) (false : Bool) ((sameQs a b) : Bool) e1
 ·
  (try simp only [bne_iff_ne, bne_eq_false_iff_eq, ne_eq] at h1)
  refine .loop (α := Nat) [.r [(1, X (Xl rectT a))]] 72 (fun i => ([(0, VL 4 rectT a), (1, VL 4 rectT b), (12, VI (a.length : Int)), (13, VI (i : Int))], [])) (fun i => i ≤ a.length ∧ sameRects a b 0 = sameRects a b i) (fun i => a.length - i) (0 : Nat) ?_ ?_
  ·
   exact ⟨by omega, rfl⟩
  rintro i I4 ih4
  try dsimp only at I4
  refine .br [.r []] (decide ((i : Int) < (a.length : Int))) (fun h4 => ?_) (fun h4 => ?_)
  ·
   (try simp only [decide_eq_true_eq, decide_eq_false_iff_not, Int.not_lt, Int.not_le] at h4)
   refine .br [.r [], .r [(2, X (Xi rectT a (i : Int))), (6, X (Xi rectT b (i : Int)))]] (!((((a.getD i default)).row) == (((b.getD i default)).row) && ((((a.getD i default)).col) == (((b.getD i default)).col) && ((((a.getD i default)).h) == (((b.getD i default)).h) && ((((a.getD i default)).w) == (((b.getD i default)).w) && true))))) (fun h6 => ?_) (fun h6 => ?_)
   ·
    (try simp only [Bool.not_eq_true', Bool.not_eq_false', Bool.and_eq_true, Bool.and_eq_false_iff, beq_iff_eq, beq_eq_false_iff_ne, ne_eq] at h6)
    have e2 : ((sameQs a b) : Bool) = false := by
     unfold sameQs; rw [if_pos (by omega), I4.2, sameRects, if_pos (by omega), if_neg]
     intro e; rw [e] at h6; simp at h6
    exact .finE [.r []] [] (fun z0 => (VB z0, [])) (false : Bool) ((sameQs a b) : Bool) e2
   ·
    (try simp only [Bool.not_eq_true', Bool.not_eq_false', Bool.and_eq_true, Bool.and_eq_false_iff, beq_iff_eq, beq_eq_false_iff_ne, ne_eq] at h6)
    refine .back [.r [(0, X (Xn ((i : Int) + 1)))]] [] (ih4 ((i + 1) : Nat) ?_ ?_)
    ·
     refine ⟨by omega, ?_⟩
     rw [I4.2, sameRects, if_pos (by omega), if_pos]
     refine rect_ext ?_ ?_ ?_ ?_ <;> omega
    ·
     ((try dsimp only); omega)
  ·
   (try simp only [decide_eq_true_eq, decide_eq_false_iff_not, Int.not_lt, Int.not_le] at h4)
   have e3 : ((sameQs a b) : Bool) = true := by
    unfold sameQs; rw [if_pos (by omega), I4.2, sameRects, if_neg (by omega)]
   exact .finE [.r []] [] (fun z0 => (VB z0, [])) (true : Bool) ((sameQs a b) : Bool) e3

theorem fc_sameGrid (a b : Grid) : FC Tryz.prog 13 [.t (gridT a), .t (gridT b)] (app emp []) (VB (sameG a b)) (app emp []) := by
 refine .go Tryz.f13 ?_
 have e1 : ((sameG a b) : Bool) = ((((a.rows == b.rows) && (a.cols == b.cols)) && (sameCs a.cells b.cells)) && (sameQs a.merges b.merges)) := by
  rfl
 exact .finE [.r [], .r [(7, Xv 1 (a.rows == b.rows) X0), (9, Xv 1 (a.rows == b.rows) X0), (10, Xv 2 (a.rows == b.rows) X0), (11, X (Xk (a.rows == b.rows))), (14, Xv 1 ((a.rows == b.rows) && (a.cols == b.cols)) X0), (16, Xv 1 ((a.rows == b.rows) && (a.cols == b.cols)) X0), (17, Xv 2 ((a.rows == b.rows) && (a.cols == b.cols)) (Xc0 (fc_sameCells a.cells b.cells) X0)), (18, X (Xk ((a.rows == b.rows) && (a.cols == b.cols)))), (21, Xv 1 (((a.rows == b.rows) && (a.cols == b.cols)) && (sameCs a.cells b.cells)) X0), (23, Xv 1 (((a.rows == b.rows) && (a.cols == b.cols)) && (sameCs a.cells b.cells)) X0), (24, Xv 2 (((a.rows == b.rows) && (a.cols == b.cols)) && (sameCs a.cells b.cells)) (Xc0 (fc_sameRects a.merges b.merges) X0)), (25, X (Xk (((a.rows == b.rows) && (a.cols == b.cols)) && (sameCs a.cells b.cells))))]] [] (fun z0 => (VB z0, [])) (((((a.rows == b.rows) && (a.cols == b.cols)) && (sameCs a.cells b.cells)) && (sameQs a.merges b.merges)) : Bool) ((sameG a b) : Bool) e1

theorem fc_small (x : Grid) (e : GEd) (h1 : Valid e.rows) (h2 : Valid e.cols) : FC Tryz.prog 7 [.t (gridT x), .t (gedT e)] (app emp []) (VB (smallB x e)) (app emp []) := by
 refine .go Tryz.f7 ?_
 have e1 : ((smallB x e) : Bool) = (((decide (x.rows ≤ 30) && decide (x.cols ≤ 30)) && decide ((sumN e.rows) ≤ 60)) && decide ((sumN e.cols) ≤ 60)) := by
  rfl
 exact .finE [.r [], .r [(5, Xv 1 (decide (x.rows ≤ 30)) X0), (6, Xv 1 (decide (x.rows ≤ 30)) X0), (7, X (Xk (decide (x.rows ≤ 30)))), (10, Xv 1 (decide (x.rows ≤ 30) && decide (x.cols ≤ 30)) X0), (11, Xv 1 (decide (x.rows ≤ 30) && decide (x.cols ≤ 30)) (Xc0 (fc_axisSize e.rows (by assumption)) X0)), (12, Xv 1 (decide (x.rows ≤ 30) && decide (x.cols ≤ 30)) X0), (13, X (Xk (decide (x.rows ≤ 30) && decide (x.cols ≤ 30)))), (16, Xv 1 ((decide (x.rows ≤ 30) && decide (x.cols ≤ 30)) && decide ((sumN e.rows) ≤ 60)) X0), (17, Xv 1 ((decide (x.rows ≤ 30) && decide (x.cols ≤ 30)) && decide ((sumN e.rows) ≤ 60)) (Xc0 (fc_axisSize e.cols (by assumption)) X0)), (18, Xv 1 ((decide (x.rows ≤ 30) && decide (x.cols ≤ 30)) && decide ((sumN e.rows) ≤ 60)) X0), (19, X (Xk ((decide (x.rows ≤ 30) && decide (x.cols ≤ 30)) && decide ((sumN e.rows) ≤ 60))))]] [] (fun z0 => (VB z0, [])) ((((decide (x.rows ≤ 30) && decide (x.cols ≤ 30)) && decide ((sumN e.rows) ≤ 60)) && decide ((sumN e.cols) ≤ 60)) : Bool) ((smallB x e) : Bool) e1

theorem fc_lies (r : Rect) (m n : Int) (hb : 0 ≤ m ∧ m ≤ 1000000000000 ∧ 0 ≤ n ∧ n ≤ 1000000000000) : FC Tryz.prog 21 [.t (rectT r), VI m, VI n] (app emp []) (VB (insB r m n)) (app emp []) := by
 refine .go Tryz.f21 ?_
 have e1 : ((insB r m n) : Bool) = ((((decide (0 ≤ r.row ∧ r.row ≤ (m - 1))) && (decide (0 ≤ r.col ∧ r.col ≤ (n - 1)))) && (decide (1 ≤ r.h ∧ r.h ≤ (m - r.row)))) && (decide (1 ≤ r.w ∧ r.w ≤ (n - r.col)))) := by
  rw [lies_eq (by omega) (by omega)]; rw [Bool.eq_iff_iff]; simp; try omega
 exact .finE [.r [], .r [(3, X (Xn (m - 1))), (4, X (Xc0 (fc_in r.row 0 (m - 1)) X0)), (7, Xv 1 (decide (0 ≤ r.row ∧ r.row ≤ (m - 1))) X0), (9, Xv 1 (decide (0 ≤ r.row ∧ r.row ≤ (m - 1))) (Xn (n - 1))), (10, Xv 2 (decide (0 ≤ r.row ∧ r.row ≤ (m - 1))) (Xc0 (fc_in r.col 0 (n - 1)) X0)), (11, X (Xk (decide (0 ≤ r.row ∧ r.row ≤ (m - 1))))), (14, Xv 1 ((decide (0 ≤ r.row ∧ r.row ≤ (m - 1))) && (decide (0 ≤ r.col ∧ r.col ≤ (n - 1)))) X0), (17, Xv 1 ((decide (0 ≤ r.row ∧ r.row ≤ (m - 1))) && (decide (0 ≤ r.col ∧ r.col ≤ (n - 1)))) X0), (18, Xv 2 ((decide (0 ≤ r.row ∧ r.row ≤ (m - 1))) && (decide (0 ≤ r.col ∧ r.col ≤ (n - 1)))) (Xn (m - r.row))), (19, Xv 2 ((decide (0 ≤ r.row ∧ r.row ≤ (m - 1))) && (decide (0 ≤ r.col ∧ r.col ≤ (n - 1)))) (Xc0 (fc_in r.h 1 (m - r.row)) X0)), (20, X (Xk ((decide (0 ≤ r.row ∧ r.row ≤ (m - 1))) && (decide (0 ≤ r.col ∧ r.col ≤ (n - 1)))))), (23, Xv 1 (((decide (0 ≤ r.row ∧ r.row ≤ (m - 1))) && (decide (0 ≤ r.col ∧ r.col ≤ (n - 1)))) && (decide (1 ≤ r.h ∧ r.h ≤ (m - r.row)))) X0), (26, Xv 1 (((decide (0 ≤ r.row ∧ r.row ≤ (m - 1))) && (decide (0 ≤ r.col ∧ r.col ≤ (n - 1)))) && (decide (1 ≤ r.h ∧ r.h ≤ (m - r.row)))) X0), (27, Xv 2 (((decide (0 ≤ r.row ∧ r.row ≤ (m - 1))) && (decide (0 ≤ r.col ∧ r.col ≤ (n - 1)))) && (decide (1 ≤ r.h ∧ r.h ≤ (m - r.row)))) (Xn (n - r.col))), (28, Xv 2 (((decide (0 ≤ r.row ∧ r.row ≤ (m - 1))) && (decide (0 ≤ r.col ∧ r.col ≤ (n - 1)))) && (decide (1 ≤ r.h ∧ r.h ≤ (m - r.row)))) (Xc0 (fc_in r.w 1 (n - r.col)) X0)), (29, X (Xk (((decide (0 ≤ r.row ∧ r.row ≤ (m - 1))) && (decide (0 ≤ r.col ∧ r.col ≤ (n - 1)))) && (decide (1 ≤ r.h ∧ r.h ≤ (m - r.row))))))]] [] (fun z0 => (VB z0, [])) (((((decide (0 ≤ r.row ∧ r.row ≤ (m - 1))) && (decide (0 ≤ r.col ∧ r.col ≤ (n - 1)))) && (decide (1 ≤ r.h ∧ r.h ≤ (m - r.row)))) && (decide (1 ≤ r.w ∧ r.w ≤ (n - r.col)))) : Bool) ((insB r m n) : Bool) e1

theorem fc_share (a b : Rect) (ha : RB a) (hb : RB b) : FC Tryz.prog 22 [.t (rectT a), .t (rectT b)] (app emp []) (VB (shareB a b)) (app emp []) := by
 refine .go Tryz.f22 ?_
 unfold RB at ha hb
 have e1 : ((shareB a b) : Bool) = (decide ((max a.row b.row) < (min (a.row + a.h) (b.row + b.h))) && decide ((max a.col b.col) < (min (a.col + a.w) (b.col + b.w)))) := by
  rfl
 exact .finE [.r [], .r [(4, X (Xmax a.row b.row)), (9, X (Xmax a.col b.col))], .r [(5, X (Xn (a.row + a.h))), (10, X (Xn (b.row + b.h))), (11, X (Xmin (a.row + a.h) (b.row + b.h))), (16, Xv 1 (decide ((max a.row b.row) < (min (a.row + a.h) (b.row + b.h)))) X0), (18, Xv 1 (decide ((max a.row b.row) < (min (a.row + a.h) (b.row + b.h)))) X0), (19, Xv 2 (decide ((max a.row b.row) < (min (a.row + a.h) (b.row + b.h)))) (Xn (a.col + a.w))), (21, Xv 1 (decide ((max a.row b.row) < (min (a.row + a.h) (b.row + b.h)))) X0), (23, Xv 1 (decide ((max a.row b.row) < (min (a.row + a.h) (b.row + b.h)))) X0), (24, Xv 2 (decide ((max a.row b.row) < (min (a.row + a.h) (b.row + b.h)))) (Xn (b.col + b.w))), (25, Xv 2 (decide ((max a.row b.row) < (min (a.row + a.h) (b.row + b.h)))) (Xmin (a.col + a.w) (b.col + b.w))), (26, Xv 2 (decide ((max a.row b.row) < (min (a.row + a.h) (b.row + b.h)))) X0), (27, X (Xk (decide ((max a.row b.row) < (min (a.row + a.h) (b.row + b.h))))))]] [] (fun z0 => (VB z0, [])) ((decide ((max a.row b.row) < (min (a.row + a.h) (b.row + b.h))) && decide ((max a.col b.col) < (min (a.col + a.w) (b.col + b.w)))) : Bool) ((shareB a b) : Bool) e1
end Go.Ch
end
section
set_option linter.unusedVariables false
set_option linter.unusedSimpArgs false
namespace Go.Ch
open Go Go.Ab

def decR (u : ByteArray) : Int := ((Lib.decodeGo u).1 : Int)
def decW (u : ByteArray) : Nat := (Lib.decodeGo u).2
theorem decW_bd {u : ByteArray} (h : 0 < u.size) : 1 ≤ decW u ∧ decW u ≤ u.size := by
  unfold decW Lib.decodeGo
  rw [if_neg (by omega)]
  have hl : u.data.toList.length = u.size := by rw [Array.length_toList]; rfl
  rw [Lib.decode_N]
  have h1 := Lib.decodeN_ge1 (u.data.toList.length - 0) (u.data.toList.getD 0 0).toNat (u.data.toList.getD (0 + 1) 0).toNat (u.data.toList.getD (0 + 2) 0).toNat (u.data.toList.getD (0 + 3) 0).toNat
  have h2 := Lib.decodeN_width_le (u.data.toList.length - 0) (u.data.toList.getD 0 0).toNat (u.data.toList.getD (0 + 1) 0).toNat (u.data.toList.getD (0 + 2) 0).toNat (u.data.toList.getD (0 + 3) 0).toNat (by omega)
  omega
theorem decR_bd (u : ByteArray) : 0 ≤ decR u ∧ decR u ≤ 1114111 := by
  unfold decR Lib.decodeGo
  split
  · decide
  · have := Lib.rune_le u 0; omega
def badT (u : ByteArray) : Prop := (decR u = 65533 ∧ decW u = 1) ∨ decR u = 10 ∨ ¬ CharP (decR u)
instance (u : ByteArray) : Decidable (badT u) := by unfold badT CharP; infer_instance
/-- A string that can be the text of a cell. -/
def textG (u : ByteArray) : Bool := if h : 0 < u.size then (if badT u then false else textG (u.extract (decW u) u.size)) else true
termination_by u.size
decreasing_by
  have := decW_bd h
  rw [ByteArray.size_extract]
  omega
theorem textG_bad {u : ByteArray} (h : 0 < u.size) (hb : badT u) : textG u = false := by rw [textG, dif_pos h, if_pos hb]
theorem textG_go {u : ByteArray} (h : 0 < u.size) (hb : ¬ badT u) : textG u = textG (u.extract (decW u) u.size) := by
  conv => lhs; rw [textG]
  rw [dif_pos h, if_neg hb]
theorem textG_end {u : ByteArray} (h : ¬ 0 < u.size) : textG u = true := by rw [textG, dif_neg h]
theorem u_len (u : ByteArray) : u.data.toList.length = u.size := by rw [Array.length_toList]; rfl
theorem decL_eq {u : ByteArray} (h : 0 < u.size) : Lib.decodeL u.data.toList = Lib.decodeGo u := by
  unfold Lib.decodeL Lib.decodeGo
  rw [if_neg (by omega)]
theorem valid_at {u : ByteArray} (h : 0 < u.size) : Lib.validD u.data.toList = if decR u = 65533 ∧ decW u = 1 then false else Lib.validD (u.extract (decW u) u.size).data.toList := by
  have hne : u.data.toList ≠ [] := by
    intro e
    have := u_len u
    rw [e] at this
    simp at this; omega
  rw [Lib.validD_step _ hne, decL_eq h, Lib.ext_list]
  unfold decR decW
  have : ((Lib.decodeGo u).1 = 65533 ∧ (Lib.decodeGo u).2 = 1) ↔ (((Lib.decodeGo u).1 : Int) = 65533 ∧ (Lib.decodeGo u).2 = 1) := by omega
  simp only [this]
theorem text_valid : ∀ (n : Nat) (u : ByteArray), u.size = n → Lib.validD u.data.toList = false → textG u = false := by
  intro n
  induction n using Nat.strongRecOn with
  | ind n ih =>
    intro u hn hv
    by_cases h : 0 < u.size
    · rw [valid_at h] at hv
      split at hv
      · rename_i hb
        exact textG_bad h (.inl hb)
      · by_cases hb : badT u
        · exact textG_bad h hb
        · rw [textG_go h hb]
          have := decW_bd h
          exact ih (u.extract (decW u) u.size).size (by rw [ByteArray.size_extract]; omega) _ rfl hv
    · exfalso
      have : u.data.toList = [] := List.length_eq_zero_iff.1 (by rw [u_len]; omega)
      rw [this, Lib.validD_nil] at hv
      cases hv
/-- The rest of a string, from a place on. -/
def tailG (u : ByteArray) (p : Nat) : ByteArray := u.extract p u.size
theorem tailG_size (u : ByteArray) (p : Nat) (h : p ≤ u.size) : (tailG u p).size = u.size - p := by unfold tailG; rw [ByteArray.size_extract]; omega
theorem dec_tail {u : ByteArray} {p : Nat} (h : p < u.size) : Utf8.decode u p = Lib.decodeGo (tailG u p) := by
  have hx : (tailG u p).data.toList = u.data.toList.drop p := Lib.ext_list u p
  have hsz : (tailG u p).size ≠ 0 := by rw [tailG_size u p (by omega)]; omega
  unfold Lib.decodeGo
  rw [if_neg hsz, ← Lib.decodeL_drop u p, ← hx]
  rfl
theorem tail_tail (u : ByteArray) (p w : Nat) (h : p ≤ u.size) : (tailG u p).extract w (tailG u p).size = tailG u (p + w) := by
  unfold tailG
  apply ByteArray.ext
  simp only [ByteArray.data_extract, ByteArray.size_extract]
  rw [Array.extract_extract]
  congr 1 <;> omega
theorem tail0 (u : ByteArray) : tailG u 0 = u := by
  unfold tailG
  exact ByteArray.extract_zero_size
/-- What the loop over the characters keeps. -/
structure CtI (u : ByteArray) (p : Nat) : Prop where
  le : p ≤ u.size
  val : Lib.validD (tailG u p).data.toList = true
  eq : textG u = textG (tailG u p)
theorem CtI.start {u : ByteArray} (h : Lib.validD u.data.toList = true) : CtI u 0 := ⟨Nat.zero_le _, by rw [tail0]; exact h, by rw [tail0]⟩
theorem CtI.done {u : ByteArray} {p : Nat} (h : CtI u p) (hp : ¬ p < u.size) : textG u = true := by
  rw [h.eq]; exact textG_end (by rw [tailG_size u p h.le]; omega)
theorem CtI.next {u : ByteArray} {p : Nat} (h : CtI u p) (hp : p < u.size) : p < p + (Utf8.decode u p).2 ∧ p + (Utf8.decode u p).2 ≤ u.size ∧ 0 ≤ ((Utf8.decode u p).1 : Int) ∧ ((Utf8.decode u p).1 : Int) ≤ 1114111 ∧
    (((Utf8.decode u p).1 : Int) = 10 ∨ ¬ CharP ((Utf8.decode u p).1 : Int) → textG u = false) ∧ (¬ ((Utf8.decode u p).1 : Int) = 10 → CharP ((Utf8.decode u p).1 : Int) → CtI u (p + (Utf8.decode u p).2)) := by
  have hs := tailG_size u p h.le
  have h0 : 0 < (tailG u p).size := by omega
  rw [dec_tail hp]
  have hw := decW_bd h0
  have hr := decR_bd (tailG u p)
  have hv := h.val
  rw [valid_at h0] at hv
  split at hv
  · cases hv
  · rename_i hb
    have e1 : ((Lib.decodeGo (tailG u p)).1 : Int) = decR (tailG u p) := rfl
    have e2 : (Lib.decodeGo (tailG u p)).2 = decW (tailG u p) := rfl
    rw [e1, e2]
    refine ⟨by omega, by omega, hr.1, hr.2, fun q => ?_, fun q1 q2 => ?_⟩
    · rw [h.eq]; exact textG_bad h0 (.inr q)
    · have hn : ¬ badT (tailG u p) := fun q => by
        rcases q with q | q | q
        · exact hb q
        · exact q1 q
        · exact q q2
      refine ⟨by omega, ?_, ?_⟩
      · rw [← tail_tail u p _ h.le]; exact hv
      · rw [← tail_tail u p _ h.le, h.eq, textG_go h0 hn]
end Go.Ch
end
section
set_option linter.unusedVariables false
namespace Go.Ch
open Go Go.Ab

theorem ordC_def (a b : Cell) : ordC a b = if a.row < b.row then -1 else if a.row > b.row then 1 else if a.col < b.col then -1 else if a.col > b.col then 1 else 0 := by
  unfold ordC
  simp only [orL]
  unfold cmpI
  by_cases h1 : a.row < b.row
  · rw [if_pos h1, if_pos (by decide), if_pos h1]
  · rw [if_neg h1, if_neg h1]
    by_cases h2 : a.row > b.row
    · rw [if_pos h2, if_pos (by decide), if_pos h2]
    · rw [if_neg h2, if_neg (by decide), if_neg h2]
      by_cases h3 : a.col < b.col
      · rw [if_pos h3, if_pos (by decide)]
      · rw [if_neg h3]
        by_cases h4 : a.col > b.col
        · rw [if_pos h4, if_pos (by decide)]
        · rw [if_neg h4, if_neg (by decide)]
theorem ordC_lt {a b : Cell} : ordC a b < 0 ↔ a.row < b.row ∨ (a.row = b.row ∧ a.col < b.col) := by
  rw [ordC_def]; repeat' split
  all_goals omega
theorem ordC_ge {a b : Cell} : 0 ≤ ordC a b ↔ b.row < a.row ∨ (b.row = a.row ∧ b.col ≤ a.col) := by
  rw [ordC_def]; repeat' split
  all_goals omega
theorem ordC_eq {a b : Cell} : ordC a b = 0 ↔ a.row = b.row ∧ a.col = b.col := by
  rw [ordC_def]; repeat' split
  all_goals omega
def cellE (c : Cell) (m n : Int) (none : Bool) : Int :=
  if c.row < 0 ∨ m ≤ c.row ∨ c.col < 0 ∨ n ≤ c.col then 2
  else if c.ref < 0 ∨ 1073741824 < c.ref then 2
  else if textG c.text = false then 23
  else if ¬ chkA false c.attrs 0 = 0 then chkA false c.attrs 0
  else if emptyC c = true ∧ none = false then 4 else 0
def cellsE (l : List Cell) (m n : Int) (none : Bool) (i : Nat) : Int :=
  if i < l.length then
    (if ¬ cellE (l.getD i default) m n none = 0 then cellE (l.getD i default) m n none
     else if 0 < i ∧ 0 ≤ ordC (l.getD (i - 1) default) (l.getD i default) then 5 else cellsE l m n none (i + 1))
  else 0
termination_by l.length - i
/-- Strings and lists of a cell are of a size that there can be. -/
def SzC (l : List Cell) : Prop := ∀ c ∈ l, c.text.size ≤ 9223372036854775807 ∧ Szd c.attrs
theorem SzC.at_ {l : List Cell} (h : SzC l) {i : Nat} (hi : i < l.length) : (l.getD i default).text.size ≤ 9223372036854775807 ∧ Szd (l.getD i default).attrs := h _ (getDX_mem hi)
/-! ### Rectangles -/
def anyM (l : List Rect) (r : Rect) : Bool := l.any (fun q => meetB q r)
def mergE (l : List Rect) (m n : Int) (i : Nat) : Int :=
  if i < l.length then
    (if insB (l.getD i default) m n = false then 2
     else if (l.getD i default).h = 1 ∧ (l.getD i default).w = 1 then 4
     else if 0 < i ∧ befB (l.getD (i - 1) default) (l.getD i default) = false then 5
     else if anyM (l.take i) (l.getD i default) = true then 21
     else mergE l m n (i + 1))
  else 0
termination_by l.length - i
def gridE (g : Grid) : Int :=
  if g.rows < 0 ∨ 2147483647 < g.rows ∨ g.cols < 0 ∨ 2147483647 < g.cols then 2
  else if ¬ cellsE g.cells g.rows g.cols false 0 = 0 then cellsE g.cells g.rows g.cols false 0
  else mergE g.merges g.rows g.cols 0
/-- The index of the first element with a property. -/
def idxF {α : Type} [Inhabited α] (p : α → Bool) (l : List α) (i : Nat) : Int := if i < l.length then (if p (l.getD i default) = true then (i : Int) else idxF p l (i + 1)) else -1
termination_by l.length - i
theorem idxF_ge {α : Type} [Inhabited α] (p : α → Bool) {l : List α} : ∀ (n i : Nat), l.length - i = n → (0 ≤ idxF p l i ↔ (l.drop i).any p = true)
  | 0, i, h => by rw [idxF, if_neg (by omega), List.drop_eq_nil_of_le (by omega)]; simp
  | n + 1, i, h => by
    have hi : i < l.length := by omega
    rw [idxF, if_pos hi, drop_succD hi, List.any_cons]
    by_cases hp : p (l.getD i default) = true
    · rw [if_pos hp, hp]; simp
    · rw [if_neg hp, idxF_ge p n (i + 1) (by omega)]
      simp only [Bool.not_eq_true] at hp
      rw [hp, Bool.false_or]
theorem idxF_any {α : Type} [Inhabited α] (p : α → Bool) (l : List α) : (0 ≤ idxF p l 0) = ((l.any p) = true) := propext (by rw [idxF_ge p _ 0 rfl, List.drop_zero])
def AllRB (l : List Rect) : Prop := ∀ q ∈ l, RB q
theorem insB_iff {r : Rect} {m n : Int} : insB r m n = true ↔ 0 ≤ r.row ∧ 0 ≤ r.col ∧ 1 ≤ r.h ∧ 1 ≤ r.w ∧ r.row < m ∧ r.col < n ∧ r.h ≤ m - r.row ∧ r.w ≤ n - r.col := by
  unfold insB; rw [decide_eq_true_eq]
theorem RB_ins {r : Rect} {m n : Int} (h : insB r m n = true) (hm : m ≤ 1000000000000) (hn : n ≤ 1000000000000) : RB r := by
  have := insB_iff.1 h
  unfold RB; omega
theorem befB_iff {a b : Rect} : befB a b = true ↔ a.row < b.row ∨ (a.row = b.row ∧ a.col < b.col) := by unfold befB; rw [decide_eq_true_eq]
theorem bef_f {a b : Rect} : befB a b = false ↔ b.row < a.row ∨ (b.row = a.row ∧ b.col ≤ a.col) := by unfold befB; rw [decide_eq_false_iff_not]; omega
theorem meetB_iff {a b : Rect} : meetB a b = true ↔ a.row < b.row + b.h ∧ b.row < a.row + a.h ∧ a.col < b.col + b.w ∧ b.col < a.col + a.w := by unfold meetB; rw [decide_eq_true_eq]
theorem meetB_comm (a b : Rect) : meetB a b = meetB b a := by
  rw [Bool.eq_iff_iff, meetB_iff, meetB_iff]; omega
/-- All of the first rectangles lie within. -/
def InsTo (l : List Rect) (m n : Int) (i : Nat) : Prop := ∀ k, k < i → insB (l.getD k default) m n = true
theorem InsTo.all {l : List Rect} {m n : Int} {i : Nat} (h : InsTo l m n i) (hi : i ≤ l.length) (hm : m ≤ 1000000000000) (hn : n ≤ 1000000000000) : AllRB (l.take i) := fun q hq => by
  obtain ⟨k, hk, rfl⟩ := List.mem_iff_getElem.1 hq
  have h2 : k < i := by rw [List.length_take] at hk; omega
  have := RB_ins (h k h2) hm hn
  rw [List.getElem_take]
  rwa [List.getD_eq_getElem?_getD, List.getElem?_eq_getElem (by omega)] at this
theorem InsTo.succ {l : List Rect} {m n : Int} {i : Nat} (h : InsTo l m n i) (h2 : insB (l.getD i default) m n = true) : InsTo l m n (i + 1) := fun k hk => by
  by_cases e : k = i
  · rw [e]; exact h2
  · exact h k (by omega)
theorem anyM_take {l : List Rect} {r : Rect} {i : Nat} : anyM (l.take i) r = true ↔ ∃ k, k < i ∧ k < l.length ∧ meetB (l.getD k default) r = true := by
  unfold anyM
  rw [List.any_eq_true]
  constructor
  · rintro ⟨q, hq, hm⟩
    obtain ⟨k, hk, rfl⟩ := List.mem_iff_getElem.1 hq
    rw [List.length_take] at hk
    rw [List.getElem_take] at hm
    refine ⟨k, by omega, by omega, ?_⟩
    rwa [List.getD_eq_getElem?_getD, List.getElem?_eq_getElem (by omega)]
  · rintro ⟨k, h1, h2, hm⟩
    refine ⟨l.getD k default, ?_, hm⟩
    have : (l.take i).getD k default ∈ l.take i := getDX_mem (by rw [List.length_take]; omega)
    rwa [List.getD_eq_getElem?_getD, List.getElem?_take_of_lt h1, ← List.getD_eq_getElem?_getD] at this
end Go.Ch
end
section
namespace Go.Proofs
open Go.Shelf
def Tryz.lays128_ren : Go.Shelf.Ren := ⟨fun | 128 => 105 | n => n, fun | 51 => 150 | 3 => 3 | 4 => 4 | 46 => 128 | 5 => 5 | 9 => 9 | n => n, fun | n => n⟩
def Tryz.lays125_ren : Go.Shelf.Ren := ⟨fun | 125 => 86 | 128 => 105 | 129 => 106 | n => n, fun | 46 => 128 | 3 => 3 | 51 => 150 | 53 => 152 | 4 => 4 | 5 => 5 | 9 => 9 | n => n, fun | n => n⟩
def Tryz.lays215_ren : Go.Shelf.Ren := ⟨fun | 215 => 87 | n => n, fun | 3 => 3 | 4 => 4 | n => n, fun | n => n⟩
def Tryz.lays122_ren : Go.Shelf.Ren := ⟨fun | 122 => 62 | 215 => 87 | n => n, fun | 3 => 3 | 4 => 4 | n => n, fun | n => n⟩
def Tryz.lays129_ren : Go.Shelf.Ren := ⟨fun | 129 => 106 | n => n, fun | 53 => 152 | 3 => 3 | 4 => 4 | 46 => 128 | 5 => 5 | 9 => 9 | n => n, fun | n => n⟩
def Tryz.lays197_ren : Go.Shelf.Ren := ⟨fun | 197 => 108 | 260 => 116 | n => n, fun | 9 => 9 | 21 => 21 | 3 => 3 | 4 => 4 | 5 => 5 | 105 => 153 | 119 => 138 | 0 => 0 | 46 => 128 | 139 => 141 | 138 => 140 | n => n, fun | 3 => 0 | 4 => 1 | n => n⟩
theorem Tryz.lays197 : Go.Proofs.Lays.n197 Tryz.prog Tryz.lays197_ren := {
  mixed := by kernel_rfl
  f197 := Tryz.func108.trans (congrArg some (by kernel_rfl))
  f260 := Tryz.func116.trans (congrArg some (by kernel_rfl))
  t0 := Tryz.underlying0
  a0 := Tryz.isAgg0
  z0 := Tryz.sizeOf0
  v0 := Tryz.zeroValue0
  t3 := Tryz.underlying3
  a3 := Tryz.isAgg3
  z3 := Tryz.sizeOf3
  v3 := Tryz.zeroValue3
  t4 := Tryz.underlying4
  a4 := Tryz.isAgg4
  z4 := Tryz.sizeOf4
  v4 := Tryz.zeroValue4
  t5 := Tryz.underlying5
  a5 := Tryz.isAgg5
  z5 := Tryz.sizeOf5
  v5 := Tryz.zeroValue5
  t9 := Tryz.underlying9
  a9 := Tryz.isAgg9
  z9 := Tryz.sizeOf9
  v9 := Tryz.zeroValue9
  t21 := Tryz.underlying21
  a21 := Tryz.isAgg21
  z21 := Tryz.sizeOf21
  v21 := Tryz.zeroValue21
  t46 := Tryz.underlying128
  a46 := Tryz.isAgg128
  z46 := Tryz.sizeOf128
  v46 := Tryz.zeroValue128
  t105 := Tryz.underlying153
  a105 := Tryz.isAgg153
  z105 := Tryz.sizeOf153
  v105 := Tryz.zeroValue153
  t119 := Tryz.underlying138
  a119 := Tryz.isAgg138
  z119 := Tryz.sizeOf138
  t138 := Tryz.underlying140
  a138 := Tryz.isAgg140
  z138 := Tryz.sizeOf140
  v138 := Tryz.zeroValue140
  t139 := Tryz.underlying141
  a139 := Tryz.isAgg141
  z139 := Tryz.sizeOf141
  v139 := Tryz.zeroValue141
  g3 := by kernel_rfl
  g4 := by kernel_rfl }
def Tryz.lays260_ren : Go.Shelf.Ren := ⟨fun | 260 => 116 | n => n, fun | 9 => 9 | 21 => 21 | 3 => 3 | 4 => 4 | 5 => 5 | 119 => 138 | 0 => 0 | 46 => 128 | 139 => 141 | 138 => 140 | n => n, fun | 3 => 0 | 4 => 1 | n => n⟩
theorem Tryz.lays260 : Go.Proofs.Lays.n260 Tryz.prog Tryz.lays260_ren := {
  mixed := by kernel_rfl
  f260 := Tryz.func116.trans (congrArg some (by kernel_rfl))
  t0 := Tryz.underlying0
  a0 := Tryz.isAgg0
  z0 := Tryz.sizeOf0
  v0 := Tryz.zeroValue0
  t3 := Tryz.underlying3
  a3 := Tryz.isAgg3
  z3 := Tryz.sizeOf3
  v3 := Tryz.zeroValue3
  t4 := Tryz.underlying4
  a4 := Tryz.isAgg4
  z4 := Tryz.sizeOf4
  v4 := Tryz.zeroValue4
  t5 := Tryz.underlying5
  a5 := Tryz.isAgg5
  z5 := Tryz.sizeOf5
  v5 := Tryz.zeroValue5
  t9 := Tryz.underlying9
  a9 := Tryz.isAgg9
  z9 := Tryz.sizeOf9
  v9 := Tryz.zeroValue9
  t21 := Tryz.underlying21
  a21 := Tryz.isAgg21
  z21 := Tryz.sizeOf21
  v21 := Tryz.zeroValue21
  t46 := Tryz.underlying128
  a46 := Tryz.isAgg128
  z46 := Tryz.sizeOf128
  v46 := Tryz.zeroValue128
  t119 := Tryz.underlying138
  a119 := Tryz.isAgg138
  z119 := Tryz.sizeOf138
  t138 := Tryz.underlying140
  a138 := Tryz.isAgg140
  z138 := Tryz.sizeOf140
  v138 := Tryz.zeroValue140
  t139 := Tryz.underlying141
  a139 := Tryz.isAgg141
  z139 := Tryz.sizeOf141
  v139 := Tryz.zeroValue141
  g3 := by kernel_rfl
  g4 := by kernel_rfl }
open Go.RowKit Go.Lib in
/-- **unicode/utf8.DecodeRuneInString AT EVERY STRING.** (LAID: no walk: one application.) -/
theorem Tryz.utf8_DecodeRuneInString (s : ByteArray) (w : World) (hT : Lib.Utf8Tabs 0 1 w) :
    Calls Tryz.prog 108 #[.string s] w fun e w' => e = .returned (.tuple #[.int .i32 (Lib.decodeGo s).1, .int .i64 (Lib.decodeGo s).2]) ∧ Below w.heap.size w w' := Any.utf8_DecodeRuneInString Tryz.lays197 s w hT
def Tryz.laysNm237_ren : Go.Shelf.Ren := ⟨fun | 37 => 87 | n => n, fun | 3 => 3 | 4 => 4 | n => n, fun | n => n⟩
theorem Tryz.laysNm237 : Go.Proofs.Lays2.n37 Tryz.prog Tryz.laysNm237_ren := {
  mixed := by kernel_rfl
  f37 := Tryz.func87.trans (congrArg some (by kernel_rfl))
  t3 := Tryz.underlying3
  a3 := Tryz.isAgg3
  z3 := Tryz.sizeOf3
  v3 := Tryz.zeroValue3
  t4 := Tryz.underlying4
  a4 := Tryz.isAgg4
  z4 := Tryz.sizeOf4
  v4 := Tryz.zeroValue4 }
open Go.RowKit Go.Lib in
/-- cmp.isNaN[int]: 'x != x': false. (LAID: no walk: one application.) -/
theorem Tryz.cmp_isNaN_int2 (x : Int) (w : World) :
    Calls Tryz.prog 87 #[.int .i64 x] w fun e w' => e = .returned (.bool false) ∧ w' = w := Any.cmp_isNaN_int2 Tryz.laysNm237 x w
def Tryz.laysValid_ren : Go.Shelf.Ren := ⟨fun | 196 => 74 | 259 => 96 | n => n, fun | 9 => 9 | 4 => 4 | 3 => 3 | 5 => 5 | 12 => 12 | 119 => 138 | 0 => 0 | 46 => 128 | 139 => 141 | 138 => 140 | 53 => 152 | n => n, fun | 3 => 0 | 4 => 1 | n => n⟩
theorem Tryz.laysValid : Go.Proofs.Lays.n196 Tryz.prog Tryz.laysValid_ren := {
  mixed := by kernel_rfl
  f196 := Tryz.func74.trans (congrArg some (by kernel_rfl))
  f259 := Tryz.func96.trans (congrArg some (by kernel_rfl))
  t0 := Tryz.underlying0
  a0 := Tryz.isAgg0
  z0 := Tryz.sizeOf0
  v0 := Tryz.zeroValue0
  t3 := Tryz.underlying3
  a3 := Tryz.isAgg3
  z3 := Tryz.sizeOf3
  v3 := Tryz.zeroValue3
  t4 := Tryz.underlying4
  a4 := Tryz.isAgg4
  z4 := Tryz.sizeOf4
  v4 := Tryz.zeroValue4
  t5 := Tryz.underlying5
  a5 := Tryz.isAgg5
  z5 := Tryz.sizeOf5
  v5 := Tryz.zeroValue5
  t9 := Tryz.underlying9
  a9 := Tryz.isAgg9
  z9 := Tryz.sizeOf9
  v9 := Tryz.zeroValue9
  t12 := Tryz.underlying12
  a12 := Tryz.isAgg12
  z12 := Tryz.sizeOf12
  v12 := Tryz.zeroValue12
  t46 := Tryz.underlying128
  a46 := Tryz.isAgg128
  z46 := Tryz.sizeOf128
  v46 := Tryz.zeroValue128
  t53 := Tryz.underlying152
  a53 := Tryz.isAgg152
  z53 := Tryz.sizeOf152
  v53 := Tryz.zeroValue152
  t119 := Tryz.underlying138
  a119 := Tryz.isAgg138
  z119 := Tryz.sizeOf138
  t138 := Tryz.underlying140
  a138 := Tryz.isAgg140
  z138 := Tryz.sizeOf140
  v138 := Tryz.zeroValue140
  t139 := Tryz.underlying141
  a139 := Tryz.isAgg141
  z139 := Tryz.sizeOf141
  v139 := Tryz.zeroValue141
  g3 := by kernel_rfl
  g4 := by kernel_rfl }
def Tryz.sortQ_ren : Go.Shelf.Ren := ⟨fun | 6 => 59 | 15 => 86 | 14 => 85 | 28 => 105 | 29 => 106 | 20 => 97 | 21 => 98 | 22 => 99 | 23 => 100 | 24 => 101 | 25 => 102 | 26 => 103 | 27 => 104 | 46 => 111 | 47 => 112 | 48 => 113 | 49 => 114 | 50 => 115 | 57 => 119 | n => n, fun | 22 => 23 | 24 => 46 | 25 => 105 | 3 => 3 | 39 => 128 | 0 => 0 | 53 => 150 | 55 => 152 | 4 => 4 | 46 => 144 | 45 => 143 | 50 => 80 | 5 => 5 | 9 => 9 | 66 => 155 | 70 => 159 | 76 => 161 | 77 => 61 | n => n, fun | n => n⟩
theorem Tryz.sortQ : Go.Proofs.SlLaysF0.n6 Tryz.prog Tryz.sortQ_ren := {
  mixed := by kernel_rfl
  f6 := ⟨Tryz.f59.name, by decide, Tryz.func59.trans (congrArg some (by kernel_rfl))⟩
  f14 := ⟨Tryz.f85.name, by decide, Tryz.func85.trans (congrArg some (by kernel_rfl))⟩
  f15 := Tryz.func86.trans (congrArg some (by kernel_rfl))
  f20 := ⟨Tryz.f97.name, by decide, Tryz.func97.trans (congrArg some (by kernel_rfl))⟩
  f21 := ⟨Tryz.f98.name, by decide, Tryz.func98.trans (congrArg some (by kernel_rfl))⟩
  f22 := ⟨Tryz.f99.name, by decide, Tryz.func99.trans (congrArg some (by kernel_rfl))⟩
  f23 := ⟨Tryz.f100.name, by decide, Tryz.func100.trans (congrArg some (by kernel_rfl))⟩
  f24 := ⟨Tryz.f101.name, by decide, Tryz.func101.trans (congrArg some (by kernel_rfl))⟩
  f25 := ⟨Tryz.f102.name, by decide, Tryz.func102.trans (congrArg some (by kernel_rfl))⟩
  f26 := ⟨Tryz.f103.name, by decide, Tryz.func103.trans (congrArg some (by kernel_rfl))⟩
  f27 := ⟨Tryz.f104.name, by decide, Tryz.func104.trans (congrArg some (by kernel_rfl))⟩
  f28 := Tryz.func105.trans (congrArg some (by kernel_rfl))
  f29 := Tryz.func106.trans (congrArg some (by kernel_rfl))
  f46 := ⟨Tryz.f111.name, by decide, Tryz.func111.trans (congrArg some (by kernel_rfl))⟩
  f47 := Tryz.func112.trans (congrArg some (by kernel_rfl))
  f48 := Tryz.func113.trans (congrArg some (by kernel_rfl))
  f49 := ⟨Tryz.f114.name, by decide, Tryz.func114.trans (congrArg some (by kernel_rfl))⟩
  f50 := ⟨Tryz.f115.name, by decide, Tryz.func115.trans (congrArg some (by kernel_rfl))⟩
  f57 := ⟨Tryz.f119.name, by decide, Tryz.func119.trans (congrArg some (by kernel_rfl))⟩
  t0 := Tryz.underlying0
  a0 := Tryz.isAgg0
  z0 := Tryz.sizeOf0
  v0 := Tryz.zeroValue0
  t3 := Tryz.underlying3
  a3 := Tryz.isAgg3
  z3 := Tryz.sizeOf3
  v3 := Tryz.zeroValue3
  t4 := Tryz.underlying4
  a4 := Tryz.isAgg4
  z4 := Tryz.sizeOf4
  v4 := Tryz.zeroValue4
  t5 := Tryz.underlying5
  a5 := Tryz.isAgg5
  z5 := Tryz.sizeOf5
  v5 := Tryz.zeroValue5
  t9 := Tryz.underlying9
  a9 := Tryz.isAgg9
  z9 := Tryz.sizeOf9
  v9 := Tryz.zeroValue9
  t22 := Tryz.underlying23
  a22 := Tryz.isAgg23
  z22 := Tryz.sizeOf23
  v22 := Tryz.zeroValue23
  t25 := Tryz.underlying105
  a25 := Tryz.isAgg105
  z25 := Tryz.sizeOf105
  v25 := Tryz.zeroValue105
  t39 := Tryz.underlying128
  a39 := Tryz.isAgg128
  z39 := Tryz.sizeOf128
  v39 := Tryz.zeroValue128
  t45 := Tryz.underlying143
  a45 := Tryz.isAgg143
  z45 := Tryz.sizeOf143
  v45 := Tryz.zeroValue143
  t46 := Tryz.underlying144
  a46 := Tryz.isAgg144
  z46 := Tryz.sizeOf144
  v46 := Tryz.zeroValue144
  t50 := Tryz.underlying80
  a50 := Tryz.isAgg80
  z50 := Tryz.sizeOf80
  v50 := Tryz.zeroValue80
  t53 := Tryz.underlying150
  a53 := Tryz.isAgg150
  z53 := Tryz.sizeOf150
  v53 := Tryz.zeroValue150
  t55 := Tryz.underlying152
  a55 := Tryz.isAgg152
  z55 := Tryz.sizeOf152
  v55 := Tryz.zeroValue152
  t66 := Tryz.underlying155
  a66 := Tryz.isAgg155
  z66 := Tryz.sizeOf155
  v66 := Tryz.zeroValue155
  t70 := Tryz.underlying159
  a70 := Tryz.isAgg159
  z70 := Tryz.sizeOf159
  v70 := Tryz.zeroValue159
  t76 := Tryz.underlying161
  a76 := Tryz.isAgg161
  z76 := Tryz.sizeOf161
  v76 := Tryz.zeroValue161
  t77 := Tryz.underlying61
  a77 := Tryz.isAgg61
  z77 := Tryz.sizeOf61
  v77 := Tryz.zeroValue61 }
end Go.Proofs
end
section
set_option linter.unusedVariables false
set_option linter.unusedSimpArgs false
set_option maxRecDepth 100000
set_option maxHeartbeats 4000000
open Go Go.Proofs Go.Ab
namespace Go.Ch
theorem fc_decG (s : ByteArray) : FC Tryz.prog 108 [VS s] (app emp []) (.tup [.t (.sc (.int .i32 (decR s))), VI (decW s : Int)]) (app emp []) := by
  refine FC.ofTab (us := [.string s]) (v := .tuple #[.int .i32 (Lib.decodeGo s).1, .int .i64 (Lib.decodeGo s).2]) (fun st m w ok xs hl hv => ?_) (fun st m w ok => ?_) (fun w hT => ?_)
  · match xs, hl with
    | [x], _ =>
      have := VRel.sc_inv (hv 0 _ _ rfl rfl)
      rw [this]
  · refine .tup _ [.int .i32 (Lib.decodeGo s).1, .int .i64 (Lib.decodeGo s).2] rfl (fun i v u h1 h2 => ?_)
    match i with
    | 0 => cases h1; cases h2; exact .t _ _ (.sc _ rfl)
    | 1 => cases h1; cases h2; exact .t _ _ (.sc _ rfl)
    | i + 2 => cases h1
  · exact Tryz.utf8_DecodeRuneInString s w (hT 0 1 (by kernel_rfl) (by kernel_rfl))
theorem fc_validS (s : ByteArray) (hs : s.size ≤ 9223372036854775807) : FC Tryz.prog 74 [VS s] (app emp []) (VB (Lib.validD s.data.toList)) (app emp []) := by
  refine FC.ofTab (us := [.string s]) (v := .bool (Lib.validD s.data.toList)) (fun st m w ok xs hl hv => ?_) (fun st m w ok => .t _ _ (.sc _ rfl)) (fun w hT => ?_)
  · match xs, hl with
    | [x], _ =>
      have := VRel.sc_inv (hv 0 _ _ rfl rfl)
      rw [this]
  · exact Any.utf8_ValidString Tryz.laysValid s w hs (hT 0 1 (by kernel_rfl) (by kernel_rfl))
end Go.Ch
end
section
set_option linter.unusedVariables false
set_option linter.unusedSimpArgs false
set_option maxRecDepth 100000
set_option maxHeartbeats 4000000
open Go Go.Proofs Go.Ab
namespace Go.Ch
theorem fc_text (s : ByteArray) : FC Tryz.prog 90 [VS s] (app emp []) (VB (textG s)) (app emp []) := by
 refine .go Tryz.f90 ?_
 refine .loop (α := ByteArray) [.r []] 8 (fun u => ([(0, VS u)], [])) (fun u => textG s = textG u) (fun u => u.size) (s : ByteArray) ?_ ?_
 ·
  rfl
 rintro u I1 ih1
 replace I1 : textG s = textG u := I1
 refine .br [.r []] (!(seq u ({ data := #[] }))) (fun h1 => ?_) (fun h1 => ?_)
 ·
  (try simp only [Bool.not_eq_true', Bool.not_eq_false'] at h1)
  rw [seq_mt, decide_eq_false_iff_not] at h1
  have hu : 0 < u.size := by omega
  have hw := decW_bd hu
  have hr := decR_bd u
  refine .br [.r [(1, X (Xc0 (fc_decG u) X0))], .r [(4, Xv 1 ((decR u) == 65533) X0), (5, X (Xk ((decR u) == 65533))), (8, Xv 1 (!(((decR u) == 65533) && ((decW u : Int) == 1))) X0), (9, X (Xk' (((decR u) == 65533) && ((decW u : Int) == 1)))), (12, Xv 1 (!((((decR u) == 65533) && ((decW u : Int) == 1)) || ((decR u) == 10))) (Xn (decR u))), (13, Xv 1 (!((((decR u) == 65533) && ((decW u : Int) == 1)) || ((decR u) == 10))) (Xc0 (fc_char (decR u)) X0)), (14, Xv 1 (!((((decR u) == 65533) && ((decW u : Int) == 1)) || ((decR u) == 10))) X0), (15, X (Xk' ((((decR u) == 65533) && ((decW u : Int) == 1)) || ((decR u) == 10))))]] (((((decR u) == 65533) && ((decW u : Int) == 1)) || ((decR u) == 10)) || !(decide (CharP (decR u)))) (fun h3 => ?_) (fun h3 => ?_)
  ·
   (try simp only [decide_eq_true_eq, decide_eq_false_iff_not, Int.not_lt, Int.not_le, Bool.not_eq_true', Bool.not_eq_false', Bool.and_eq_true, Bool.and_eq_false_iff, Bool.or_eq_true, Bool.or_eq_false_iff, beq_iff_eq, beq_eq_false_iff_ne, ne_eq] at h3)
   have hb : badT u := by rcases h3 with (h | h) | h; (exact .inl ⟨h.1, by omega⟩); (exact .inr (.inl h)); (exact .inr (.inr h))
   have e1 : ((textG s) : Bool) = false := by
    rw [I1, textG_bad hu hb]
   exact .finE [.r []] [] (fun z0 => (VB z0, [])) (false : Bool) ((textG s) : Bool) e1
  ·
   (try simp only [decide_eq_true_eq, decide_eq_false_iff_not, Int.not_lt, Int.not_le, Bool.not_eq_true', Bool.not_eq_false', Bool.and_eq_true, Bool.and_eq_false_iff, Bool.or_eq_true, Bool.or_eq_false_iff, beq_iff_eq, beq_eq_false_iff_ne, ne_eq] at h3)
   have hb : ¬ badT u := by rintro (q | q | q); (rcases h3.1.1 with h | h; (exact h q.1); (exact h (by omega))); (exact h3.1.2 q); (exact q h3.2)
   refine .back [.r [(2, X (Xa (Xc ((0:Int) ≤ (decW u : Int))) (Xa (Xc (((decW u : Int) : Int) ≤ (u.size : Int))) (Xc (((u.size : Int) : Int) ≤ (u.size : Int))))))]] [] (ih1 ((u.extract (((decW u : Int) : Int)).toNat (((u.size : Int) : Int)).toNat) : ByteArray) ?_ ?_)
   ·
    rw [I1, textG_go hu hb]
    rfl
   ·
    show (u.extract (decW u) u.size).size < u.size
    rw [ByteArray.size_extract]; omega
 ·
  (try simp only [Bool.not_eq_true', Bool.not_eq_false'] at h1)
  have e2 : ((textG s) : Bool) = true := by
   rw [seq_mt, decide_eq_true_eq] at h1
   rw [I1, textG_end (by omega)]
  exact .finE [.r []] [] (fun z0 => (VB z0, [])) (true : Bool) ((textG s) : Bool) e2

theorem fc_cellText (s : ByteArray) (hs : s.size ≤ 9223372036854775807) : FC Tryz.prog 43 [VS s] (app emp []) (VB (textG s)) (app emp []) := by
 refine .go Tryz.f43 ?_
 refine .br [.r [], .r [(1, X (Xc0 (fc_validS s (by assumption)) X0))]] (!(Lib.validD (s).data.toList)) (fun h1 => ?_) (fun h1 => ?_)
 ·
  (try simp only [Bool.not_eq_true', Bool.not_eq_false'] at h1)
  have e1 : ((textG s) : Bool) = false := by
   rw [text_valid _ s rfl (by assumption)]
  exact .finE [.r []] [] (fun z0 => (VB z0, [])) (false : Bool) ((textG s) : Bool) e1
 ·
  (try simp only [Bool.not_eq_true', Bool.not_eq_false'] at h1)
  refine .loop (α := Nat) [.r []] 48 (fun p => ([(9, .hdl 40)], [(40, .siter s p)])) (fun p => CtI s p) (fun p => s.size - p) (0 : Nat) ?_ ?_
  ·
   exact CtI.start (by assumption)
  rintro p I4 ih4
  replace I4 : CtI s p := I4
  by_cases hp : p < s.size
  ·
   obtain ⟨n1, n2, n3, n4, n5, n6⟩ := I4.next hp
   refine .br [.r [(0, X (Xnx s p))], .t, .r [], .r [(4, Xv 1 (!(((Utf8.decode s p).1 : Int) == 10)) (Xn ((Utf8.decode s p).1 : Int))), (5, Xv 1 (!(((Utf8.decode s p).1 : Int) == 10)) (Xc0 (fc_charR ((Utf8.decode s p).1 : Int)) X0)), (6, Xv 1 (!(((Utf8.decode s p).1 : Int) == 10)) X0), (7, X (Xk' (((Utf8.decode s p).1 : Int) == 10)))]] ((((Utf8.decode s p).1 : Int) == 10) || !(decide (CharP ((Utf8.decode s p).1 : Int)))) (fun h6 => ?_) (fun h6 => ?_)
   ·
    (try simp only [decide_eq_true_eq, decide_eq_false_iff_not, Int.not_lt, Int.not_le, Bool.not_eq_true', Bool.not_eq_false', Bool.or_eq_true, Bool.or_eq_false_iff, beq_iff_eq, beq_eq_false_iff_ne, ne_eq] at h6)
    have e2 : ((textG s) : Bool) = false := by
     exact n5 (by first | exact h6 | (simpa using h6))
    exact .finE [.r []] [] (fun z0 => (VB z0, [])) (false : Bool) ((textG s) : Bool) e2
   ·
    (try simp only [decide_eq_true_eq, decide_eq_false_iff_not, Int.not_lt, Int.not_le, Bool.not_eq_true', Bool.not_eq_false', Bool.or_eq_true, Bool.or_eq_false_iff, beq_iff_eq, beq_eq_false_iff_ne, ne_eq] at h6)
    refine .back [] [(40, 40)] (ih4 ((p + (Utf8.decode s p).2) : Nat) ?_ ?_)
    ·
     exact n6 (by first | exact h6.1 | (simpa using h6.1)) (by first | exact h6.2 | (simpa using h6.2))
    ·
     ((try dsimp only); omega)
  ·
   have e3 : ((textG s) : Bool) = true := by
    exact I4.done hp
   exact .finE [.r [(0, X (Xov s p))], .f, .r []] [] (fun z0 => (VB z0, [])) (true : Bool) ((textG s) : Bool) e3
end Go.Ch
end
