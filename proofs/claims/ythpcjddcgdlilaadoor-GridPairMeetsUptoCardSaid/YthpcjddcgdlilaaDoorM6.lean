/- Parts of the proof: ChGrid0, GridPlain, ChGrid, ChGrid2, ChGrid3, GridPlain2, ChGrid4, ChGrid5, GridText, GridPlain3, TrydShelf, GridTab, ChGrid6, ChGrid7, ChGrid8. -/
import Derived.Test.YthpcjddcgdlilaaDoorM1
import Derived.Test.YthpcjddcgdlilaaDoorM2
import Derived.Test.YthpcjddcgdlilaaDoorM3
import Derived.Test.YthpcjddcgdlilaaDoorM4
import Derived.Test.YthpcjddcgdlilaaDoorM5
import Derived.Shelf.Unicode.DecodeSlow
import Derived.Lib.TrimUEq
import Derived.Lib.QuoteLoop
import Derived.Lib.ValidLaws
import Derived.Lib.ValidAsc
import Derived.Shelf.Small.Bits
import Derived.Shelf.Small.Wraps
import Derived.Shelf.Strconv.Itoa0
import Derived.Shelf.Unicode.Decode
import Derived.Shelf.Unicode.DecodeAny
import Derived.Ground.Names2Prog
import Derived.Shelf.Slices.SearchI
import Derived.Ground.SlsfProg
import Derived.Shelf.SlGeneric
import Derived.Shelf.SlSortCmp.WholeK
import Derived.Test.YthpcjddcgdlilaaDoorProg
import Derived.Shelf.Unicode.ValidAny
section
set_option linter.unusedVariables false
set_option linter.unusedSimpArgs false
set_option maxRecDepth 100000
set_option maxHeartbeats 4000000
open Go Go.Proofs Go.Ab
namespace Go.Ch
theorem fc_char (c : Int) : FC Tryd.prog 99 [VI c] (app emp []) (VB (decide (CharP c))) (app emp []) := by
 refine .go Tryd.f99 ?_
 have e1 : ((decide (CharP c)) : Bool) = (((((c == 9) || (c == 10)) || (decide (c ≥ 32) && decide (c < 127))) || (decide (c ≥ 160) && decide (c < 55296))) || (decide (c > 57343) && decide (c ≤ 1114111))) := by
  rw [Bool.eq_iff_iff, decide_eq_true_iff]; unfold CharP; simp only [Bool.or_eq_true, Bool.and_eq_true, decide_eq_true_eq, beq_iff_eq]; constructor <;> intro hh <;> omega
 exact .finE [.r [], .r [(4, Xv 1 (!(c == 9)) X0), (5, X (Xk' (c == 9))), (8, Xv 1 (!((c == 9) || (c == 10))) X0), (9, Xv 1 (!((c == 9) || (c == 10))) X0), (11, Xv 1 ((!((c == 9) || (c == 10))) && (decide (c ≥ 32))) X0), (12, Xka (!((c == 9) || (c == 10))) (decide (c ≥ 32))), (13, X (Xk' ((c == 9) || (c == 10)))), (16, Xv 1 (!(((c == 9) || (c == 10)) || (decide (c ≥ 32) && decide (c < 127)))) X0), (17, Xv 1 (!(((c == 9) || (c == 10)) || (decide (c ≥ 32) && decide (c < 127)))) X0), (19, Xv 1 ((!(((c == 9) || (c == 10)) || (decide (c ≥ 32) && decide (c < 127)))) && (decide (c ≥ 160))) X0), (20, Xka (!(((c == 9) || (c == 10)) || (decide (c ≥ 32) && decide (c < 127)))) (decide (c ≥ 160))), (21, X (Xk' (((c == 9) || (c == 10)) || (decide (c ≥ 32) && decide (c < 127))))), (24, Xv 1 (!((((c == 9) || (c == 10)) || (decide (c ≥ 32) && decide (c < 127))) || (decide (c ≥ 160) && decide (c < 55296)))) X0), (25, Xv 1 (!((((c == 9) || (c == 10)) || (decide (c ≥ 32) && decide (c < 127))) || (decide (c ≥ 160) && decide (c < 55296)))) X0), (27, Xv 1 ((!((((c == 9) || (c == 10)) || (decide (c ≥ 32) && decide (c < 127))) || (decide (c ≥ 160) && decide (c < 55296)))) && (decide (c > 57343))) X0), (28, Xka (!((((c == 9) || (c == 10)) || (decide (c ≥ 32) && decide (c < 127))) || (decide (c ≥ 160) && decide (c < 55296)))) (decide (c > 57343))), (29, X (Xk' ((((c == 9) || (c == 10)) || (decide (c ≥ 32) && decide (c < 127))) || (decide (c ≥ 160) && decide (c < 55296)))))]] [] (fun z0 => (VB z0, [])) ((((((c == 9) || (c == 10)) || (decide (c ≥ 32) && decide (c < 127))) || (decide (c ≥ 160) && decide (c < 55296))) || (decide (c > 57343) && decide (c ≤ 1114111))) : Bool) ((decide (CharP c)) : Bool) e1

end Go.Ch
end
section
set_option linter.unusedVariables false
namespace Go.Ch
open Go Go.Ab

structure Cell where
  row : Int
  col : Int
  text : ByteArray
  ref : Int
  attrs : List Attr
instance : Inhabited Cell := ⟨⟨0, 0, { data := #[] }, 0, []⟩⟩
structure Rect where
  row : Int
  col : Int
  h : Int
  w : Int
deriving DecidableEq
instance : Inhabited Rect := ⟨⟨0, 0, 0, 0⟩⟩
structure Grid where
  rows : Int
  cols : Int
  cells : List Cell
  merges : List Rect
instance : Inhabited Grid := ⟨⟨0, 0, [], []⟩⟩
structure GEd where
  rows : List AxStep
  cols : List AxStep
  cells : List Cell
  split : List Rect
  merge : List Rect
instance : Inhabited GEd := ⟨⟨[], [], [], [], []⟩⟩
def cellT (c : Cell) : Tree := .agg [TI c.row, TI c.col, TS c.text, TI c.ref, .lst 2 (c.attrs.map attrT)]
def rectT (r : Rect) : Tree := .agg [TI r.row, TI r.col, TI r.h, TI r.w]
def gridT (g : Grid) : Tree := .agg [TI g.rows, TI g.cols, .lst 5 (g.cells.map cellT), .lst 4 (g.merges.map rectT)]
def gedT (e : GEd) : Tree := .agg [.lst 2 (e.rows.map stepT), .lst 2 (e.cols.map stepT), .lst 5 (e.cells.map cellT), .lst 4 (e.split.map rectT), .lst 4 (e.merge.map rectT)]

def cmpI (x y : Int) : Int := if x < y then -1 else if x > y then 1 else 0
def orL : List Int → Int
  | [] => 0
  | x :: l => if x ≠ 0 then x else orL l
theorem orL_at {l : List Int} {i : Nat} (h : i < l.length) : orL (l.drop i) = if l.getD i default ≠ 0 then l.getD i default else orL (l.drop (i + 1)) := by
  rw [List.drop_eq_getElem_cons h, orL]
  simp [List.getD, List.getElem?_eq_getElem h]
def ordC (a b : Cell) : Int := orL [cmpI a.row b.row, cmpI a.col b.col]
def emptyC (c : Cell) : Bool := (seq c.text { data := #[] } && c.ref == 0) && (c.attrs.length : Int) == 0

/-! ### Rectangles -/
def insB (r : Rect) (m n : Int) : Bool := decide (0 ≤ r.row ∧ 0 ≤ r.col ∧ 1 ≤ r.h ∧ 1 ≤ r.w ∧ r.row < m ∧ r.col < n ∧ r.h ≤ m - r.row ∧ r.w ≤ n - r.col)
def meetB (a b : Rect) : Bool := decide (a.row < b.row + b.h ∧ b.row < a.row + a.h ∧ a.col < b.col + b.w ∧ b.col < a.col + a.w)
/-- Numbers that do not overflow. -/
def RB (r : Rect) : Prop := -1000000000000 ≤ r.row ∧ r.row ≤ 1000000000000 ∧ -1000000000000 ≤ r.col ∧ r.col ≤ 1000000000000 ∧ -1000000000000 ≤ r.h ∧ r.h ≤ 1000000000000 ∧ -1000000000000 ≤ r.w ∧ r.w ≤ 1000000000000
def befB (a b : Rect) : Bool := decide (a.row < b.row ∨ (a.row = b.row ∧ a.col < b.col))
theorem rect_ext {a b : Rect} (h1 : a.row = b.row) (h2 : a.col = b.col) (h3 : a.h = b.h) (h4 : a.w = b.w) : a = b := by
  cases a; cases b; simp_all
/-- The index of a rectangle. -/
def idxQ (l : List Rect) (r : Rect) (i : Nat) : Int := if i < l.length then (if l.getD i default = r then (i : Int) else idxQ l r (i + 1)) else -1
termination_by l.length - i
theorem idxQ_ge {l : List Rect} {r : Rect} : ∀ (n i : Nat), l.length - i = n → (0 ≤ idxQ l r i ↔ r ∈ l.drop i)
  | 0, i, h => by rw [idxQ, if_neg (by omega), List.drop_eq_nil_of_le (by omega)]; simp
  | n + 1, i, h => by
    have hi : i < l.length := by omega
    have hd : l.drop i = l.getD i default :: l.drop (i + 1) := by rw [List.drop_eq_getElem_cons hi]; simp [List.getD, List.getElem?_eq_getElem hi]
    rw [idxQ, if_pos hi, hd]
    split
    · rename_i e
      rw [e]
      exact ⟨fun _ => List.mem_cons_self .., fun _ => by omega⟩
    · rename_i e
      rw [idxQ_ge n (i + 1) (by omega), List.mem_cons]
      exact ⟨.inr, fun h => h.resolve_left (fun h => e h.symm)⟩
def hasQ (l : List Rect) (r : Rect) : Bool := decide (r ∈ l)

/-! ### Through changes of the axes -/
def thrR (r : Rect) (rows cols : List AxStep) : Rect :=
  let (a, h) := if 0 < rows.length then ((hullS rows r.row (r.row + r.h) 0 0 0 0).1, (hullS rows r.row (r.row + r.h) 0 0 0 0).2 - (hullS rows r.row (r.row + r.h) 0 0 0 0).1) else (r.row, r.h)
  let (b, w) := if 0 < cols.length then ((hullS cols r.col (r.col + r.w) 0 0 0 0).1, (hullS cols r.col (r.col + r.w) 0 0 0 0).2 - (hullS cols r.col (r.col + r.w) 0 0 0 0).1) else (r.col, r.w)
  ⟨a, b, h, w⟩
def thrB (r : Rect) : Bool := decide (0 < r.h ∧ 0 < r.w ∧ 2 < r.h + r.w)
/-- An axis' change, if there is one, and the numbers that it speaks of. -/
def AxIn (a : List AxStep) (fr tq : Int) : Prop := 0 < a.length → Valid a ∧ 0 ≤ fr ∧ fr ≤ tq ∧ tq ≤ oldI a
theorem hull_bdA : ∀ {l : List AxStep} (hl : Form l) (M f t first last old now : Int), 0 ≤ first → first ≤ M → 0 ≤ last → last ≤ M → 0 ≤ now → now + newU (ex l) ≤ M →
    0 ≤ (hullS l f t first last old now).1 ∧ (hullS l f t first last old now).1 ≤ M ∧ 0 ≤ (hullS l f t first last old now).2 ∧ (hullS l f t first last old now).2 ≤ M
  | [], _, M, f, t, first, last, old, now, h1, h2, h3, h4, h5, h6 => ⟨h1, h2, h3, h4⟩
  | s :: l, hl, M, f, t, first, last, old, now, h1, h2, h3, h4, h5, h6 => by
    have hn := hl.head.2.2
    have hk := hl.head
    have e : (newU (ex (s :: l)) : Int) = (if s.kind = 2 then 0 else s.n) + newU (ex l) := by
      rw [ex, new_rep, Int.toNat_of_nonneg (by omega)]
    rw [e] at h6
    rw [hullS]
    have hz : (0 : Int) ≤ newU (ex l) := by omega
    by_cases c : s.kind = 0 ∧ max f old < min t (old + s.n)
    · rw [if_pos c, if_neg (show ¬ s.kind = 2 by omega)]
      rw [if_neg (show ¬ s.kind = 2 by omega)] at h6
      refine hull_bdA hl.tail M f t _ _ _ _ ?_ ?_ (by omega) (by omega) (by omega) (by omega) <;> (split <;> omega)
    · rw [if_neg c, if_neg (fun h => c h.1)]
      refine hull_bdA hl.tail M f t _ _ _ _ h1 h2 h3 h4 ?_ ?_
      · split <;> omega
      · split at h6 <;> (split <;> omega)
theorem hull_bd {l : List AxStep} {f t : Int} (hv : Valid l) (h : 0 ≤ f ∧ f ≤ t ∧ t ≤ oldI l) : 0 ≤ (hullS l f t 0 0 0 0).1 ∧ (hullS l f t 0 0 0 0).1 ≤ 2147483647 ∧ 0 ≤ (hullS l f t 0 0 0 0).2 ∧ (hullS l f t 0 0 0 0).2 ≤ 2147483647 :=
  hull_bdA hv.1 2147483647 f t 0 0 0 0 (by omega) (by omega) (by omega) (by omega) (by omega) (by have := hv.2.2; omega)

/-! ### Cells -/
def mvR (a : List AxStep) (p : Int) : Int := if 0 < a.length then placeS a p 0 0 else p
def mvC (rows cols : List AxStep) (c : Cell) : Option Cell :=
  if 0 < rows.length ∧ mvR rows c.row < 0 then none else if 0 < cols.length ∧ mvR cols c.col < 0 then none else some { c with row := mvR rows c.row, col := mvR cols c.col }
def movL (l : List Cell) (rows cols : List AxStep) : List Cell := l.filterMap (mvC rows cols)
def PIn (a : List AxStep) (p : Int) : Prop := 0 < a.length → Valid a ∧ 0 ≤ p ∧ p < oldI a
def CAN (k : Nat) (l : List Cell) : Prop := ∀ c ∈ l, c.attrs.length ≤ k
theorem getDC_mem {l : List Cell} {i : Nat} (h : i < l.length) : l.getD i default ∈ l := by
  rw [show l.getD i default = l[i] by simp [List.getD, List.getElem?_eq_getElem h]]; exact List.getElem_mem _
theorem movL_succ {l : List Cell} {rows cols : List AxStep} {i : Nat} (h : i < l.length) : movL (l.take (i + 1)) rows cols = movL (l.take i) rows cols ++ (mvC rows cols (l.getD i default)).toList := by
  unfold movL
  rw [List.take_succ_eq_append_getElem h, List.filterMap_append]
  simp only [List.getD, List.getElem?_eq_getElem h, Option.getD_some]
  simp only [List.filterMap_cons, List.filterMap_nil]
  cases mvC rows cols l[i] <;> rfl
theorem movL_len (l : List Cell) (rows cols : List AxStep) : (movL l rows cols).length ≤ l.length := List.length_filterMap_le _ _
/-- 'put': the cells ahead of c stay; the one at its place goes; c stands there unless it is empty. -/
def putC (c : Cell) (k : List Cell → List Cell) : List Cell → List Cell
  | [] => (if emptyC c = true then [] else [c]) ++ k []
  | x :: l => if ordC x c < 0 then x :: putC c k l else if ordC x c = 0 then (if emptyC c = true then [] else [c]) ++ k l else (if emptyC c = true then [] else [c]) ++ k (x :: l)
def putL : List Cell → List Cell → List Cell
  | [], l => l
  | c :: ns, l => putC c (putL ns) l
theorem dropC {l : List Cell} {i : Nat} (h : i < l.length) : l.drop i = l.getD i default :: l.drop (i + 1) := by
  rw [List.drop_eq_getElem_cons h]; simp [List.getD, List.getElem?_eq_getElem h]
theorem dropC_end {l : List Cell} {i : Nat} (h : l.length ≤ i) : l.drop i = [] := List.drop_eq_nil_of_le h
theorem putC_lt {c : Cell} {k : List Cell → List Cell} {l : List Cell} {j : Nat} (h : j < l.length) (h0 : ordC (l.getD j default) c < 0) : putC c k (l.drop j) = l.getD j default :: putC c k (l.drop (j + 1)) := by
  rw [dropC h, putC, if_pos h0]
theorem putC_eq {c : Cell} {k : List Cell → List Cell} {l : List Cell} {j : Nat} (h : j < l.length) (h0 : ordC (l.getD j default) c = 0) : putC c k (l.drop j) = (if emptyC c = true then [] else [c]) ++ k (l.drop (j + 1)) := by
  rw [dropC h, putC, if_neg (by omega), if_pos h0]
theorem putC_gt {c : Cell} {k : List Cell → List Cell} {l : List Cell} {j : Nat} (h : j < l.length → 0 < ordC (l.getD j default) c) : putC c k (l.drop j) = (if emptyC c = true then [] else [c]) ++ k (l.drop j) := by
  by_cases hj : j < l.length
  · have := h hj
    rw [dropC hj, putC, if_neg (by omega), if_neg (by omega)]
  · rw [dropC_end (by omega), putC]
def bareC (c : Cell) : Cell := ⟨c.row, c.col, { data := #[] }, 0, []⟩
def sameC (a b : Cell) : Bool := (((a.row == b.row && a.col == b.col) && seq a.text b.text) && a.ref == b.ref) && sameL a.attrs b.attrs
def difC (c : Cell) (k : List Cell → List Cell) : List Cell → List Cell
  | [] => c :: k []
  | x :: l => if ordC x c < 0 then bareC x :: difC c k l else if ordC x c = 0 then (if sameC x c = true then k l else c :: k l) else c :: k (x :: l)
def difL : List Cell → List Cell → List Cell
  | [], fr => fr.map bareC
  | c :: ns, fr => difC c (difL ns) fr
end Go.Ch
end
section
set_option linter.unusedVariables false
set_option linter.unusedSimpArgs false
set_option maxRecDepth 100000
set_option maxHeartbeats 4000000
open Go Go.Proofs Go.Ab
namespace Go.Ch
theorem fc_isNaN (x : Int) : FC Tryd.prog 78 [VI x] (app emp []) (VB false) (app emp []) := by
 refine .go Tryd.f78 ?_
 have e1 : ((x != x) : Bool) = false := by
  simp
 exact .finE [.r [], .r []] [] (fun z0 => (VB z0, [])) ((x != x) : Bool) (false : Bool) e1.symm

theorem fc_cmpI (x y : Int) : FC Tryd.prog 56 [VI x, VI y] (app emp []) (VI (cmpI x y)) (app emp []) := by
 refine .go Tryd.f56 ?_
 refine .br [.r [], .r [(1, X (Xc0 (fc_isNaN x) X0))], .r [(1, X (Xc0 (fc_isNaN y) X0))], .r [], .f, .r [], .f, .r []] (decide (x < y)) (fun h9 => ?_) (fun h9 => ?_)
 ·
  (try simp only [decide_eq_true_eq, decide_eq_false_iff_not, Int.not_lt, Int.not_le] at h9)
  have e1 : ((cmpI x y) : Int) = -1 := by
   unfold cmpI; ((repeat' split) <;> first | rfl | omega | (simp_all; done) | (simp_all; omega))
  exact .finE [.r []] [] (fun z0 => (VI z0, [])) (-1 : Int) ((cmpI x y) : Int) e1
 ·
  (try simp only [decide_eq_true_eq, decide_eq_false_iff_not, Int.not_lt, Int.not_le] at h9)
  refine .br [.r []] (decide (x > y)) (fun h11 => ?_) (fun h11 => ?_)
  ·
   (try simp only [decide_eq_true_eq, decide_eq_false_iff_not, Int.not_lt, Int.not_le, gt_iff_lt] at h11)
   have e2 : ((cmpI x y) : Int) = 1 := by
    unfold cmpI; ((repeat' split) <;> first | rfl | omega | (simp_all; done) | (simp_all; omega))
   exact .finE [.r []] [] (fun z0 => (VI z0, [])) (1 : Int) ((cmpI x y) : Int) e2
  ·
   (try simp only [decide_eq_true_eq, decide_eq_false_iff_not, Int.not_lt, Int.not_le, gt_iff_lt] at h11)
   have e3 : ((cmpI x y) : Int) = 0 := by
    unfold cmpI; ((repeat' split) <;> first | rfl | omega | (simp_all; done) | (simp_all; omega))
   exact .finE [.r []] [] (fun z0 => (VI z0, [])) (0 : Int) ((cmpI x y) : Int) e3

theorem fc_or (l : List Int) : FC Tryd.prog 55 [VL 1 intT l] (app emp []) (VI (orL l)) (app emp []) := by
 refine .go Tryd.f55 ?_
 refine .len 0 (fun hl0 => ?_)
 refine .loop (α := Nat) [.r [], .r [], .r [(1, X (Xl intT l))]] 40 (fun i => ([(3, VI 0), (6, VL 1 intT l), (7, VI (l.length : Int)), (8, VI (i : Int))], [])) (fun i => i ≤ l.length ∧ orL l = orL (l.drop i)) (fun i => l.length - i) (0 : Nat) ?_ ?_
 ·
  exact ⟨by omega, rfl⟩
 rintro i I3 ih3
 try dsimp only at I3
 refine .br [.r []] (decide ((i : Int) < (l.length : Int))) (fun h3 => ?_) (fun h3 => ?_)
 ·
  (try simp only [decide_eq_true_eq, decide_eq_false_iff_not, Int.not_lt, Int.not_le] at h3)
  refine .br [.r [(0, X (Xi intT l (i : Int)))], .r []] ((l.getD i default) != 0) (fun h5 => ?_) (fun h5 => ?_)
  ·
   (try simp only [bne_iff_ne, bne_eq_false_iff_eq, ne_eq] at h5)
   have e1 : ((orL l) : Int) = (l.getD i default) := by
    rw [I3.2, orL_at (by omega), if_pos (by omega)]
   exact .finE [.r []] [] (fun z0 => (VI z0, [])) ((l.getD i default) : Int) ((orL l) : Int) e1
  ·
   (try simp only [bne_iff_ne, bne_eq_false_iff_eq, ne_eq] at h5)
   refine .back [.r [(0, X (Xn ((i : Int) + 1)))]] [] (ih3 ((i + 1) : Nat) ?_ ?_)
   ·
    refine ⟨by omega, ?_⟩
    rw [I3.2, orL_at (by omega), if_neg (by omega)]
   ·
    ((try dsimp only); omega)
 ·
  (try simp only [decide_eq_true_eq, decide_eq_false_iff_not, Int.not_lt, Int.not_le] at h3)
  have e2 : ((orL l) : Int) = 0 := by
   rw [I3.2, List.drop_eq_nil_of_le (by omega)]; rfl
  exact .finE [.r []] [] (fun z0 => (VI z0, [])) (0 : Int) ((orL l) : Int) e2

theorem fc_order (a b : Cell) : FC Tryd.prog 64 [.t (cellT a), .t (cellT b)] (app emp []) (VI (ordC a b)) (app emp []) := by
 refine .go Tryd.f64 ?_
 have e1 : ((ordC a b) : Int) = (orL [(cmpI a.row b.row), (cmpI a.col b.col)]) := by
  rfl
 exact .finE [.r [], .r [(4, X (Xc0 (fc_cmpI a.row b.row) X0)), (9, X (Xc0 (fc_cmpI a.col b.col) X0)), (11, X (Xc0 (fc_or [(cmpI a.row b.row), (cmpI a.col b.col)]) (rowC intT [(cmpI a.row b.row), (cmpI a.col b.col)] X0)))]] [] (fun z0 => (VI z0, [])) ((orL [(cmpI a.row b.row), (cmpI a.col b.col)]) : Int) ((ordC a b) : Int) e1

theorem fc_empty (c : Cell) : FC Tryd.prog 72 [.t (cellT c)] (app emp []) (VB (emptyC c)) (app emp []) := by
 refine .go Tryd.f72 ?_
 have e1 : ((emptyC c) : Bool) = ((seq c.text ({ data := #[] }) && (c.ref == 0)) && ((c.attrs.length : Int) == 0)) := by
  rfl
 exact .finE [.r [], .r [(5, Xv 1 (seq c.text ({ data := #[] })) X0), (6, Xv 1 (seq c.text ({ data := #[] })) X0), (7, X (Xk (seq c.text ({ data := #[] })))), (10, Xv 1 (seq c.text ({ data := #[] }) && (c.ref == 0)) X0), (11, Xv 1 (seq c.text ({ data := #[] }) && (c.ref == 0)) (Xl attrT c.attrs)), (12, Xv 1 (seq c.text ({ data := #[] }) && (c.ref == 0)) X0), (13, X (Xk (seq c.text ({ data := #[] }) && (c.ref == 0))))]] [] (fun z0 => (VB z0, [])) (((seq c.text ({ data := #[] }) && (c.ref == 0)) && ((c.attrs.length : Int) == 0)) : Bool) ((emptyC c) : Bool) e1

theorem fc_clone (c : Cell) (h : c.attrs.length ≤ 1000000000000) : FC Tryd.prog 36 [.t (cellT c)] (app emp []) (.t (cellT c)) (app emp []) := by
 refine .go Tryd.f36 ?_
 exact .finV [.r [], .r [(2, X (Xan attrT 32 c.attrs))], .r []] [.fR 0 [(c.attrs.length : Nat) = (List.map attrT c.attrs).length] ⟨lm, trivial⟩] []

theorem fc_inside (r : Rect) (m n : Int) (hb : 0 ≤ m ∧ m ≤ 1000000000000 ∧ 0 ≤ n ∧ n ≤ 1000000000000) : FC Tryd.prog 46 [.t (rectT r), VI m, VI n] (app emp []) (VB (insB r m n)) (app emp []) := by
 refine .go Tryd.f46 ?_
 have e1 : ((insB r m n) : Bool) = (((((((decide (r.row ≥ 0) && decide (r.col ≥ 0)) && decide (r.h ≥ 1)) && decide (r.w ≥ 1)) && decide (r.row < m)) && decide (r.col < n)) && decide (r.h ≤ (m - r.row))) && decide (r.w ≤ (n - r.col))) := by
  unfold insB; rw [Bool.eq_iff_iff]; simp; try omega
 exact .finE [.r [], .r [(5, Xv 1 (decide (r.row ≥ 0)) X0), (6, Xv 1 (decide (r.row ≥ 0)) X0), (7, X (Xk (decide (r.row ≥ 0)))), (10, Xv 1 (decide (r.row ≥ 0) && decide (r.col ≥ 0)) X0), (11, Xv 1 (decide (r.row ≥ 0) && decide (r.col ≥ 0)) X0), (12, X (Xk (decide (r.row ≥ 0) && decide (r.col ≥ 0)))), (15, Xv 1 ((decide (r.row ≥ 0) && decide (r.col ≥ 0)) && decide (r.h ≥ 1)) X0), (16, Xv 1 ((decide (r.row ≥ 0) && decide (r.col ≥ 0)) && decide (r.h ≥ 1)) X0), (17, X (Xk ((decide (r.row ≥ 0) && decide (r.col ≥ 0)) && decide (r.h ≥ 1)))), (20, Xv 1 (((decide (r.row ≥ 0) && decide (r.col ≥ 0)) && decide (r.h ≥ 1)) && decide (r.w ≥ 1)) X0), (22, Xv 2 (((decide (r.row ≥ 0) && decide (r.col ≥ 0)) && decide (r.h ≥ 1)) && decide (r.w ≥ 1)) X0), (23, X (Xk (((decide (r.row ≥ 0) && decide (r.col ≥ 0)) && decide (r.h ≥ 1)) && decide (r.w ≥ 1)))), (26, Xv 1 ((((decide (r.row ≥ 0) && decide (r.col ≥ 0)) && decide (r.h ≥ 1)) && decide (r.w ≥ 1)) && decide (r.row < m)) X0), (28, Xv 2 ((((decide (r.row ≥ 0) && decide (r.col ≥ 0)) && decide (r.h ≥ 1)) && decide (r.w ≥ 1)) && decide (r.row < m)) X0), (29, X (Xk ((((decide (r.row ≥ 0) && decide (r.col ≥ 0)) && decide (r.h ≥ 1)) && decide (r.w ≥ 1)) && decide (r.row < m)))), (32, Xv 1 (((((decide (r.row ≥ 0) && decide (r.col ≥ 0)) && decide (r.h ≥ 1)) && decide (r.w ≥ 1)) && decide (r.row < m)) && decide (r.col < n)) X0), (35, Xv 1 (((((decide (r.row ≥ 0) && decide (r.col ≥ 0)) && decide (r.h ≥ 1)) && decide (r.w ≥ 1)) && decide (r.row < m)) && decide (r.col < n)) X0), (36, Xv 2 (((((decide (r.row ≥ 0) && decide (r.col ≥ 0)) && decide (r.h ≥ 1)) && decide (r.w ≥ 1)) && decide (r.row < m)) && decide (r.col < n)) (Xn (m - r.row))), (37, Xv 2 (((((decide (r.row ≥ 0) && decide (r.col ≥ 0)) && decide (r.h ≥ 1)) && decide (r.w ≥ 1)) && decide (r.row < m)) && decide (r.col < n)) X0), (38, X (Xk (((((decide (r.row ≥ 0) && decide (r.col ≥ 0)) && decide (r.h ≥ 1)) && decide (r.w ≥ 1)) && decide (r.row < m)) && decide (r.col < n)))), (41, Xv 1 ((((((decide (r.row ≥ 0) && decide (r.col ≥ 0)) && decide (r.h ≥ 1)) && decide (r.w ≥ 1)) && decide (r.row < m)) && decide (r.col < n)) && decide (r.h ≤ (m - r.row))) X0), (44, Xv 1 ((((((decide (r.row ≥ 0) && decide (r.col ≥ 0)) && decide (r.h ≥ 1)) && decide (r.w ≥ 1)) && decide (r.row < m)) && decide (r.col < n)) && decide (r.h ≤ (m - r.row))) X0), (45, Xv 2 ((((((decide (r.row ≥ 0) && decide (r.col ≥ 0)) && decide (r.h ≥ 1)) && decide (r.w ≥ 1)) && decide (r.row < m)) && decide (r.col < n)) && decide (r.h ≤ (m - r.row))) (Xn (n - r.col))), (46, Xv 2 ((((((decide (r.row ≥ 0) && decide (r.col ≥ 0)) && decide (r.h ≥ 1)) && decide (r.w ≥ 1)) && decide (r.row < m)) && decide (r.col < n)) && decide (r.h ≤ (m - r.row))) X0), (47, X (Xk ((((((decide (r.row ≥ 0) && decide (r.col ≥ 0)) && decide (r.h ≥ 1)) && decide (r.w ≥ 1)) && decide (r.row < m)) && decide (r.col < n)) && decide (r.h ≤ (m - r.row)))))]] [] (fun z0 => (VB z0, [])) ((((((((decide (r.row ≥ 0) && decide (r.col ≥ 0)) && decide (r.h ≥ 1)) && decide (r.w ≥ 1)) && decide (r.row < m)) && decide (r.col < n)) && decide (r.h ≤ (m - r.row))) && decide (r.w ≤ (n - r.col))) : Bool) ((insB r m n) : Bool) e1

theorem fc_meets (a b : Rect) (ha : RB a) (hb : RB b) : FC Tryd.prog 52 [.t (rectT a), .t (rectT b)] (app emp []) (VB (meetB a b)) (app emp []) := by
 refine .go Tryd.f52 ?_
 unfold RB at ha hb
 have e1 : ((meetB a b) : Bool) = (((decide (a.row < (b.row + b.h)) && decide (b.row < (a.row + a.h))) && decide (a.col < (b.col + b.w))) && decide (b.col < (a.col + a.w))) := by
  unfold meetB; rw [Bool.eq_iff_iff]; simp; try omega
 exact .finE [.r [], .r [(6, X (Xn (b.row + b.h))), (10, Xv 1 (decide (a.row < (b.row + b.h))) X0), (12, Xv 1 (decide (a.row < (b.row + b.h))) X0), (14, Xv 1 (decide (a.row < (b.row + b.h))) X0), (15, Xv 2 (decide (a.row < (b.row + b.h))) (Xn (a.row + a.h))), (16, Xv 2 (decide (a.row < (b.row + b.h))) X0), (17, X (Xk (decide (a.row < (b.row + b.h))))), (20, Xv 1 (decide (a.row < (b.row + b.h)) && decide (b.row < (a.row + a.h))) X0), (22, Xv 1 (decide (a.row < (b.row + b.h)) && decide (b.row < (a.row + a.h))) X0), (24, Xv 1 (decide (a.row < (b.row + b.h)) && decide (b.row < (a.row + a.h))) X0), (25, Xv 2 (decide (a.row < (b.row + b.h)) && decide (b.row < (a.row + a.h))) (Xn (b.col + b.w))), (26, Xv 2 (decide (a.row < (b.row + b.h)) && decide (b.row < (a.row + a.h))) X0), (27, X (Xk (decide (a.row < (b.row + b.h)) && decide (b.row < (a.row + a.h))))), (30, Xv 1 ((decide (a.row < (b.row + b.h)) && decide (b.row < (a.row + a.h))) && decide (a.col < (b.col + b.w))) X0), (32, Xv 1 ((decide (a.row < (b.row + b.h)) && decide (b.row < (a.row + a.h))) && decide (a.col < (b.col + b.w))) X0), (34, Xv 1 ((decide (a.row < (b.row + b.h)) && decide (b.row < (a.row + a.h))) && decide (a.col < (b.col + b.w))) X0), (35, Xv 2 ((decide (a.row < (b.row + b.h)) && decide (b.row < (a.row + a.h))) && decide (a.col < (b.col + b.w))) (Xn (a.col + a.w))), (36, Xv 2 ((decide (a.row < (b.row + b.h)) && decide (b.row < (a.row + a.h))) && decide (a.col < (b.col + b.w))) X0), (37, X (Xk ((decide (a.row < (b.row + b.h)) && decide (b.row < (a.row + a.h))) && decide (a.col < (b.col + b.w)))))]] [] (fun z0 => (VB z0, [])) ((((decide (a.row < (b.row + b.h)) && decide (b.row < (a.row + a.h))) && decide (a.col < (b.col + b.w))) && decide (b.col < (a.col + a.w))) : Bool) ((meetB a b) : Bool) e1

theorem fc_before (a b : Rect) : FC Tryd.prog 69 [.t (rectT a), .t (rectT b)] (app emp []) (VB (befB a b)) (app emp []) := by
 refine .go Tryd.f69 ?_
 have e1 : ((befB a b) : Bool) = (decide (a.row < b.row) || ((a.row == b.row) && decide (a.col < b.col))) := by
  unfold befB; rw [Bool.eq_iff_iff]; simp; try omega
 exact .finE [.r [], .r [(7, Xv 1 (!(decide (a.row < b.row))) X0), (9, Xv 1 (!(decide (a.row < b.row))) X0), (10, Xv 2 (!(decide (a.row < b.row))) X0), (11, Xv 1 (!(decide (a.row < b.row))) X0), (13, Xv 1 ((!(decide (a.row < b.row))) && (a.row == b.row)) X0), (15, Xv 1 ((!(decide (a.row < b.row))) && (a.row == b.row)) X0), (16, Xv 2 ((!(decide (a.row < b.row))) && (a.row == b.row)) X0), (17, Xka (!(decide (a.row < b.row))) (a.row == b.row)), (18, X (Xk' (decide (a.row < b.row))))]] [] (fun z0 => (VB z0, [])) ((decide (a.row < b.row) || ((a.row == b.row) && decide (a.col < b.col))) : Bool) ((befB a b) : Bool) e1

theorem fc_idxQ (l : List Rect) (r : Rect) : FC Tryd.prog 74 [VL 4 rectT l, .t (rectT r)] (app emp []) (VI (idxQ l r 0)) (app emp []) := by
 refine .go Tryd.f74 ?_
 refine .len 0 (fun hl0 => ?_)
 refine .loop (α := Nat) [.r [], .r [(1, X (Xl rectT l))]] 40 (fun i => ([(0, VL 4 rectT l), (3, .ptr 0 0), (7, VI (l.length : Int)), (8, VI (i : Int))], [(0, .box [VI r.row, VI r.col, VI r.h, VI r.w])])) (fun i => i ≤ l.length ∧ idxQ l r 0 = idxQ l r i) (fun i => l.length - i) (0 : Nat) ?_ ?_
 ·
  exact ⟨by omega, rfl⟩
 rintro i I2 ih2
 try dsimp only at I2
 refine .br [.r []] (decide ((i : Int) < (l.length : Int))) (fun h2 => ?_) (fun h2 => ?_)
 ·
  (try simp only [decide_eq_true_eq, decide_eq_false_iff_not, Int.not_lt, Int.not_le] at h2)
  refine .br [.r [], .r [(3, X (Xi rectT l (i : Int)))]] (r.row == (((l.getD i default)).row) && (r.col == (((l.getD i default)).col) && (r.h == (((l.getD i default)).h) && (r.w == (((l.getD i default)).w) && true)))) (fun h4 => ?_) (fun h4 => ?_)
  ·
   (try simp only [Bool.and_eq_true, Bool.and_eq_false_iff, Bool.not_eq_true', Bool.not_eq_false', beq_iff_eq, beq_eq_false_iff_ne, ne_eq] at h4)
   have e1 : ((idxQ l r 0) : Int) = (i : Int) := by
    rw [I2.2, idxQ, if_pos (by omega), if_pos]
    refine rect_ext ?_ ?_ ?_ ?_ <;> omega
   exact .finE [.r []] [] (fun z0 => (VI z0, [])) ((i : Int) : Int) ((idxQ l r 0) : Int) e1
  ·
   (try simp only [Bool.and_eq_true, Bool.and_eq_false_iff, Bool.not_eq_true', Bool.not_eq_false', beq_iff_eq, beq_eq_false_iff_ne, ne_eq] at h4)
   refine .back [.r [(0, X (Xn ((i : Int) + 1)))]] [(0, 0)] (ih2 ((i + 1) : Nat) ?_ ?_)
   ·
    refine ⟨by omega, ?_⟩
    rw [I2.2, idxQ, if_pos (by omega), if_neg]
    intro e; rw [e] at h4; simp at h4
   ·
    ((try dsimp only); omega)
 ·
  (try simp only [decide_eq_true_eq, decide_eq_false_iff_not, Int.not_lt, Int.not_le] at h2)
  have e2 : ((idxQ l r 0) : Int) = -1 := by
   rw [I2.2, idxQ, if_neg (by omega)]
  exact .finE [.r []] [] (fun z0 => (VI z0, [])) (-1 : Int) ((idxQ l r 0) : Int) e2

theorem fc_hasQ (l : List Rect) (r : Rect) : FC Tryd.prog 49 [VL 4 rectT l, .t (rectT r)] (app emp []) (VB (hasQ l r)) (app emp []) := by
 refine .go Tryd.f49 ?_
 refine .len 0 (fun hl0 => ?_)
 have e1 : ((hasQ l r) : Bool) = decide ((idxQ l r 0) ≥ 0) := by
  unfold hasQ; rw [Bool.eq_iff_iff]; simp only [decide_eq_true_eq, ge_iff_le]; rw [idxQ_ge _ 0 rfl]; simp
 exact .finE [.r [], .r [(2, X (Xc0 (fc_idxQ l r) X0))]] [] (fun z0 => (VB z0, [])) (decide ((idxQ l r 0) ≥ 0) : Bool) ((hasQ l r) : Bool) e1

theorem fc_axsize (n : Int) (a : List AxStep) (hv : 0 < a.length → Valid a) : FC Tryd.prog 45 [VI n, VL 2 stepT a] (app emp []) (.tup [VI (if 0 < a.length then newI a else n), VB (decide (0 < a.length → oldI a = n))]) (app emp []) := by
 refine .go Tryd.f45 ?_
 refine .len 1 (fun hl1 => ?_)
 refine .br [.r [], .r [(1, X (Xl stepT a))]] ((a.length : Int) == 0) (fun h1 => ?_) (fun h1 => ?_)
 ·
  (try simp only [beq_iff_eq, beq_eq_false_iff_ne, ne_eq] at h1)
  have e1 : ((if 0 < a.length then newI a else n) : Int) = n := by
   first | rw [if_neg (by omega)] | exact decide_eq_true (fun h => by omega) | exact (decide_eq_true (fun h => by omega)).symm
  have e2 : ((decide (0 < a.length → oldI a = n)) : Bool) = true := by
   first | rw [if_neg (by omega)] | exact decide_eq_true (fun h => by omega) | exact (decide_eq_true (fun h => by omega)).symm
  exact .finE [.r []] [] (fun (z0, z1) => (.tup [VI z0, VB z1], [])) ((n : Int), (true : Bool)) (((if 0 < a.length then newI a else n) : Int), ((decide (0 < a.length → oldI a = n)) : Bool)) (pr e1 e2)
 ·
  (try simp only [beq_iff_eq, beq_eq_false_iff_ne, ne_eq] at h1)
  have ha : 0 < a.length := by omega
  have hv2 := hv ha
  have e3 : ((if 0 < a.length then newI a else n) : Int) = (newI a) := by
   first | rw [if_pos (by omega)] | (rw [Bool.eq_iff_iff, decide_eq_true_eq, beq_iff_eq]; exact ⟨fun h => h (by omega), fun h _ => h⟩)
  have e4 : ((decide (0 < a.length → oldI a = n)) : Bool) = ((oldI a) == n) := by
   first | rw [if_pos (by omega)] | (rw [Bool.eq_iff_iff, decide_eq_true_eq, beq_iff_eq]; exact ⟨fun h => h (by omega), fun h _ => h⟩)
  exact .finE [.r [(1, X (Xc0 (fc_axLengths a (by assumption)) X0))], .r []] [] (fun (z0, z1) => (.tup [VI z0, VB z1], [])) (((newI a) : Int), (((oldI a) == n) : Bool)) (((if 0 < a.length then newI a else n) : Int), ((decide (0 < a.length → oldI a = n)) : Bool)) (pr e3 e4)

theorem fc_through (r : Rect) (rows cols : List AxStep) (hb : RB r) (hr : AxIn rows r.row (r.row + r.h)) (hc : AxIn cols r.col (r.col + r.w)) : FC Tryd.prog 48 [.t (rectT r), VL 2 stepT rows, VL 2 stepT cols] (app emp []) (.tup [.t (rectT (thrR r rows cols)), VB (thrB (thrR r rows cols))]) (app emp []) := by
 refine .go Tryd.f48 ?_
 refine .len 1 (fun hl1 => ?_)
 refine .len 2 (fun hl2 => ?_)
 unfold RB at hb
 unfold AxIn at hr hc
 refine .br [.r [], .r [(1, X (Xl stepT rows))]] (decide ((rows.length : Int) > 0)) (fun h1 => ?_) (fun h1 => ?_)
 ·
  (try simp only [decide_eq_true_eq, decide_eq_false_iff_not, Int.not_lt, Int.not_le, gt_iff_lt] at h1)
  have hr0 : 0 < rows.length := by omega
  obtain ⟨hv1, hr1⟩ := hr hr0
  have hh := hull_bd hv1 hr1
  refine .br [.r [(7, X (Xn (r.row + r.h))), (8, X (Xc0 (fc_hull rows r.row (r.row + r.h) (by assumption) (by omega)) X0))], .r [(3, X (Xn (((hullS rows r.row (r.row + r.h) 0 0 0 0).2) - ((hullS rows r.row (r.row + r.h) 0 0 0 0).1))))], .r [(1, X (Xl stepT cols))]] (decide ((cols.length : Int) > 0)) (fun h4 => ?_) (fun h4 => ?_)
  ·
   (try simp only [decide_eq_true_eq, decide_eq_false_iff_not, Int.not_lt, Int.not_le, gt_iff_lt] at h4)
   have hc0 : 0 < cols.length := by omega
   obtain ⟨hv2, hc1⟩ := hc hc0
   have hk := hull_bd hv2 hc1
   have e1 : ((thrR r rows cols) : Rect) = ({ row := (hullS rows r.row (r.row + r.h) 0 0 0 0).1, col := (hullS cols r.col (r.col + r.w) 0 0 0 0).1, h := (((hullS rows r.row (r.row + r.h) 0 0 0 0).2) - ((hullS rows r.row (r.row + r.h) 0 0 0 0).1)), w := (((hullS cols r.col (r.col + r.w) 0 0 0 0).2) - ((hullS cols r.col (r.col + r.w) 0 0 0 0).1)) } : Rect) := by
    unfold thrR; simp only []; (first | rw [if_pos (show 0 < rows.length by omega), if_pos (show 0 < cols.length by omega)] | rw [if_pos (show 0 < rows.length by omega), if_neg (show ¬ 0 < cols.length by omega)] | rw [if_neg (show ¬ 0 < rows.length by omega), if_pos (show 0 < cols.length by omega)] | rw [if_neg (show ¬ 0 < rows.length by omega), if_neg (show ¬ 0 < cols.length by omega)])
   have e2 : ((thrB (thrR r rows cols)) : Bool) = ((decide ((((hullS rows r.row (r.row + r.h) 0 0 0 0).2) - ((hullS rows r.row (r.row + r.h) 0 0 0 0).1)) > 0) && decide ((((hullS cols r.col (r.col + r.w) 0 0 0 0).2) - ((hullS cols r.col (r.col + r.w) 0 0 0 0).1)) > 0)) && decide (((((hullS rows r.row (r.row + r.h) 0 0 0 0).2) - ((hullS rows r.row (r.row + r.h) 0 0 0 0).1)) + (((hullS cols r.col (r.col + r.w) 0 0 0 0).2) - ((hullS cols r.col (r.col + r.w) 0 0 0 0).1))) > 2)) := by
    unfold thrB thrR; simp only []; (first | rw [if_pos (show 0 < rows.length by omega), if_pos (show 0 < cols.length by omega)] | rw [if_pos (show 0 < rows.length by omega), if_neg (show ¬ 0 < cols.length by omega)] | rw [if_neg (show ¬ 0 < rows.length by omega), if_pos (show 0 < cols.length by omega)] | rw [if_neg (show ¬ 0 < rows.length by omega), if_neg (show ¬ 0 < cols.length by omega)]); rw [Bool.eq_iff_iff]; simp; try omega
   exact .finVE [.r [(7, X (Xn (r.col + r.w))), (8, X (Xc0 (fc_hull cols r.col (r.col + r.w) (by assumption) (by omega)) X0))], .r [(3, X (Xn (((hullS cols r.col (r.col + r.w) 0 0 0 0).2) - ((hullS cols r.col (r.col + r.w) 0 0 0 0).1))))], .r [(6, Xv 1 (decide ((((hullS rows r.row (r.row + r.h) 0 0 0 0).2) - ((hullS rows r.row (r.row + r.h) 0 0 0 0).1)) > 0)) X0), (7, Xv 1 (decide ((((hullS rows r.row (r.row + r.h) 0 0 0 0).2) - ((hullS rows r.row (r.row + r.h) 0 0 0 0).1)) > 0)) X0), (8, X (Xk (decide ((((hullS rows r.row (r.row + r.h) 0 0 0 0).2) - ((hullS rows r.row (r.row + r.h) 0 0 0 0).1)) > 0)))), (11, Xv 1 (decide ((((hullS rows r.row (r.row + r.h) 0 0 0 0).2) - ((hullS rows r.row (r.row + r.h) 0 0 0 0).1)) > 0) && decide ((((hullS cols r.col (r.col + r.w) 0 0 0 0).2) - ((hullS cols r.col (r.col + r.w) 0 0 0 0).1)) > 0)) X0), (13, Xv 1 (decide ((((hullS rows r.row (r.row + r.h) 0 0 0 0).2) - ((hullS rows r.row (r.row + r.h) 0 0 0 0).1)) > 0) && decide ((((hullS cols r.col (r.col + r.w) 0 0 0 0).2) - ((hullS cols r.col (r.col + r.w) 0 0 0 0).1)) > 0)) X0), (14, Xv 2 (decide ((((hullS rows r.row (r.row + r.h) 0 0 0 0).2) - ((hullS rows r.row (r.row + r.h) 0 0 0 0).1)) > 0) && decide ((((hullS cols r.col (r.col + r.w) 0 0 0 0).2) - ((hullS cols r.col (r.col + r.w) 0 0 0 0).1)) > 0)) (Xn ((((hullS rows r.row (r.row + r.h) 0 0 0 0).2) - ((hullS rows r.row (r.row + r.h) 0 0 0 0).1)) + (((hullS cols r.col (r.col + r.w) 0 0 0 0).2) - ((hullS cols r.col (r.col + r.w) 0 0 0 0).1))))), (15, Xv 1 (decide ((((hullS rows r.row (r.row + r.h) 0 0 0 0).2) - ((hullS rows r.row (r.row + r.h) 0 0 0 0).1)) > 0) && decide ((((hullS cols r.col (r.col + r.w) 0 0 0 0).2) - ((hullS cols r.col (r.col + r.w) 0 0 0 0).1)) > 0)) X0), (16, X (Xk (decide ((((hullS rows r.row (r.row + r.h) 0 0 0 0).2) - ((hullS rows r.row (r.row + r.h) 0 0 0 0).1)) > 0) && decide ((((hullS cols r.col (r.col + r.w) 0 0 0 0).2) - ((hullS cols r.col (r.col + r.w) 0 0 0 0).1)) > 0))))]] [] [] (fun (z0, z1) => (.tup [.t (rectT z0), VB z1], [])) ((({ row := (hullS rows r.row (r.row + r.h) 0 0 0 0).1, col := (hullS cols r.col (r.col + r.w) 0 0 0 0).1, h := (((hullS rows r.row (r.row + r.h) 0 0 0 0).2) - ((hullS rows r.row (r.row + r.h) 0 0 0 0).1)), w := (((hullS cols r.col (r.col + r.w) 0 0 0 0).2) - ((hullS cols r.col (r.col + r.w) 0 0 0 0).1)) } : Rect) : Rect), (((decide ((((hullS rows r.row (r.row + r.h) 0 0 0 0).2) - ((hullS rows r.row (r.row + r.h) 0 0 0 0).1)) > 0) && decide ((((hullS cols r.col (r.col + r.w) 0 0 0 0).2) - ((hullS cols r.col (r.col + r.w) 0 0 0 0).1)) > 0)) && decide (((((hullS rows r.row (r.row + r.h) 0 0 0 0).2) - ((hullS rows r.row (r.row + r.h) 0 0 0 0).1)) + (((hullS cols r.col (r.col + r.w) 0 0 0 0).2) - ((hullS cols r.col (r.col + r.w) 0 0 0 0).1))) > 2)) : Bool)) (((thrR r rows cols) : Rect), ((thrB (thrR r rows cols)) : Bool)) (pr e1 e2)
  ·
   (try simp only [decide_eq_true_eq, decide_eq_false_iff_not, Int.not_lt, Int.not_le, gt_iff_lt] at h4)
   have e3 : ((thrR r rows cols) : Rect) = ({ row := (hullS rows r.row (r.row + r.h) 0 0 0 0).1, col := r.col, h := (((hullS rows r.row (r.row + r.h) 0 0 0 0).2) - ((hullS rows r.row (r.row + r.h) 0 0 0 0).1)), w := r.w } : Rect) := by
    unfold thrR; simp only []; (first | rw [if_pos (show 0 < rows.length by omega), if_pos (show 0 < cols.length by omega)] | rw [if_pos (show 0 < rows.length by omega), if_neg (show ¬ 0 < cols.length by omega)] | rw [if_neg (show ¬ 0 < rows.length by omega), if_pos (show 0 < cols.length by omega)] | rw [if_neg (show ¬ 0 < rows.length by omega), if_neg (show ¬ 0 < cols.length by omega)])
   have e4 : ((thrB (thrR r rows cols)) : Bool) = ((decide ((((hullS rows r.row (r.row + r.h) 0 0 0 0).2) - ((hullS rows r.row (r.row + r.h) 0 0 0 0).1)) > 0) && decide (r.w > 0)) && decide (((((hullS rows r.row (r.row + r.h) 0 0 0 0).2) - ((hullS rows r.row (r.row + r.h) 0 0 0 0).1)) + r.w) > 2)) := by
    unfold thrB thrR; simp only []; (first | rw [if_pos (show 0 < rows.length by omega), if_pos (show 0 < cols.length by omega)] | rw [if_pos (show 0 < rows.length by omega), if_neg (show ¬ 0 < cols.length by omega)] | rw [if_neg (show ¬ 0 < rows.length by omega), if_pos (show 0 < cols.length by omega)] | rw [if_neg (show ¬ 0 < rows.length by omega), if_neg (show ¬ 0 < cols.length by omega)]); rw [Bool.eq_iff_iff]; simp; try omega
   exact .finVE [.r [(6, Xv 1 (decide ((((hullS rows r.row (r.row + r.h) 0 0 0 0).2) - ((hullS rows r.row (r.row + r.h) 0 0 0 0).1)) > 0)) X0), (7, Xv 1 (decide ((((hullS rows r.row (r.row + r.h) 0 0 0 0).2) - ((hullS rows r.row (r.row + r.h) 0 0 0 0).1)) > 0)) X0), (8, X (Xk (decide ((((hullS rows r.row (r.row + r.h) 0 0 0 0).2) - ((hullS rows r.row (r.row + r.h) 0 0 0 0).1)) > 0)))), (11, Xv 1 (decide ((((hullS rows r.row (r.row + r.h) 0 0 0 0).2) - ((hullS rows r.row (r.row + r.h) 0 0 0 0).1)) > 0) && decide (r.w > 0)) X0), (13, Xv 1 (decide ((((hullS rows r.row (r.row + r.h) 0 0 0 0).2) - ((hullS rows r.row (r.row + r.h) 0 0 0 0).1)) > 0) && decide (r.w > 0)) X0), (14, Xv 2 (decide ((((hullS rows r.row (r.row + r.h) 0 0 0 0).2) - ((hullS rows r.row (r.row + r.h) 0 0 0 0).1)) > 0) && decide (r.w > 0)) (Xn ((((hullS rows r.row (r.row + r.h) 0 0 0 0).2) - ((hullS rows r.row (r.row + r.h) 0 0 0 0).1)) + r.w))), (15, Xv 1 (decide ((((hullS rows r.row (r.row + r.h) 0 0 0 0).2) - ((hullS rows r.row (r.row + r.h) 0 0 0 0).1)) > 0) && decide (r.w > 0)) X0), (16, X (Xk (decide ((((hullS rows r.row (r.row + r.h) 0 0 0 0).2) - ((hullS rows r.row (r.row + r.h) 0 0 0 0).1)) > 0) && decide (r.w > 0))))]] [] [] (fun (z0, z1) => (.tup [.t (rectT z0), VB z1], [])) ((({ row := (hullS rows r.row (r.row + r.h) 0 0 0 0).1, col := r.col, h := (((hullS rows r.row (r.row + r.h) 0 0 0 0).2) - ((hullS rows r.row (r.row + r.h) 0 0 0 0).1)), w := r.w } : Rect) : Rect), (((decide ((((hullS rows r.row (r.row + r.h) 0 0 0 0).2) - ((hullS rows r.row (r.row + r.h) 0 0 0 0).1)) > 0) && decide (r.w > 0)) && decide (((((hullS rows r.row (r.row + r.h) 0 0 0 0).2) - ((hullS rows r.row (r.row + r.h) 0 0 0 0).1)) + r.w) > 2)) : Bool)) (((thrR r rows cols) : Rect), ((thrB (thrR r rows cols)) : Bool)) (pr e3 e4)
 ·
  (try simp only [decide_eq_true_eq, decide_eq_false_iff_not, Int.not_lt, Int.not_le, gt_iff_lt] at h1)
  refine .br [.r [(1, X (Xl stepT cols))]] (decide ((cols.length : Int) > 0)) (fun h4 => ?_) (fun h4 => ?_)
  ·
   (try simp only [decide_eq_true_eq, decide_eq_false_iff_not, Int.not_lt, Int.not_le, gt_iff_lt] at h4)
   have hc0 : 0 < cols.length := by omega
   obtain ⟨hv2, hc1⟩ := hc hc0
   have hk := hull_bd hv2 hc1
   have e5 : ((thrR r rows cols) : Rect) = ({ row := r.row, col := (hullS cols r.col (r.col + r.w) 0 0 0 0).1, h := r.h, w := (((hullS cols r.col (r.col + r.w) 0 0 0 0).2) - ((hullS cols r.col (r.col + r.w) 0 0 0 0).1)) } : Rect) := by
    unfold thrR; simp only []; (first | rw [if_pos (show 0 < rows.length by omega), if_pos (show 0 < cols.length by omega)] | rw [if_pos (show 0 < rows.length by omega), if_neg (show ¬ 0 < cols.length by omega)] | rw [if_neg (show ¬ 0 < rows.length by omega), if_pos (show 0 < cols.length by omega)] | rw [if_neg (show ¬ 0 < rows.length by omega), if_neg (show ¬ 0 < cols.length by omega)])
   have e6 : ((thrB (thrR r rows cols)) : Bool) = ((decide (r.h > 0) && decide ((((hullS cols r.col (r.col + r.w) 0 0 0 0).2) - ((hullS cols r.col (r.col + r.w) 0 0 0 0).1)) > 0)) && decide ((r.h + (((hullS cols r.col (r.col + r.w) 0 0 0 0).2) - ((hullS cols r.col (r.col + r.w) 0 0 0 0).1))) > 2)) := by
    unfold thrB thrR; simp only []; (first | rw [if_pos (show 0 < rows.length by omega), if_pos (show 0 < cols.length by omega)] | rw [if_pos (show 0 < rows.length by omega), if_neg (show ¬ 0 < cols.length by omega)] | rw [if_neg (show ¬ 0 < rows.length by omega), if_pos (show 0 < cols.length by omega)] | rw [if_neg (show ¬ 0 < rows.length by omega), if_neg (show ¬ 0 < cols.length by omega)]); rw [Bool.eq_iff_iff]; simp; try omega
   exact .finVE [.r [(7, X (Xn (r.col + r.w))), (8, X (Xc0 (fc_hull cols r.col (r.col + r.w) (by assumption) (by omega)) X0))], .r [(3, X (Xn (((hullS cols r.col (r.col + r.w) 0 0 0 0).2) - ((hullS cols r.col (r.col + r.w) 0 0 0 0).1))))], .r [(6, Xv 1 (decide (r.h > 0)) X0), (7, Xv 1 (decide (r.h > 0)) X0), (8, X (Xk (decide (r.h > 0)))), (11, Xv 1 (decide (r.h > 0) && decide ((((hullS cols r.col (r.col + r.w) 0 0 0 0).2) - ((hullS cols r.col (r.col + r.w) 0 0 0 0).1)) > 0)) X0), (13, Xv 1 (decide (r.h > 0) && decide ((((hullS cols r.col (r.col + r.w) 0 0 0 0).2) - ((hullS cols r.col (r.col + r.w) 0 0 0 0).1)) > 0)) X0), (14, Xv 2 (decide (r.h > 0) && decide ((((hullS cols r.col (r.col + r.w) 0 0 0 0).2) - ((hullS cols r.col (r.col + r.w) 0 0 0 0).1)) > 0)) (Xn (r.h + (((hullS cols r.col (r.col + r.w) 0 0 0 0).2) - ((hullS cols r.col (r.col + r.w) 0 0 0 0).1))))), (15, Xv 1 (decide (r.h > 0) && decide ((((hullS cols r.col (r.col + r.w) 0 0 0 0).2) - ((hullS cols r.col (r.col + r.w) 0 0 0 0).1)) > 0)) X0), (16, X (Xk (decide (r.h > 0) && decide ((((hullS cols r.col (r.col + r.w) 0 0 0 0).2) - ((hullS cols r.col (r.col + r.w) 0 0 0 0).1)) > 0))))]] [] [] (fun (z0, z1) => (.tup [.t (rectT z0), VB z1], [])) ((({ row := r.row, col := (hullS cols r.col (r.col + r.w) 0 0 0 0).1, h := r.h, w := (((hullS cols r.col (r.col + r.w) 0 0 0 0).2) - ((hullS cols r.col (r.col + r.w) 0 0 0 0).1)) } : Rect) : Rect), (((decide (r.h > 0) && decide ((((hullS cols r.col (r.col + r.w) 0 0 0 0).2) - ((hullS cols r.col (r.col + r.w) 0 0 0 0).1)) > 0)) && decide ((r.h + (((hullS cols r.col (r.col + r.w) 0 0 0 0).2) - ((hullS cols r.col (r.col + r.w) 0 0 0 0).1))) > 2)) : Bool)) (((thrR r rows cols) : Rect), ((thrB (thrR r rows cols)) : Bool)) (pr e5 e6)
  ·
   (try simp only [decide_eq_true_eq, decide_eq_false_iff_not, Int.not_lt, Int.not_le, gt_iff_lt] at h4)
   have e7 : ((thrR r rows cols) : Rect) = r := by
    unfold thrR; simp only []; (first | rw [if_pos (show 0 < rows.length by omega), if_pos (show 0 < cols.length by omega)] | rw [if_pos (show 0 < rows.length by omega), if_neg (show ¬ 0 < cols.length by omega)] | rw [if_neg (show ¬ 0 < rows.length by omega), if_pos (show 0 < cols.length by omega)] | rw [if_neg (show ¬ 0 < rows.length by omega), if_neg (show ¬ 0 < cols.length by omega)])
   have e8 : ((thrB (thrR r rows cols)) : Bool) = ((decide (r.h > 0) && decide (r.w > 0)) && decide ((r.h + r.w) > 2)) := by
    unfold thrB thrR; simp only []; (first | rw [if_pos (show 0 < rows.length by omega), if_pos (show 0 < cols.length by omega)] | rw [if_pos (show 0 < rows.length by omega), if_neg (show ¬ 0 < cols.length by omega)] | rw [if_neg (show ¬ 0 < rows.length by omega), if_pos (show 0 < cols.length by omega)] | rw [if_neg (show ¬ 0 < rows.length by omega), if_neg (show ¬ 0 < cols.length by omega)]); rw [Bool.eq_iff_iff]; simp; try omega
   exact .finVE [.r [(6, Xv 1 (decide (r.h > 0)) X0), (7, Xv 1 (decide (r.h > 0)) X0), (8, X (Xk (decide (r.h > 0)))), (11, Xv 1 (decide (r.h > 0) && decide (r.w > 0)) X0), (13, Xv 1 (decide (r.h > 0) && decide (r.w > 0)) X0), (14, Xv 2 (decide (r.h > 0) && decide (r.w > 0)) (Xn (r.h + r.w))), (15, Xv 1 (decide (r.h > 0) && decide (r.w > 0)) X0), (16, X (Xk (decide (r.h > 0) && decide (r.w > 0))))]] [] [] (fun (z0, z1) => (.tup [.t (rectT z0), VB z1], [])) ((r : Rect), (((decide (r.h > 0) && decide (r.w > 0)) && decide ((r.h + r.w) > 2)) : Bool)) (((thrR r rows cols) : Rect), ((thrB (thrR r rows cols)) : Bool)) (pr e7 e8)
end Go.Ch
end
section
set_option linter.unusedVariables false
set_option linter.unusedSimpArgs false
set_option maxRecDepth 100000
set_option maxHeartbeats 4000000
open Go Go.Proofs Go.Ab
namespace Go.Ch
theorem fc_moved (l : List Cell) (rows cols : List AxStep) (hl : l.length ≤ 100000000000) (ha : CAN 1000000000000 l) (hr : ∀ c ∈ l, PIn rows c.row) (hc : ∀ c ∈ l, PIn cols c.col) : FC Tryd.prog 30 [VL 5 cellT l, VL 2 stepT rows, VL 2 stepT cols] (app emp []) (VL 5 cellT (movL l rows cols)) (app emp []) := by
 refine .go Tryd.f30 ?_
 refine .len 0 (fun hl0 => ?_)
 refine .len 1 (fun hl1 => ?_)
 refine .len 2 (fun hl2 => ?_)
 refine .loop (α := Nat × (List Cell)) [.r [], .r [], .r [(1, X (Xl cellT l))], .le (.nR 7 5)] 41 (fun (i, o) => ([(1, VL 2 stepT rows), (2, VL 2 stepT cols), (7, .row 40 o.length), (14, VL 5 cellT l), (15, VI (l.length : Int)), (16, VI (i : Int))], [(40, OR 5 cellT o)])) (fun (i, o) => i ≤ l.length ∧ o = movL (l.take i) rows cols) (fun (i, o) => l.length - i) (0, []) ?_ ?_
 ·
  exact ⟨by omega, rfl⟩
 rintro ⟨i, o⟩ I3 ih3
 try dsimp only at I3
 have ol : o.length ≤ i := by rw [I3.2]; have := movL_len (l.take i) rows cols; simp at this; omega
 refine .br [.r []] (decide ((i : Int) < (l.length : Int))) (fun h3 => ?_) (fun h3 => ?_)
 ·
  (try simp only [decide_eq_true_eq, decide_eq_false_iff_not, Int.not_lt, Int.not_le] at h3)
  have hm := getDC_mem (l := l) (i := i) (by omega)
  have ha1 := ha _ hm
  have hr1 := hr _ hm
  have hc1 := hc _ hm
  refine .br [.r [(0, X (Xi cellT l (i : Int)))], .r [(1, X (Xc1 89 (fc_clone ((l.getD i default)) (by omega)) X0))], .r [(1, X (Xl stepT rows))]] (decide ((rows.length : Int) > 0)) (fun h6 => ?_) (fun h6 => ?_)
  ·
   (try simp only [decide_eq_true_eq, decide_eq_false_iff_not, Int.not_lt, Int.not_le, gt_iff_lt] at h6)
   obtain ⟨hv1, hx1⟩ := hr1 (by omega)
   have hxx : ∀ x ∈ [(l.getD i default).row], 0 ≤ x ∧ x < oldI rows := fun x hx => by (have := List.mem_singleton.1 hx; omega)
   refine .br [.r [(4, X (Xc1 161 (fc_axApply rows [(((l.getD i default))).row] (by assumption) (by assumption) (by simp)) (rowC intT [(((l.getD i default))).row] X0)))], .r [(4, Xv 1 (!false) (Xi intT (List.map (fun x => placeS rows x 0 0) [(((l.getD i default))).row]) 0)), (5, Xv 1 (!false) X0), (6, Xv 1 (!false) X0), (7, X (Xk' false))]] (false || decide (((List.map (fun x => placeS rows x 0 0) [(((l.getD i default))).row]).getD 0 default) < 0)) (fun h8 => ?_) (fun h8 => ?_)
   ·
    (try simp only [decide_eq_true_eq, decide_eq_false_iff_not, Int.not_lt, Int.not_le, Bool.or_eq_true, Bool.or_eq_false_iff] at h8)
    refine .back [.r [(0, X (Xn ((i : Int) + 1)))]] [(40, 40)] (ih3 ((i + 1), o) ?_ ?_)
    ·
     refine ⟨by omega, ?_⟩
     rw [movL_succ (by omega), ← I3.2]
     unfold mvC mvR
     simp only [List.map_cons, List.map_nil, List.getD_cons_zero] at *
     (repeat' split) <;> first | rfl | (simp; done) | (exfalso; omega) | (exfalso; simp_all; done) | (exfalso; simp_all; omega)
    ·
     ((try dsimp only); omega)
   ·
    (try simp only [decide_eq_true_eq, decide_eq_false_iff_not, Int.not_lt, Int.not_le, Bool.or_eq_true, Bool.or_eq_false_iff] at h8)
    refine .br [.r [(1, X (Xi intT (List.map (fun x => placeS rows x 0 0) [(((l.getD i default))).row]) 0))], .r [(1, X (Xl stepT cols))]] (decide ((cols.length : Int) > 0)) (fun h10 => ?_) (fun h10 => ?_)
    ·
     (try simp only [decide_eq_true_eq, decide_eq_false_iff_not, Int.not_lt, Int.not_le, gt_iff_lt] at h10)
     obtain ⟨hv2, hx2⟩ := hc1 (by omega)
     have hyy : ∀ x ∈ [(l.getD i default).col], 0 ≤ x ∧ x < oldI cols := fun x hx => by (have := List.mem_singleton.1 hx; omega)
     refine .br [.r [(4, X (Xc1 369 (fc_axApply cols [(((l.getD i default))).col] (by assumption) (by assumption) (by simp)) (rowC intT [(((l.getD i default))).col] X0)))], .r [(4, Xv 1 (!false) (Xi intT (List.map (fun x => placeS cols x 0 0) [(((l.getD i default))).col]) 0)), (5, Xv 1 (!false) X0), (6, Xv 1 (!false) X0), (7, X (Xk' false))]] (false || decide (((List.map (fun x => placeS cols x 0 0) [(((l.getD i default))).col]).getD 0 default) < 0)) (fun h12 => ?_) (fun h12 => ?_)
     ·
      (try simp only [decide_eq_true_eq, decide_eq_false_iff_not, Int.not_lt, Int.not_le, Bool.or_eq_true, Bool.or_eq_false_iff] at h12)
      refine .back [.r [(0, X (Xn ((i : Int) + 1)))]] [(40, 40)] (ih3 ((i + 1), o) ?_ ?_)
      ·
       refine ⟨by omega, ?_⟩
       rw [movL_succ (by omega), ← I3.2]
       unfold mvC mvR
       simp only [List.map_cons, List.map_nil, List.getD_cons_zero] at *
       (repeat' split) <;> first | rfl | (simp; done) | (exfalso; omega) | (exfalso; simp_all; done) | (exfalso; simp_all; omega)
      ·
       ((try dsimp only); omega)
     ·
      (try simp only [decide_eq_true_eq, decide_eq_false_iff_not, Int.not_lt, Int.not_le, Bool.or_eq_true, Bool.or_eq_false_iff] at h12)
      refine .back [.r [(1, X (Xi intT (List.map (fun x => placeS cols x 0 0) [(((l.getD i default))).col]) 0))], .r [(3, X (rowC cellT [({ row := ((List.map (fun x => placeS rows x 0 0) [(((l.getD i default))).row]).getD 0 default), col := ((List.map (fun x => placeS cols x 0 0) [(((l.getD i default))).col]).getD 0 default), text := (((l.getD i default))).text, ref := (((l.getD i default))).ref, attrs := (((l.getD i default))).attrs } : Cell)] (Xap 5 cellT 40 o [({ row := ((List.map (fun x => placeS rows x 0 0) [(((l.getD i default))).row]).getD 0 default), col := ((List.map (fun x => placeS cols x 0 0) [(((l.getD i default))).col]).getD 0 default), text := (((l.getD i default))).text, ref := (((l.getD i default))).ref, attrs := (((l.getD i default))).attrs } : Cell)])))], .r [(0, X (Xn ((i : Int) + 1)))]] [(40, 40)] (ih3 ((i + 1), (o ++ [({ row := ((List.map (fun x => placeS rows x 0 0) [(((l.getD i default))).row]).getD 0 default), col := ((List.map (fun x => placeS cols x 0 0) [(((l.getD i default))).col]).getD 0 default), text := (((l.getD i default))).text, ref := (((l.getD i default))).ref, attrs := (((l.getD i default))).attrs } : Cell)])) ?_ ?_)
      ·
       refine ⟨by omega, ?_⟩
       rw [movL_succ (by omega), ← I3.2]
       unfold mvC mvR
       simp only [List.map_cons, List.map_nil, List.getD_cons_zero] at *
       (repeat' split) <;> first | rfl | (simp; done) | (exfalso; omega) | (exfalso; simp_all; done) | (exfalso; simp_all; omega)
      ·
       ((try dsimp only); omega)
    ·
     (try simp only [decide_eq_true_eq, decide_eq_false_iff_not, Int.not_lt, Int.not_le, gt_iff_lt] at h10)
     refine .back [.r [(3, X (rowC cellT [({ row := ((List.map (fun x => placeS rows x 0 0) [(((l.getD i default))).row]).getD 0 default), col := (((l.getD i default))).col, text := (((l.getD i default))).text, ref := (((l.getD i default))).ref, attrs := (((l.getD i default))).attrs } : Cell)] (Xap 5 cellT 40 o [({ row := ((List.map (fun x => placeS rows x 0 0) [(((l.getD i default))).row]).getD 0 default), col := (((l.getD i default))).col, text := (((l.getD i default))).text, ref := (((l.getD i default))).ref, attrs := (((l.getD i default))).attrs } : Cell)])))], .r [(0, X (Xn ((i : Int) + 1)))]] [(40, 40)] (ih3 ((i + 1), (o ++ [({ row := ((List.map (fun x => placeS rows x 0 0) [(((l.getD i default))).row]).getD 0 default), col := (((l.getD i default))).col, text := (((l.getD i default))).text, ref := (((l.getD i default))).ref, attrs := (((l.getD i default))).attrs } : Cell)])) ?_ ?_)
     ·
      refine ⟨by omega, ?_⟩
      rw [movL_succ (by omega), ← I3.2]
      unfold mvC mvR
      simp only [List.map_cons, List.map_nil, List.getD_cons_zero] at *
      (repeat' split) <;> first | rfl | (simp; done) | (exfalso; omega) | (exfalso; simp_all; done) | (exfalso; simp_all; omega)
     ·
      ((try dsimp only); omega)
  ·
   (try simp only [decide_eq_true_eq, decide_eq_false_iff_not, Int.not_lt, Int.not_le, gt_iff_lt] at h6)
   refine .br [.r [(1, X (Xl stepT cols))]] (decide ((cols.length : Int) > 0)) (fun h10 => ?_) (fun h10 => ?_)
   ·
    (try simp only [decide_eq_true_eq, decide_eq_false_iff_not, Int.not_lt, Int.not_le, gt_iff_lt] at h10)
    obtain ⟨hv2, hx2⟩ := hc1 (by omega)
    have hyy : ∀ x ∈ [(l.getD i default).col], 0 ≤ x ∧ x < oldI cols := fun x hx => by (have := List.mem_singleton.1 hx; omega)
    refine .br [.r [(4, X (Xc1 185 (fc_axApply cols [(((l.getD i default))).col] (by assumption) (by assumption) (by simp)) (rowC intT [(((l.getD i default))).col] X0)))], .r [(4, Xv 1 (!false) (Xi intT (List.map (fun x => placeS cols x 0 0) [(((l.getD i default))).col]) 0)), (5, Xv 1 (!false) X0), (6, Xv 1 (!false) X0), (7, X (Xk' false))]] (false || decide (((List.map (fun x => placeS cols x 0 0) [(((l.getD i default))).col]).getD 0 default) < 0)) (fun h12 => ?_) (fun h12 => ?_)
    ·
     (try simp only [decide_eq_true_eq, decide_eq_false_iff_not, Int.not_lt, Int.not_le, Bool.or_eq_true, Bool.or_eq_false_iff] at h12)
     refine .back [.r [(0, X (Xn ((i : Int) + 1)))]] [(40, 40)] (ih3 ((i + 1), o) ?_ ?_)
     ·
      refine ⟨by omega, ?_⟩
      rw [movL_succ (by omega), ← I3.2]
      unfold mvC mvR
      simp only [List.map_cons, List.map_nil, List.getD_cons_zero] at *
      (repeat' split) <;> first | rfl | (simp; done) | (exfalso; omega) | (exfalso; simp_all; done) | (exfalso; simp_all; omega)
     ·
      ((try dsimp only); omega)
    ·
     (try simp only [decide_eq_true_eq, decide_eq_false_iff_not, Int.not_lt, Int.not_le, Bool.or_eq_true, Bool.or_eq_false_iff] at h12)
     refine .back [.r [(1, X (Xi intT (List.map (fun x => placeS cols x 0 0) [(((l.getD i default))).col]) 0))], .r [(3, X (rowC cellT [({ row := (((l.getD i default))).row, col := ((List.map (fun x => placeS cols x 0 0) [(((l.getD i default))).col]).getD 0 default), text := (((l.getD i default))).text, ref := (((l.getD i default))).ref, attrs := (((l.getD i default))).attrs } : Cell)] (Xap 5 cellT 40 o [({ row := (((l.getD i default))).row, col := ((List.map (fun x => placeS cols x 0 0) [(((l.getD i default))).col]).getD 0 default), text := (((l.getD i default))).text, ref := (((l.getD i default))).ref, attrs := (((l.getD i default))).attrs } : Cell)])))], .r [(0, X (Xn ((i : Int) + 1)))]] [(40, 40)] (ih3 ((i + 1), (o ++ [({ row := (((l.getD i default))).row, col := ((List.map (fun x => placeS cols x 0 0) [(((l.getD i default))).col]).getD 0 default), text := (((l.getD i default))).text, ref := (((l.getD i default))).ref, attrs := (((l.getD i default))).attrs } : Cell)])) ?_ ?_)
     ·
      refine ⟨by omega, ?_⟩
      rw [movL_succ (by omega), ← I3.2]
      unfold mvC mvR
      simp only [List.map_cons, List.map_nil, List.getD_cons_zero] at *
      (repeat' split) <;> first | rfl | (simp; done) | (exfalso; omega) | (exfalso; simp_all; done) | (exfalso; simp_all; omega)
     ·
      ((try dsimp only); omega)
   ·
    (try simp only [decide_eq_true_eq, decide_eq_false_iff_not, Int.not_lt, Int.not_le, gt_iff_lt] at h10)
    refine .back [.r [(3, X (rowC cellT [(((l.getD i default)))] (Xap 5 cellT 40 o [(((l.getD i default)))])))], .r [(0, X (Xn ((i : Int) + 1)))]] [(40, 40)] (ih3 ((i + 1), (o ++ [(((l.getD i default)))])) ?_ ?_)
    ·
     refine ⟨by omega, ?_⟩
     rw [movL_succ (by omega), ← I3.2]
     unfold mvC mvR
     simp only [List.map_cons, List.map_nil, List.getD_cons_zero] at *
     (repeat' split) <;> first | rfl | (simp; done) | (exfalso; omega) | (exfalso; simp_all; done) | (exfalso; simp_all; omega)
    ·
     ((try dsimp only); omega)
 ·
  (try simp only [decide_eq_true_eq, decide_eq_false_iff_not, Int.not_lt, Int.not_le] at h3)
  have e1 : ((movL l rows cols) : List Cell) = o := by
   rw [I3.2, List.take_of_length_le (by omega)]
  exact .finE [.r [], .le (.fr 6 [(o.length : Nat) = (List.map cellT o).length] ⟨lm, trivial⟩)] [] (fun z0 => (VL 5 cellT z0, [])) (o : List Cell) ((movL l rows cols) : List Cell) e1
end Go.Ch
end
section
set_option linter.unusedVariables false
set_option linter.unusedSimpArgs false
set_option maxRecDepth 100000
set_option maxHeartbeats 4000000
open Go Go.Proofs Go.Ab
namespace Go.Ch
theorem fc_gput (l news : List Cell) (hl : l.length ≤ 100000000000) (hn : news.length ≤ 100000000000) (ha : CAN 1000000000000 news) : FC Tryd.prog 47 [VL 5 cellT l, VL 5 cellT news] (app emp []) (VL 5 cellT (putL news l)) (app emp []) := by
 refine .go Tryd.f47 ?_
 refine .len 0 (fun hl0 => ?_)
 refine .len 1 (fun hl1 => ?_)
 refine .loop (α := Nat × Nat × (List Cell)) [.r [], .r [], .r [], .r [(1, X (Xl cellT news))], .le (.nR 5 5)] 49 (fun (i, k, o) => ([(0, VL 5 cellT l), (5, .row 48 o.length), (6, VI (i : Int)), (9, VL 5 cellT news), (10, VI (news.length : Int)), (11, VI (k : Int))], [(48, OR 5 cellT o)])) (fun (i, k, o) => k ≤ news.length ∧ i ≤ l.length ∧ o.length ≤ i + k ∧ putL news l = o ++ putL (news.drop k) (l.drop i)) (fun (i, k, o) => news.length - k) (0, 0, []) ?_ ?_
 ·
  exact ⟨by omega, by omega, by simp, rfl⟩
 rintro ⟨i, k, o⟩ I4 ih4
 try dsimp only at I4
 refine .br [.r []] (decide ((k : Int) < (news.length : Int))) (fun h4 => ?_) (fun h4 => ?_)
 ·
  (try simp only [decide_eq_true_eq, decide_eq_false_iff_not, Int.not_lt, Int.not_le] at h4)
  have hm := ha _ (getDC_mem (l := news) (i := k) (by omega))
  refine .loop (α := Nat × (List Cell)) [.r [(0, X (Xi cellT news (k : Int)))]] 89 (fun (j, p) => ([(0, VL 5 cellT l), (5, .row 48 p.length), (6, VI (j : Int)), (8, .ptr 73 0), (9, VL 5 cellT news), (10, VI (news.length : Int)), (11, VI (k : Int))], [(48, OR 5 cellT p), (73, .box [VI (((news.getD k default)).row), VI (((news.getD k default)).col), VS (((news.getD k default)).text), VI (((news.getD k default)).ref), VL 2 attrT (((news.getD k default)).attrs)])])) (fun (j, p) => j ≤ l.length ∧ p.length ≤ j + k ∧ putL news l = p ++ putC (news.getD k default) (putL (news.drop (k + 1))) (l.drop j)) (fun (j, p) => l.length - j) (i, o) ?_ ?_
  ·
   exact ⟨by omega, by omega, by rw [I4.2.2.2, dropC (l := news) (by omega), putL]⟩
  rintro ⟨j, p⟩ I6 ih6
  try dsimp only at I6
  skip
  refine .br [.r [(2, X (Xl cellT l)), (7, Xv 2 (decide ((j : Int) < (l.length : Int))) (Xi cellT l (j : Int))), (8, Xv 1 (decide ((j : Int) < (l.length : Int))) X0), (10, Xv 2 (decide ((j : Int) < (l.length : Int))) (Xc0 (fc_order ((l.getD j default)) ((news.getD k default))) X0)), (11, Xv 1 (decide ((j : Int) < (l.length : Int))) X0), (12, X (Xk (decide ((j : Int) < (l.length : Int)))))]] (decide ((j : Int) < (l.length : Int)) && decide ((ordC ((l.getD j default)) ((news.getD k default))) < 0)) (fun h6 => ?_) (fun h6 => ?_)
  ·
   (try simp only [decide_eq_true_eq, decide_eq_false_iff_not, Int.not_lt, Int.not_le, Bool.and_eq_true, Bool.and_eq_false_iff, Bool.not_eq_true', Bool.not_eq_false'] at h6)
   refine .back [.r [(3, X (Xi cellT l (j : Int))), (6, X (rowC cellT [((l.getD j default))] (Xap 5 cellT 48 p [((l.getD j default))])))], .r [(1, X (Xn ((j : Int) + 1)))]] [(48, 48), (73, 73)] (ih6 ((j + 1), (p ++ [((l.getD j default))])) ?_ ?_)
   ·
    refine ⟨by omega, by simp; omega, ?_⟩
    rw [I6.2.2, putC_lt (by omega) (by omega), List.append_assoc]
    rfl
   ·
    ((try dsimp only); omega)
  ·
   (try simp only [decide_eq_true_eq, decide_eq_false_iff_not, Int.not_lt, Int.not_le, Bool.and_eq_true, Bool.and_eq_false_iff, Bool.not_eq_true', Bool.not_eq_false'] at h6)
   refine .br [.r [(2, X (Xl cellT l)), (7, Xv 2 (decide ((j : Int) < (l.length : Int))) (Xi cellT l (j : Int))), (8, Xv 1 (decide ((j : Int) < (l.length : Int))) X0), (10, Xv 2 (decide ((j : Int) < (l.length : Int))) (Xc0 (fc_order ((l.getD j default)) ((news.getD k default))) X0)), (11, Xv 1 (decide ((j : Int) < (l.length : Int))) X0), (12, X (Xk (decide ((j : Int) < (l.length : Int)))))]] (decide ((j : Int) < (l.length : Int)) && ((ordC ((l.getD j default)) ((news.getD k default))) == 0)) (fun h9 => ?_) (fun h9 => ?_)
   ·
    (try simp only [decide_eq_true_eq, decide_eq_false_iff_not, Int.not_lt, Int.not_le, Bool.and_eq_true, Bool.and_eq_false_iff, Bool.not_eq_true', Bool.not_eq_false', beq_iff_eq, beq_eq_false_iff_ne, ne_eq] at h9)
    refine .br [.r [(1, X (Xn ((j : Int) + 1)))], .r [(1, X (Xc0 (fc_empty ((news.getD k default))) X0))]] (!(emptyC ((news.getD k default)))) (fun h11 => ?_) (fun h11 => ?_)
    ·
     (try simp only [Bool.not_eq_true', Bool.not_eq_false'] at h11)
     refine .back [.r [(2, X (Xc1 361 (fc_clone ((news.getD k default)) (by omega)) X0)), (4, X (rowC cellT [((news.getD k default))] (Xap 5 cellT 48 p [((news.getD k default))])))], .r [(0, X (Xn ((k : Int) + 1)))]] [(48, 48)] (ih4 ((j + 1), (k + 1), (p ++ [((news.getD k default))])) ?_ ?_)
     ·
      refine ⟨by omega, by omega, by ((try simp only [List.length_append, List.length_cons, List.length_nil]); omega), ?_⟩
      rw [I6.2.2]
      (first | rw [putC_eq (by omega) (by omega)] | rw [putC_gt (fun h => by omega)])
      (first | rw [if_pos (by assumption)] | rw [if_neg (by simp_all)])
      simp
     ·
      ((try dsimp only); omega)
    ·
     (try simp only [Bool.not_eq_true', Bool.not_eq_false'] at h11)
     refine .back [.r [(0, X (Xn ((k : Int) + 1)))]] [(48, 48)] (ih4 ((j + 1), (k + 1), p) ?_ ?_)
     ·
      refine ⟨by omega, by omega, by ((try simp only [List.length_append, List.length_cons, List.length_nil]); omega), ?_⟩
      rw [I6.2.2]
      (first | rw [putC_eq (by omega) (by omega)] | rw [putC_gt (fun h => by omega)])
      (first | rw [if_pos (by assumption)] | rw [if_neg (by simp_all)])
      simp
     ·
      ((try dsimp only); omega)
   ·
    (try simp only [decide_eq_true_eq, decide_eq_false_iff_not, Int.not_lt, Int.not_le, Bool.and_eq_true, Bool.and_eq_false_iff, Bool.not_eq_true', Bool.not_eq_false', beq_iff_eq, beq_eq_false_iff_ne, ne_eq] at h9)
    refine .br [.r [(1, X (Xc0 (fc_empty ((news.getD k default))) X0))]] (!(emptyC ((news.getD k default)))) (fun h11 => ?_) (fun h11 => ?_)
    ·
     (try simp only [Bool.not_eq_true', Bool.not_eq_false'] at h11)
     refine .back [.r [(2, X (Xc1 337 (fc_clone ((news.getD k default)) (by omega)) X0)), (4, X (rowC cellT [((news.getD k default))] (Xap 5 cellT 48 p [((news.getD k default))])))], .r [(0, X (Xn ((k : Int) + 1)))]] [(48, 48)] (ih4 (j, (k + 1), (p ++ [((news.getD k default))])) ?_ ?_)
     ·
      refine ⟨by omega, by omega, by ((try simp only [List.length_append, List.length_cons, List.length_nil]); omega), ?_⟩
      rw [I6.2.2]
      (first | rw [putC_eq (by omega) (by omega)] | rw [putC_gt (fun h => by omega)])
      (first | rw [if_pos (by assumption)] | rw [if_neg (by simp_all)])
      simp
     ·
      ((try dsimp only); omega)
    ·
     (try simp only [Bool.not_eq_true', Bool.not_eq_false'] at h11)
     refine .back [.r [(0, X (Xn ((k : Int) + 1)))]] [(48, 48)] (ih4 (j, (k + 1), p) ?_ ?_)
     ·
      refine ⟨by omega, by omega, by ((try simp only [List.length_append, List.length_cons, List.length_nil]); omega), ?_⟩
      rw [I6.2.2]
      (first | rw [putC_eq (by omega) (by omega)] | rw [putC_gt (fun h => by omega)])
      (first | rw [if_pos (by assumption)] | rw [if_neg (by simp_all)])
      simp
     ·
      ((try dsimp only); omega)
 ·
  (try simp only [decide_eq_true_eq, decide_eq_false_iff_not, Int.not_lt, Int.not_le] at h4)
  have e1 : ((putL news l) : List Cell) = (o ++ (l.drop i)) := by
   rw [I4.2.2.2, dropC_end (l := news) (by omega), putL]
  exact .finE [.r [(3, X (Xsd cellT 5 l (i : Int))), (4, X (Xap 5 cellT 48 o (l.drop i)))], .le (.fr 4 [(((o ++ (l.drop i)).length) : Nat) = (List.map cellT (o ++ (l.drop i))).length] ⟨lm, trivial⟩)] [] (fun z0 => (VL 5 cellT z0, [])) ((o ++ (l.drop i)) : List Cell) ((putL news l) : List Cell) e1
end Go.Ch
end
section
set_option linter.unusedVariables false
namespace Go.Ch
open Go Go.Ab

theorem getDX_mem {α : Type} [Inhabited α] {l : List α} {i : Nat} (h : i < l.length) : l.getD i default ∈ l := by
  rw [show l.getD i default = l[i] by simp [List.getD, List.getElem?_eq_getElem h]]; exact List.getElem_mem _
theorem take_succD {α : Type} [Inhabited α] {l : List α} {i : Nat} (h : i < l.length) : l.take (i + 1) = l.take i ++ [l.getD i default] := by
  rw [List.take_succ_eq_append_getElem h]; simp [List.getD, List.getElem?_eq_getElem h]
theorem drop_succD {α : Type} [Inhabited α] {l : List α} {i : Nat} (h : i < l.length) : l.drop i = l.getD i default :: l.drop (i + 1) := by
  rw [List.drop_eq_getElem_cons h]; simp [List.getD, List.getElem?_eq_getElem h]
theorem filt_succ {α : Type} [Inhabited α] (p : α → Bool) {l : List α} {i : Nat} (h : i < l.length) : (l.take (i + 1)).filter p = (l.take i).filter p ++ (if p (l.getD i default) = true then [l.getD i default] else []) := by
  rw [take_succD h, List.filter_append]
  congr 1
  rw [List.filter_cons, List.filter_nil]
/-! ### Back, rects, reach -/
def outQ (l k : List Rect) : List Rect := l.filter (fun r => !hasQ k r)
def backE (b g : Grid) (rows cols : List AxStep) : GEd := ⟨rows, cols, difL g.cells b.cells, outQ b.merges g.merges, outQ g.merges b.merges⟩
def thrO (rows cols : List AxStep) (r : Rect) : Option Rect := if thrB (thrR r rows cols) = true then some (thrR r rows cols) else none
def rectL (l : List Rect) (rows cols : List AxStep) : List Rect := l.filterMap (thrO rows cols)
theorem rectL_succ {l : List Rect} {rows cols : List AxStep} {i : Nat} (h : i < l.length) : rectL (l.take (i + 1)) rows cols = rectL (l.take i) rows cols ++ (if thrB (thrR (l.getD i default) rows cols) = true then [thrR (l.getD i default) rows cols] else []) := by
  unfold rectL
  rw [take_succD h, List.filterMap_append]
  congr 1
  rw [List.filterMap_cons, List.filterMap_nil]
  unfold thrO
  by_cases h : thrB (thrR (l.getD i default) rows cols) = true
  · rw [if_pos h, if_pos h]
  · rw [if_neg h, if_neg h]
theorem rectL_len (l : List Rect) (rows cols : List AxStep) : (rectL l rows cols).length ≤ l.length := List.length_filterMap_le _ _
/-- A rectangle that both axes' changes can take. -/
def QIn (rows cols : List AxStep) (r : Rect) : Prop := RB r ∧ AxIn rows r.row (r.row + r.h) ∧ AxIn cols r.col (r.col + r.w)
def mxS (a : List AxStep) : Int := if 0 < a.length then oldI a else 2147483647
def RchOk (e : GEd) (h w : Int) : Prop := (∀ c ∈ e.cells, c.row < h ∧ c.col < w) ∧ (∀ r ∈ e.split, insB r h w = true) ∧ ∀ r ∈ e.merge, insB r h w = true

/-! ### What the document says -/
def liesB (r : Rect) (m n : Int) : Bool := insB r m n
def sameCells (a b : List Cell) (i : Nat) : Bool := if i < a.length then (if sameC (a.getD i default) (b.getD i default) = true then sameCells a b (i + 1) else false) else true
termination_by a.length - i
def sameCs (a b : List Cell) : Bool := if a.length = b.length then sameCells a b 0 else false
def sameRects (a b : List Rect) (i : Nat) : Bool := if i < a.length then (if a.getD i default = b.getD i default then sameRects a b (i + 1) else false) else true
termination_by a.length - i
def sameQs (a b : List Rect) : Bool := if a.length = b.length then sameRects a b 0 else false
def sameG (a b : Grid) : Bool := ((a.rows == b.rows && a.cols == b.cols) && sameCs a.cells b.cells) && sameQs a.merges b.merges
def sumN (l : List AxStep) : Int := ((ex l).length : Int)
def pA (a b : List AxStep) : List AxStep := if a.length = 0 ∨ b.length = 0 then a else pairX1 a b
def pB (a b : List AxStep) : List AxStep := if a.length = 0 ∨ b.length = 0 then b else pairX2 a b
structure PairOk (a b : List AxStep) : Prop where
  va : Valid a
  vb : Valid b
  eq : oldI a = oldI b
  c1 : checkX (pairX1 a b) = 0
  c2 : checkX (pairX2 a b) = 0
def smallB (g : Grid) (e : GEd) : Bool := ((decide (g.rows ≤ 30) && decide (g.cols ≤ 30)) && decide (sumN e.rows ≤ 60)) && decide (sumN e.cols ≤ 60)
def shareB (a b : Rect) : Bool := decide (max a.row b.row < min (a.row + a.h) (b.row + b.h)) && decide (max a.col b.col < min (a.col + a.w) (b.col + b.w))
end Go.Ch
end
section
set_option linter.unusedVariables false
set_option linter.unusedSimpArgs false
set_option maxRecDepth 100000
set_option maxHeartbeats 4000000
open Go Go.Proofs Go.Ab
namespace Go.Ch
theorem fc_rects (l : List Rect) (rows cols : List AxStep) (hl : l.length ≤ 100000000000) (hq : ∀ r ∈ l, QIn rows cols r) : FC Tryd.prog 31 [VL 4 rectT l, VL 2 stepT rows, VL 2 stepT cols] (app emp []) (VL 4 rectT (rectL l rows cols)) (app emp []) := by
 refine .go Tryd.f31 ?_
 refine .len 0 (fun hl0 => ?_)
 refine .len 1 (fun hl1 => ?_)
 refine .len 2 (fun hl2 => ?_)
 refine .loop (α := Nat × (List Rect)) [.r [], .r [], .r [(1, X (Xl rectT l))], .le (.nR 7 4)] 41 (fun (i, o) => ([(1, VL 2 stepT rows), (2, VL 2 stepT cols), (7, .row 40 o.length), (12, VL 4 rectT l), (13, VI (l.length : Int)), (14, VI (i : Int))], [(40, OR 4 rectT o)])) (fun (i, o) => i ≤ l.length ∧ o = rectL (l.take i) rows cols) (fun (i, o) => l.length - i) (0, []) ?_ ?_
 ·
  exact ⟨by omega, rfl⟩
 rintro ⟨i, o⟩ I3 ih3
 try dsimp only at I3
 have ol : o.length ≤ i := by rw [I3.2]; have := rectL_len (l.take i) rows cols; simp at this; omega
 refine .br [.r []] (decide ((i : Int) < (l.length : Int))) (fun h3 => ?_) (fun h3 => ?_)
 ·
  (try simp only [decide_eq_true_eq, decide_eq_false_iff_not, Int.not_lt, Int.not_le] at h3)
  obtain ⟨g1, g2, g3⟩ := hq _ (getDX_mem (l := l) (i := i) (by omega))
  refine .br [.r [(0, X (Xi rectT l (i : Int)))], .r [(3, X (Xc0 (fc_through ((l.getD i default)) rows cols (by assumption) (by assumption) (by assumption)) X0))], .r []] (thrB (thrR ((l.getD i default)) rows cols)) (fun h6 => ?_) (fun h6 => ?_)
  ·
   refine .back [.r [(3, X (rowC rectT [((thrR ((l.getD i default)) rows cols))] (Xap 4 rectT 40 o [((thrR ((l.getD i default)) rows cols))])))], .r [(0, X (Xn ((i : Int) + 1)))]] [(40, 40)] (ih3 ((i + 1), (o ++ [((thrR ((l.getD i default)) rows cols))])) ?_ ?_)
   ·
    refine ⟨by omega, ?_⟩
    rw [I3.2, rectL_succ (by omega)]
    simp only [h6, Bool.not_false, Bool.not_true, if_true, if_false, List.append_nil, Bool.false_eq_true]
   ·
    ((try dsimp only); omega)
  ·
   refine .back [.r [(0, X (Xn ((i : Int) + 1)))]] [(40, 40)] (ih3 ((i + 1), o) ?_ ?_)
   ·
    refine ⟨by omega, ?_⟩
    rw [I3.2, rectL_succ (by omega)]
    simp only [h6, Bool.not_false, Bool.not_true, if_true, if_false, List.append_nil, Bool.false_eq_true]
   ·
    ((try dsimp only); omega)
 ·
  (try simp only [decide_eq_true_eq, decide_eq_false_iff_not, Int.not_lt, Int.not_le] at h3)
  have e1 : ((rectL l rows cols) : List Rect) = o := by
   rw [I3.2, List.take_of_length_le (by omega)]
  exact .finE [.r [], .le (.fr 6 [(o.length : Nat) = (List.map rectT o).length] ⟨lm, trivial⟩)] [] (fun z0 => (VL 4 rectT z0, [])) (o : List Rect) ((rectL l rows cols) : List Rect) e1

theorem fc_reach (e : GEd) (rows cols : List AxStep) (hr : 0 < rows.length → Valid rows) (hc : 0 < cols.length → Valid cols) (he : e.cells.length ≤ 100000000000 ∧ e.split.length ≤ 100000000000 ∧ e.merge.length ≤ 100000000000) (hx : RchOk e (mxS rows) (mxS cols)) : FC Tryd.prog 29 [.t (gedT e), VL 2 stepT rows, VL 2 stepT cols] (app emp []) (VB true) (app emp []) := by
 refine .go Tryd.f29 ?_
 refine .len 1 (fun hl1 => ?_)
 refine .len 2 (fun hl2 => ?_)
 unfold RchOk mxS at hx
 refine .br [.r [], .r [], .r [(1, X (Xl stepT rows))]] (decide ((rows.length : Int) > 0)) (fun h2 => ?_) (fun h2 => ?_)
 ·
  (try simp only [decide_eq_true_eq, decide_eq_false_iff_not, Int.not_lt, Int.not_le, gt_iff_lt] at h2)
  have hr0 : 0 < rows.length := by omega
  have hv := hr hr0
  have hv1 := hv.2.1
  have hw1 : 0 ≤ oldI rows ∧ oldI rows ≤ 1000000000000 := by (unfold oldI; omega)
  refine .br [.r [(1, X (Xc0 (fc_axLengths rows (by assumption)) X0))], .r [(1, X (Xl stepT cols))]] (decide ((cols.length : Int) > 0)) (fun h4 => ?_) (fun h4 => ?_)
  ·
   (try simp only [decide_eq_true_eq, decide_eq_false_iff_not, Int.not_lt, Int.not_le, gt_iff_lt] at h4)
   have hc0 : 0 < cols.length := by omega
   have hv2 := hc hc0
   have hv3 := hv2.2.1
   have hw2 : 0 ≤ oldI cols ∧ oldI cols ≤ 1000000000000 := by (unfold oldI; omega)
   refine .loop (α := Nat) [.r [(1, X (Xc0 (fc_axLengths cols (by assumption)) X0))], .r [(2, X (Xl cellT e.cells))]] 224 (fun i => ([(3, .ptr 0 0), (7, VI (oldI rows)), (8, VI (oldI cols)), (34, VL 5 cellT e.cells), (35, VI (e.cells.length : Int)), (36, VI (i : Int))], [(0, .box [VL 2 stepT e.rows, VL 2 stepT e.cols, VL 5 cellT e.cells, VL 4 rectT e.split, VL 4 rectT e.merge])])) (fun i => i ≤ e.cells.length) (fun i => e.cells.length - i) (0 : Nat) ?_ ?_
   ·
    (try dsimp only); omega
   rintro i I7 ih7
   try dsimp only at I7
   first | rw [if_pos (show 0 < rows.length by omega)] at hx | rw [if_neg (show ¬ 0 < rows.length by omega)] at hx
   first | rw [if_pos (show 0 < cols.length by omega)] at hx | rw [if_neg (show ¬ 0 < cols.length by omega)] at hx
   refine .br [.r []] (decide ((i : Int) < (e.cells.length : Int))) (fun h7 => ?_) (fun h7 => ?_)
   ·
    (try simp only [decide_eq_true_eq, decide_eq_false_iff_not, Int.not_lt, Int.not_le] at h7)
    have hm := hx.1 _ (getDX_mem (l := e.cells) (i := i) (by omega))
    refine .br [.r [(0, X (Xi cellT e.cells (i : Int)))], .r [(6, Xv 1 (!(decide ((((e.cells.getD i default)).row) ≥ (oldI rows)))) X0), (8, Xv 2 (!(decide ((((e.cells.getD i default)).row) ≥ (oldI rows)))) X0), (9, X (Xk' (decide ((((e.cells.getD i default)).row) ≥ (oldI rows)))))]] (decide ((((e.cells.getD i default)).row) ≥ (oldI rows)) || decide ((((e.cells.getD i default)).col) ≥ (oldI cols))) (fun h9 => ?_) (fun h9 => ?_)
    ·
     (try simp only [decide_eq_true_eq, decide_eq_false_iff_not, Int.not_lt, Int.not_le, ge_iff_le, Bool.or_eq_true, Bool.or_eq_false_iff] at h9)
     exfalso
     omega
    ·
     (try simp only [decide_eq_true_eq, decide_eq_false_iff_not, Int.not_lt, Int.not_le, ge_iff_le, Bool.or_eq_true, Bool.or_eq_false_iff] at h9)
     refine .back [.r [(0, X (Xn ((i : Int) + 1)))]] [(0, 0)] (ih7 ((i + 1) : Nat) ?_ ?_)
     ·
      (try dsimp only); omega
     ·
      ((try dsimp only); omega)
   ·
    (try simp only [decide_eq_true_eq, decide_eq_false_iff_not, Int.not_lt, Int.not_le] at h7)
    refine .loop (α := Nat) [.r [], .u, .r [], .t, .r [(0, X (Xa (Xc ((0:Int) ≤ 0)) (Xc ((0 : Int) < ((2 : Nat) : Int)))) ⟨by decide, by decide⟩)], .r [(1, X (Xl rectT e.split))]] 328 (fun j => ([(7, VI (oldI rows)), (8, VI (oldI cols)), (55, .t (.agg [TL 4 rectT e.split, TL 4 rectT e.merge])), (56, VI 0), (59, VL 4 rectT e.split), (60, VI (e.split.length : Int)), (61, VI (j : Int))], [])) (fun j => j ≤ (e.split).length) (fun j => (e.split).length - j) (0 : Nat) ?_ ?_
    ·
     (try dsimp only); omega
    rintro j I16 ih16
    try dsimp only at I16
    refine .br [.r []] (decide ((j : Int) < (e.split.length : Int))) (fun h16 => ?_) (fun h16 => ?_)
    ·
     (try simp only [decide_eq_true_eq, decide_eq_false_iff_not, Int.not_lt, Int.not_le] at h16)
     have hin : insB ((e.split).getD j default) (oldI rows) (oldI cols) = true := by first | exact hx.2.1 _ (getDX_mem (by omega)) | exact hx.2.2 _ (getDX_mem (by omega))
     refine .br [.r [(0, X (Xi rectT e.split (j : Int)))], .r [(3, X (Xc0 (fc_inside ((e.split.getD j default)) (oldI rows) (oldI cols) (by omega)) X0))]] (!(insB ((e.split.getD j default)) (oldI rows) (oldI cols))) (fun h18 => ?_) (fun h18 => ?_)
     ·
      (try simp only [Bool.not_eq_true', Bool.not_eq_false'] at h18)
      exfalso
      rw [hin] at h18; cases h18
     ·
      (try simp only [Bool.not_eq_true', Bool.not_eq_false'] at h18)
      refine .back [.r [(0, X (Xn ((j : Int) + 1)))]] [] (ih16 ((j + 1) : Nat) ?_ ?_)
      ·
       (try dsimp only); omega
      ·
       ((try dsimp only); omega)
    ·
     (try simp only [decide_eq_true_eq, decide_eq_false_iff_not, Int.not_lt, Int.not_le] at h16)
     refine .loop (α := Nat) [.r [], .u, .r [], .t, .r [(0, X (Xa (Xc ((0:Int) ≤ 1)) (Xc ((1 : Int) < ((2 : Nat) : Int)))) ⟨by decide, by decide⟩)], .r [(1, X (Xl rectT e.merge))]] 400 (fun j => ([(7, VI (oldI rows)), (8, VI (oldI cols)), (55, .t (.agg [TL 4 rectT e.split, TL 4 rectT e.merge])), (56, VI 1), (59, VL 4 rectT e.merge), (60, VI (e.merge.length : Int)), (61, VI (j : Int))], [])) (fun j => j ≤ (e.merge).length) (fun j => (e.merge).length - j) (0 : Nat) ?_ ?_
     ·
      (try dsimp only); omega
     rintro j I16 ih16
     try dsimp only at I16
     refine .br [.r []] (decide ((j : Int) < (e.merge.length : Int))) (fun h16 => ?_) (fun h16 => ?_)
     ·
      (try simp only [decide_eq_true_eq, decide_eq_false_iff_not, Int.not_lt, Int.not_le] at h16)
      have hin : insB ((e.merge).getD j default) (oldI rows) (oldI cols) = true := by first | exact hx.2.1 _ (getDX_mem (by omega)) | exact hx.2.2 _ (getDX_mem (by omega))
      refine .br [.r [(0, X (Xi rectT e.merge (j : Int)))], .r [(3, X (Xc0 (fc_inside ((e.merge.getD j default)) (oldI rows) (oldI cols) (by omega)) X0))]] (!(insB ((e.merge.getD j default)) (oldI rows) (oldI cols))) (fun h18 => ?_) (fun h18 => ?_)
      ·
       (try simp only [Bool.not_eq_true', Bool.not_eq_false'] at h18)
       exfalso
       rw [hin] at h18; cases h18
      ·
       (try simp only [Bool.not_eq_true', Bool.not_eq_false'] at h18)
       refine .back [.r [(0, X (Xn ((j : Int) + 1)))]] [] (ih16 ((j + 1) : Nat) ?_ ?_)
       ·
        (try dsimp only); omega
       ·
        ((try dsimp only); omega)
     ·
      (try simp only [decide_eq_true_eq, decide_eq_false_iff_not, Int.not_lt, Int.not_le] at h16)
      exact .fin [.r [], .u, .r [], .f, .r []] []
  ·
   (try simp only [decide_eq_true_eq, decide_eq_false_iff_not, Int.not_lt, Int.not_le, gt_iff_lt] at h4)
   refine .loop (α := Nat) [.r [(2, X (Xl cellT e.cells))]] 168 (fun i => ([(3, .ptr 0 0), (7, VI (oldI rows)), (8, VI 2147483647), (34, VL 5 cellT e.cells), (35, VI (e.cells.length : Int)), (36, VI (i : Int))], [(0, .box [VL 2 stepT e.rows, VL 2 stepT e.cols, VL 5 cellT e.cells, VL 4 rectT e.split, VL 4 rectT e.merge])])) (fun i => i ≤ e.cells.length) (fun i => e.cells.length - i) (0 : Nat) ?_ ?_
   ·
    (try dsimp only); omega
   rintro i I7 ih7
   try dsimp only at I7
   first | rw [if_pos (show 0 < rows.length by omega)] at hx | rw [if_neg (show ¬ 0 < rows.length by omega)] at hx
   first | rw [if_pos (show 0 < cols.length by omega)] at hx | rw [if_neg (show ¬ 0 < cols.length by omega)] at hx
   refine .br [.r []] (decide ((i : Int) < (e.cells.length : Int))) (fun h7 => ?_) (fun h7 => ?_)
   ·
    (try simp only [decide_eq_true_eq, decide_eq_false_iff_not, Int.not_lt, Int.not_le] at h7)
    have hm := hx.1 _ (getDX_mem (l := e.cells) (i := i) (by omega))
    refine .br [.r [(0, X (Xi cellT e.cells (i : Int)))], .r [(6, Xv 1 (!(decide ((((e.cells.getD i default)).row) ≥ (oldI rows)))) X0), (8, Xv 2 (!(decide ((((e.cells.getD i default)).row) ≥ (oldI rows)))) X0), (9, X (Xk' (decide ((((e.cells.getD i default)).row) ≥ (oldI rows)))))]] (decide ((((e.cells.getD i default)).row) ≥ (oldI rows)) || decide ((((e.cells.getD i default)).col) ≥ 2147483647)) (fun h9 => ?_) (fun h9 => ?_)
    ·
     (try simp only [decide_eq_true_eq, decide_eq_false_iff_not, Int.not_lt, Int.not_le, ge_iff_le, Bool.or_eq_true, Bool.or_eq_false_iff] at h9)
     exfalso
     omega
    ·
     (try simp only [decide_eq_true_eq, decide_eq_false_iff_not, Int.not_lt, Int.not_le, ge_iff_le, Bool.or_eq_true, Bool.or_eq_false_iff] at h9)
     refine .back [.r [(0, X (Xn ((i : Int) + 1)))]] [(0, 0)] (ih7 ((i + 1) : Nat) ?_ ?_)
     ·
      (try dsimp only); omega
     ·
      ((try dsimp only); omega)
   ·
    (try simp only [decide_eq_true_eq, decide_eq_false_iff_not, Int.not_lt, Int.not_le] at h7)
    refine .loop (α := Nat) [.r [], .u, .r [], .t, .r [(0, X (Xa (Xc ((0:Int) ≤ 0)) (Xc ((0 : Int) < ((2 : Nat) : Int)))) ⟨by decide, by decide⟩)], .r [(1, X (Xl rectT e.split))]] 272 (fun j => ([(7, VI (oldI rows)), (8, VI 2147483647), (55, .t (.agg [TL 4 rectT e.split, TL 4 rectT e.merge])), (56, VI 0), (59, VL 4 rectT e.split), (60, VI (e.split.length : Int)), (61, VI (j : Int))], [])) (fun j => j ≤ (e.split).length) (fun j => (e.split).length - j) (0 : Nat) ?_ ?_
    ·
     (try dsimp only); omega
    rintro j I16 ih16
    try dsimp only at I16
    refine .br [.r []] (decide ((j : Int) < (e.split.length : Int))) (fun h16 => ?_) (fun h16 => ?_)
    ·
     (try simp only [decide_eq_true_eq, decide_eq_false_iff_not, Int.not_lt, Int.not_le] at h16)
     have hin : insB ((e.split).getD j default) (oldI rows) 2147483647 = true := by first | exact hx.2.1 _ (getDX_mem (by omega)) | exact hx.2.2 _ (getDX_mem (by omega))
     refine .br [.r [(0, X (Xi rectT e.split (j : Int)))], .r [(3, X (Xc0 (fc_inside ((e.split.getD j default)) (oldI rows) 2147483647 (by omega)) X0))]] (!(insB ((e.split.getD j default)) (oldI rows) 2147483647)) (fun h18 => ?_) (fun h18 => ?_)
     ·
      (try simp only [Bool.not_eq_true', Bool.not_eq_false'] at h18)
      exfalso
      rw [hin] at h18; cases h18
     ·
      (try simp only [Bool.not_eq_true', Bool.not_eq_false'] at h18)
      refine .back [.r [(0, X (Xn ((j : Int) + 1)))]] [] (ih16 ((j + 1) : Nat) ?_ ?_)
      ·
       (try dsimp only); omega
      ·
       ((try dsimp only); omega)
    ·
     (try simp only [decide_eq_true_eq, decide_eq_false_iff_not, Int.not_lt, Int.not_le] at h16)
     refine .loop (α := Nat) [.r [], .u, .r [], .t, .r [(0, X (Xa (Xc ((0:Int) ≤ 1)) (Xc ((1 : Int) < ((2 : Nat) : Int)))) ⟨by decide, by decide⟩)], .r [(1, X (Xl rectT e.merge))]] 344 (fun j => ([(7, VI (oldI rows)), (8, VI 2147483647), (55, .t (.agg [TL 4 rectT e.split, TL 4 rectT e.merge])), (56, VI 1), (59, VL 4 rectT e.merge), (60, VI (e.merge.length : Int)), (61, VI (j : Int))], [])) (fun j => j ≤ (e.merge).length) (fun j => (e.merge).length - j) (0 : Nat) ?_ ?_
     ·
      (try dsimp only); omega
     rintro j I16 ih16
     try dsimp only at I16
     refine .br [.r []] (decide ((j : Int) < (e.merge.length : Int))) (fun h16 => ?_) (fun h16 => ?_)
     ·
      (try simp only [decide_eq_true_eq, decide_eq_false_iff_not, Int.not_lt, Int.not_le] at h16)
      have hin : insB ((e.merge).getD j default) (oldI rows) 2147483647 = true := by first | exact hx.2.1 _ (getDX_mem (by omega)) | exact hx.2.2 _ (getDX_mem (by omega))
      refine .br [.r [(0, X (Xi rectT e.merge (j : Int)))], .r [(3, X (Xc0 (fc_inside ((e.merge.getD j default)) (oldI rows) 2147483647 (by omega)) X0))]] (!(insB ((e.merge.getD j default)) (oldI rows) 2147483647)) (fun h18 => ?_) (fun h18 => ?_)
      ·
       (try simp only [Bool.not_eq_true', Bool.not_eq_false'] at h18)
       exfalso
       rw [hin] at h18; cases h18
      ·
       (try simp only [Bool.not_eq_true', Bool.not_eq_false'] at h18)
       refine .back [.r [(0, X (Xn ((j : Int) + 1)))]] [] (ih16 ((j + 1) : Nat) ?_ ?_)
       ·
        (try dsimp only); omega
       ·
        ((try dsimp only); omega)
     ·
      (try simp only [decide_eq_true_eq, decide_eq_false_iff_not, Int.not_lt, Int.not_le] at h16)
      exact .fin [.r [], .u, .r [], .f, .r []] []
 ·
  (try simp only [decide_eq_true_eq, decide_eq_false_iff_not, Int.not_lt, Int.not_le, gt_iff_lt] at h2)
  refine .br [.r [(1, X (Xl stepT cols))]] (decide ((cols.length : Int) > 0)) (fun h4 => ?_) (fun h4 => ?_)
  ·
   (try simp only [decide_eq_true_eq, decide_eq_false_iff_not, Int.not_lt, Int.not_le, gt_iff_lt] at h4)
   have hc0 : 0 < cols.length := by omega
   have hv2 := hc hc0
   have hv3 := hv2.2.1
   have hw2 : 0 ≤ oldI cols ∧ oldI cols ≤ 1000000000000 := by (unfold oldI; omega)
   refine .loop (α := Nat) [.r [(1, X (Xc0 (fc_axLengths cols (by assumption)) X0))], .r [(2, X (Xl cellT e.cells))]] 168 (fun i => ([(3, .ptr 0 0), (7, VI 2147483647), (8, VI (oldI cols)), (34, VL 5 cellT e.cells), (35, VI (e.cells.length : Int)), (36, VI (i : Int))], [(0, .box [VL 2 stepT e.rows, VL 2 stepT e.cols, VL 5 cellT e.cells, VL 4 rectT e.split, VL 4 rectT e.merge])])) (fun i => i ≤ e.cells.length) (fun i => e.cells.length - i) (0 : Nat) ?_ ?_
   ·
    (try dsimp only); omega
   rintro i I7 ih7
   try dsimp only at I7
   first | rw [if_pos (show 0 < rows.length by omega)] at hx | rw [if_neg (show ¬ 0 < rows.length by omega)] at hx
   first | rw [if_pos (show 0 < cols.length by omega)] at hx | rw [if_neg (show ¬ 0 < cols.length by omega)] at hx
   refine .br [.r []] (decide ((i : Int) < (e.cells.length : Int))) (fun h7 => ?_) (fun h7 => ?_)
   ·
    (try simp only [decide_eq_true_eq, decide_eq_false_iff_not, Int.not_lt, Int.not_le] at h7)
    have hm := hx.1 _ (getDX_mem (l := e.cells) (i := i) (by omega))
    refine .br [.r [(0, X (Xi cellT e.cells (i : Int)))], .r [(6, Xv 1 (!(decide ((((e.cells.getD i default)).row) ≥ 2147483647))) X0), (8, Xv 2 (!(decide ((((e.cells.getD i default)).row) ≥ 2147483647))) X0), (9, X (Xk' (decide ((((e.cells.getD i default)).row) ≥ 2147483647))))]] (decide ((((e.cells.getD i default)).row) ≥ 2147483647) || decide ((((e.cells.getD i default)).col) ≥ (oldI cols))) (fun h9 => ?_) (fun h9 => ?_)
    ·
     (try simp only [decide_eq_true_eq, decide_eq_false_iff_not, Int.not_lt, Int.not_le, ge_iff_le, Bool.or_eq_true, Bool.or_eq_false_iff] at h9)
     exfalso
     omega
    ·
     (try simp only [decide_eq_true_eq, decide_eq_false_iff_not, Int.not_lt, Int.not_le, ge_iff_le, Bool.or_eq_true, Bool.or_eq_false_iff] at h9)
     refine .back [.r [(0, X (Xn ((i : Int) + 1)))]] [(0, 0)] (ih7 ((i + 1) : Nat) ?_ ?_)
     ·
      (try dsimp only); omega
     ·
      ((try dsimp only); omega)
   ·
    (try simp only [decide_eq_true_eq, decide_eq_false_iff_not, Int.not_lt, Int.not_le] at h7)
    refine .loop (α := Nat) [.r [], .u, .r [], .t, .r [(0, X (Xa (Xc ((0:Int) ≤ 0)) (Xc ((0 : Int) < ((2 : Nat) : Int)))) ⟨by decide, by decide⟩)], .r [(1, X (Xl rectT e.split))]] 272 (fun j => ([(7, VI 2147483647), (8, VI (oldI cols)), (55, .t (.agg [TL 4 rectT e.split, TL 4 rectT e.merge])), (56, VI 0), (59, VL 4 rectT e.split), (60, VI (e.split.length : Int)), (61, VI (j : Int))], [])) (fun j => j ≤ (e.split).length) (fun j => (e.split).length - j) (0 : Nat) ?_ ?_
    ·
     (try dsimp only); omega
    rintro j I16 ih16
    try dsimp only at I16
    refine .br [.r []] (decide ((j : Int) < (e.split.length : Int))) (fun h16 => ?_) (fun h16 => ?_)
    ·
     (try simp only [decide_eq_true_eq, decide_eq_false_iff_not, Int.not_lt, Int.not_le] at h16)
     have hin : insB ((e.split).getD j default) 2147483647 (oldI cols) = true := by first | exact hx.2.1 _ (getDX_mem (by omega)) | exact hx.2.2 _ (getDX_mem (by omega))
     refine .br [.r [(0, X (Xi rectT e.split (j : Int)))], .r [(3, X (Xc0 (fc_inside ((e.split.getD j default)) 2147483647 (oldI cols) (by omega)) X0))]] (!(insB ((e.split.getD j default)) 2147483647 (oldI cols))) (fun h18 => ?_) (fun h18 => ?_)
     ·
      (try simp only [Bool.not_eq_true', Bool.not_eq_false'] at h18)
      exfalso
      rw [hin] at h18; cases h18
     ·
      (try simp only [Bool.not_eq_true', Bool.not_eq_false'] at h18)
      refine .back [.r [(0, X (Xn ((j : Int) + 1)))]] [] (ih16 ((j + 1) : Nat) ?_ ?_)
      ·
       (try dsimp only); omega
      ·
       ((try dsimp only); omega)
    ·
     (try simp only [decide_eq_true_eq, decide_eq_false_iff_not, Int.not_lt, Int.not_le] at h16)
     refine .loop (α := Nat) [.r [], .u, .r [], .t, .r [(0, X (Xa (Xc ((0:Int) ≤ 1)) (Xc ((1 : Int) < ((2 : Nat) : Int)))) ⟨by decide, by decide⟩)], .r [(1, X (Xl rectT e.merge))]] 344 (fun j => ([(7, VI 2147483647), (8, VI (oldI cols)), (55, .t (.agg [TL 4 rectT e.split, TL 4 rectT e.merge])), (56, VI 1), (59, VL 4 rectT e.merge), (60, VI (e.merge.length : Int)), (61, VI (j : Int))], [])) (fun j => j ≤ (e.merge).length) (fun j => (e.merge).length - j) (0 : Nat) ?_ ?_
     ·
      (try dsimp only); omega
     rintro j I16 ih16
     try dsimp only at I16
     refine .br [.r []] (decide ((j : Int) < (e.merge.length : Int))) (fun h16 => ?_) (fun h16 => ?_)
     ·
      (try simp only [decide_eq_true_eq, decide_eq_false_iff_not, Int.not_lt, Int.not_le] at h16)
      have hin : insB ((e.merge).getD j default) 2147483647 (oldI cols) = true := by first | exact hx.2.1 _ (getDX_mem (by omega)) | exact hx.2.2 _ (getDX_mem (by omega))
      refine .br [.r [(0, X (Xi rectT e.merge (j : Int)))], .r [(3, X (Xc0 (fc_inside ((e.merge.getD j default)) 2147483647 (oldI cols) (by omega)) X0))]] (!(insB ((e.merge.getD j default)) 2147483647 (oldI cols))) (fun h18 => ?_) (fun h18 => ?_)
      ·
       (try simp only [Bool.not_eq_true', Bool.not_eq_false'] at h18)
       exfalso
       rw [hin] at h18; cases h18
      ·
       (try simp only [Bool.not_eq_true', Bool.not_eq_false'] at h18)
       refine .back [.r [(0, X (Xn ((j : Int) + 1)))]] [] (ih16 ((j + 1) : Nat) ?_ ?_)
       ·
        (try dsimp only); omega
       ·
        ((try dsimp only); omega)
     ·
      (try simp only [decide_eq_true_eq, decide_eq_false_iff_not, Int.not_lt, Int.not_le] at h16)
      exact .fin [.r [], .u, .r [], .f, .r []] []
  ·
   (try simp only [decide_eq_true_eq, decide_eq_false_iff_not, Int.not_lt, Int.not_le, gt_iff_lt] at h4)
   refine .loop (α := Nat) [.r [(2, X (Xl cellT e.cells))]] 112 (fun i => ([(3, .ptr 0 0), (7, VI 2147483647), (8, VI 2147483647), (34, VL 5 cellT e.cells), (35, VI (e.cells.length : Int)), (36, VI (i : Int))], [(0, .box [VL 2 stepT e.rows, VL 2 stepT e.cols, VL 5 cellT e.cells, VL 4 rectT e.split, VL 4 rectT e.merge])])) (fun i => i ≤ e.cells.length) (fun i => e.cells.length - i) (0 : Nat) ?_ ?_
   ·
    (try dsimp only); omega
   rintro i I7 ih7
   try dsimp only at I7
   first | rw [if_pos (show 0 < rows.length by omega)] at hx | rw [if_neg (show ¬ 0 < rows.length by omega)] at hx
   first | rw [if_pos (show 0 < cols.length by omega)] at hx | rw [if_neg (show ¬ 0 < cols.length by omega)] at hx
   refine .br [.r []] (decide ((i : Int) < (e.cells.length : Int))) (fun h7 => ?_) (fun h7 => ?_)
   ·
    (try simp only [decide_eq_true_eq, decide_eq_false_iff_not, Int.not_lt, Int.not_le] at h7)
    have hm := hx.1 _ (getDX_mem (l := e.cells) (i := i) (by omega))
    refine .br [.r [(0, X (Xi cellT e.cells (i : Int)))], .r [(6, Xv 1 (!(decide ((((e.cells.getD i default)).row) ≥ 2147483647))) X0), (8, Xv 2 (!(decide ((((e.cells.getD i default)).row) ≥ 2147483647))) X0), (9, X (Xk' (decide ((((e.cells.getD i default)).row) ≥ 2147483647))))]] (decide ((((e.cells.getD i default)).row) ≥ 2147483647) || decide ((((e.cells.getD i default)).col) ≥ 2147483647)) (fun h9 => ?_) (fun h9 => ?_)
    ·
     (try simp only [decide_eq_true_eq, decide_eq_false_iff_not, Int.not_lt, Int.not_le, ge_iff_le, Bool.or_eq_true, Bool.or_eq_false_iff] at h9)
     exfalso
     omega
    ·
     (try simp only [decide_eq_true_eq, decide_eq_false_iff_not, Int.not_lt, Int.not_le, ge_iff_le, Bool.or_eq_true, Bool.or_eq_false_iff] at h9)
     refine .back [.r [(0, X (Xn ((i : Int) + 1)))]] [(0, 0)] (ih7 ((i + 1) : Nat) ?_ ?_)
     ·
      (try dsimp only); omega
     ·
      ((try dsimp only); omega)
   ·
    (try simp only [decide_eq_true_eq, decide_eq_false_iff_not, Int.not_lt, Int.not_le] at h7)
    refine .loop (α := Nat) [.r [], .u, .r [], .t, .r [(0, X (Xa (Xc ((0:Int) ≤ 0)) (Xc ((0 : Int) < ((2 : Nat) : Int)))) ⟨by decide, by decide⟩)], .r [(1, X (Xl rectT e.split))]] 216 (fun j => ([(7, VI 2147483647), (8, VI 2147483647), (55, .t (.agg [TL 4 rectT e.split, TL 4 rectT e.merge])), (56, VI 0), (59, VL 4 rectT e.split), (60, VI (e.split.length : Int)), (61, VI (j : Int))], [])) (fun j => j ≤ (e.split).length) (fun j => (e.split).length - j) (0 : Nat) ?_ ?_
    ·
     (try dsimp only); omega
    rintro j I16 ih16
    try dsimp only at I16
    refine .br [.r []] (decide ((j : Int) < (e.split.length : Int))) (fun h16 => ?_) (fun h16 => ?_)
    ·
     (try simp only [decide_eq_true_eq, decide_eq_false_iff_not, Int.not_lt, Int.not_le] at h16)
     have hin : insB ((e.split).getD j default) 2147483647 2147483647 = true := by first | exact hx.2.1 _ (getDX_mem (by omega)) | exact hx.2.2 _ (getDX_mem (by omega))
     refine .br [.r [(0, X (Xi rectT e.split (j : Int)))], .r [(3, X (Xc0 (fc_inside ((e.split.getD j default)) 2147483647 2147483647 (by omega)) X0))]] (!(insB ((e.split.getD j default)) 2147483647 2147483647)) (fun h18 => ?_) (fun h18 => ?_)
     ·
      (try simp only [Bool.not_eq_true', Bool.not_eq_false'] at h18)
      exfalso
      rw [hin] at h18; cases h18
     ·
      (try simp only [Bool.not_eq_true', Bool.not_eq_false'] at h18)
      refine .back [.r [(0, X (Xn ((j : Int) + 1)))]] [] (ih16 ((j + 1) : Nat) ?_ ?_)
      ·
       (try dsimp only); omega
      ·
       ((try dsimp only); omega)
    ·
     (try simp only [decide_eq_true_eq, decide_eq_false_iff_not, Int.not_lt, Int.not_le] at h16)
     refine .loop (α := Nat) [.r [], .u, .r [], .t, .r [(0, X (Xa (Xc ((0:Int) ≤ 1)) (Xc ((1 : Int) < ((2 : Nat) : Int)))) ⟨by decide, by decide⟩)], .r [(1, X (Xl rectT e.merge))]] 288 (fun j => ([(7, VI 2147483647), (8, VI 2147483647), (55, .t (.agg [TL 4 rectT e.split, TL 4 rectT e.merge])), (56, VI 1), (59, VL 4 rectT e.merge), (60, VI (e.merge.length : Int)), (61, VI (j : Int))], [])) (fun j => j ≤ (e.merge).length) (fun j => (e.merge).length - j) (0 : Nat) ?_ ?_
     ·
      (try dsimp only); omega
     rintro j I16 ih16
     try dsimp only at I16
     refine .br [.r []] (decide ((j : Int) < (e.merge.length : Int))) (fun h16 => ?_) (fun h16 => ?_)
     ·
      (try simp only [decide_eq_true_eq, decide_eq_false_iff_not, Int.not_lt, Int.not_le] at h16)
      have hin : insB ((e.merge).getD j default) 2147483647 2147483647 = true := by first | exact hx.2.1 _ (getDX_mem (by omega)) | exact hx.2.2 _ (getDX_mem (by omega))
      refine .br [.r [(0, X (Xi rectT e.merge (j : Int)))], .r [(3, X (Xc0 (fc_inside ((e.merge.getD j default)) 2147483647 2147483647 (by omega)) X0))]] (!(insB ((e.merge.getD j default)) 2147483647 2147483647)) (fun h18 => ?_) (fun h18 => ?_)
      ·
       (try simp only [Bool.not_eq_true', Bool.not_eq_false'] at h18)
       exfalso
       rw [hin] at h18; cases h18
      ·
       (try simp only [Bool.not_eq_true', Bool.not_eq_false'] at h18)
       refine .back [.r [(0, X (Xn ((j : Int) + 1)))]] [] (ih16 ((j + 1) : Nat) ?_ ?_)
       ·
        (try dsimp only); omega
       ·
        ((try dsimp only); omega)
     ·
      (try simp only [decide_eq_true_eq, decide_eq_false_iff_not, Int.not_lt, Int.not_le] at h16)
      exact .fin [.r [], .u, .r [], .f, .r []] []
end Go.Ch
end
section
set_option linter.unusedVariables false
set_option linter.unusedSimpArgs false
set_option maxRecDepth 100000
set_option maxHeartbeats 4000000
open Go Go.Proofs Go.Ab
namespace Go.Ch
theorem fc_cloneS (l : List AxStep) (h : l.length ≤ 1000000000000) : FC Tryd.prog 59 [VL 2 stepT l] (app emp []) (VL 2 stepT l) (app emp []) := by
 refine .go Tryd.f59 ?_
 refine .len 0 (fun hl0 => ?_)
 refine .mid [.r []] ?_
 by_cases hn : l = []
 ·
  refine .any [.r []] ?_ ?_
  ·
   have e1 : (l : List AxStep) = [] := by
    simp [hn]
   exact .finE [.r [], .le (.nL 2 2)] [] (fun z0 => (VL 2 stepT z0, [])) ([] : List AxStep) (l : List AxStep) e1
  ·
   have e2 : (l : List AxStep) = ([] ++ l) := by
    simp [hn]
   exact .finE [.r [(2, X (Xap 2 stepT 24 [] l))], .le (.fr 2 [((([] ++ l).length) : Nat) = (List.map stepT ([] ++ l)).length] ⟨lm, trivial⟩)] [] (fun z0 => (VL 2 stepT z0, [])) (([] ++ l) : List AxStep) (l : List AxStep) e2
 ·
  have e3 : (l : List AxStep) = ([] ++ l) := by
   (first | omega | with_reducible exact fun h => h | (intro hq; rw [hq]; done) | (intro hq; rw [hq]; rfl) | (simp only [List.length_map]; done) | (simp only [List.length_map]; omega) | (simp; omega) | (simp; done))
  exact .finE [.r [(1, X (Xnn stepT l))], .f, .r [(2, X (Xap 2 stepT 24 [] l))], .le (.fr 2 [((([] ++ l).length) : Nat) = (List.map stepT ([] ++ l)).length] ⟨lm, trivial⟩)] [] (fun z0 => (VL 2 stepT z0, [])) (([] ++ l) : List AxStep) (l : List AxStep) e3

theorem fc_pairAxis (a b : List AxStep) (ha : a.length ≤ 1000000000000) (hb : b.length ≤ 1000000000000) (hp : 0 < a.length → 0 < b.length → PairOk a b) : FC Tryd.prog 28 [VL 2 stepT a, VL 2 stepT b] (app emp []) (.tup [VL 2 stepT (pA a b), VL 2 stepT (pB a b), VI 0]) (app emp []) := by
 refine .go Tryd.f28 ?_
 refine .len 0 (fun hl0 => ?_)
 refine .len 1 (fun hl1 => ?_)
 refine .br [.r [], .r [(1, X (Xl stepT a)), (5, Xv 1 (!((a.length : Int) == 0)) (Xl stepT b)), (6, Xv 1 (!((a.length : Int) == 0)) X0), (7, X (Xk' ((a.length : Int) == 0)))]] (((a.length : Int) == 0) || ((b.length : Int) == 0)) (fun h1 => ?_) (fun h1 => ?_)
 ·
  (try simp only [Bool.or_eq_true, Bool.or_eq_false_iff, beq_iff_eq, beq_eq_false_iff_ne, ne_eq] at h1)
  have e1 : ((pA a b) : List AxStep) = a := by
   (first | unfold pA | unfold pB)
   (first | rw [if_pos (by omega)] | rw [if_neg (by omega)])
  have e2 : ((pB a b) : List AxStep) = b := by
   (first | unfold pA | unfold pB)
   (first | rw [if_pos (by omega)] | rw [if_neg (by omega)])
  exact .finE [.r [(1, X (Xc1 96 (fc_cloneS a (by omega)) X0)), (3, X (Xc1 112 (fc_cloneS b (by omega)) X0))]] [] (fun (z0, z1) => (.tup [VL 2 stepT z0, VL 2 stepT z1, VI 0], [])) ((a : List AxStep), (b : List AxStep)) (((pA a b) : List AxStep), ((pB a b) : List AxStep)) (pr e1 e2)
 ·
  (try simp only [Bool.or_eq_true, Bool.or_eq_false_iff, beq_iff_eq, beq_eq_false_iff_ne, ne_eq] at h1)
  obtain ⟨p1, p2, p3, p4, p5⟩ := hp (by omega) (by omega)
  have e3 : ((pA a b) : List AxStep) = (pairX1 a b) := by
   (first | unfold pA | unfold pB)
   (first | rw [if_pos (by omega)] | rw [if_neg (by omega)])
  have e4 : ((pB a b) : List AxStep) = (pairX2 a b) := by
   (first | unfold pA | unfold pB)
   (first | rw [if_pos (by omega)] | rw [if_neg (by omega)])
  exact .finE [.r [(2, X (Xc1 104 (fc_axPair a b (by assumption) (by assumption) (by assumption) (by assumption) (by assumption)) X0))]] [] (fun (z0, z1) => (.tup [VL 2 stepT z0, VL 2 stepT z1, VI 0], [])) (((pairX1 a b) : List AxStep), ((pairX2 a b) : List AxStep)) (((pA a b) : List AxStep), ((pB a b) : List AxStep)) (pr e3 e4)

theorem fc_sameCellR (a b : Cell) : FC Tryd.prog 26 [.t (cellT a), .t (cellT b)] (app emp []) (VB (sameC a b)) (app emp []) := by
 refine .go Tryd.f26 ?_
 have e1 : ((sameC a b) : Bool) = (((((a.row == b.row) && (a.col == b.col)) && seq a.text b.text) && (a.ref == b.ref)) && (sameL a.attrs b.attrs)) := by
  rfl
 exact .finE [.r [], .r [(7, Xv 1 (a.row == b.row) X0), (9, Xv 1 (a.row == b.row) X0), (10, Xv 2 (a.row == b.row) X0), (11, X (Xk (a.row == b.row))), (14, Xv 1 ((a.row == b.row) && (a.col == b.col)) X0), (16, Xv 1 ((a.row == b.row) && (a.col == b.col)) X0), (17, Xv 2 ((a.row == b.row) && (a.col == b.col)) X0), (18, X (Xk ((a.row == b.row) && (a.col == b.col)))), (21, Xv 1 (((a.row == b.row) && (a.col == b.col)) && seq a.text b.text) X0), (23, Xv 1 (((a.row == b.row) && (a.col == b.col)) && seq a.text b.text) X0), (24, Xv 2 (((a.row == b.row) && (a.col == b.col)) && seq a.text b.text) X0), (25, X (Xk (((a.row == b.row) && (a.col == b.col)) && seq a.text b.text))), (28, Xv 1 ((((a.row == b.row) && (a.col == b.col)) && seq a.text b.text) && (a.ref == b.ref)) X0), (30, Xv 1 ((((a.row == b.row) && (a.col == b.col)) && seq a.text b.text) && (a.ref == b.ref)) X0), (31, Xv 2 ((((a.row == b.row) && (a.col == b.col)) && seq a.text b.text) && (a.ref == b.ref)) (Xc0 (fc_sameAttrs a.attrs b.attrs) X0)), (32, X (Xk ((((a.row == b.row) && (a.col == b.col)) && seq a.text b.text) && (a.ref == b.ref))))]] [] (fun z0 => (VB z0, [])) ((((((a.row == b.row) && (a.col == b.col)) && seq a.text b.text) && (a.ref == b.ref)) && (sameL a.attrs b.attrs)) : Bool) ((sameC a b) : Bool) e1

theorem fc_sameCells (a b : List Cell) : FC Tryd.prog 10 [VL 5 cellT a, VL 5 cellT b] (app emp []) (VB (sameCs a b)) (app emp []) := by
 refine .go Tryd.f10 ?_
 refine .len 0 (fun hl0 => ?_)
 refine .len 1 (fun hl1 => ?_)
 refine .br [.r [], .r [(1, X (Xl cellT a)), (3, X (Xl cellT b))]] ((a.length : Int) != (b.length : Int)) (fun h1 => ?_) (fun h1 => ?_)
 ·
  (try simp only [bne_iff_ne, bne_eq_false_iff_eq, ne_eq] at h1)
  have e1 : ((sameCs a b) : Bool) = false := by
   unfold sameCs; rw [if_neg (by omega)]
  exact .finE [.r []] [] (fun z0 => (VB z0, [])) (false : Bool) ((sameCs a b) : Bool) e1
 ·
  (try simp only [bne_iff_ne, bne_eq_false_iff_eq, ne_eq] at h1)
  refine .loop (α := Nat) [.r [(1, X (Xl cellT a))]] 72 (fun i => ([(0, VL 5 cellT a), (1, VL 5 cellT b), (12, VI (a.length : Int)), (13, VI (i : Int))], [])) (fun i => i ≤ a.length ∧ sameCells a b 0 = sameCells a b i) (fun i => a.length - i) (0 : Nat) ?_ ?_
  ·
   exact ⟨by omega, rfl⟩
  rintro i I4 ih4
  try dsimp only at I4
  refine .br [.r []] (decide ((i : Int) < (a.length : Int))) (fun h4 => ?_) (fun h4 => ?_)
  ·
   (try simp only [decide_eq_true_eq, decide_eq_false_iff_not, Int.not_lt, Int.not_le] at h4)
   refine .br [.r [], .r [(2, X (Xi cellT a (i : Int))), (6, X (Xi cellT b (i : Int))), (8, X (Xc0 (fc_sameCellR ((a.getD i default)) ((b.getD i default))) X0))]] (!(sameC ((a.getD i default)) ((b.getD i default)))) (fun h6 => ?_) (fun h6 => ?_)
   ·
    (try simp only [Bool.not_eq_true', Bool.not_eq_false'] at h6)
    have e2 : ((sameCs a b) : Bool) = false := by
     unfold sameCs; rw [if_pos (by omega), I4.2, sameCells, if_pos (by omega), if_neg]
     rw [h6]; decide
    exact .finE [.r []] [] (fun z0 => (VB z0, [])) (false : Bool) ((sameCs a b) : Bool) e2
   ·
    (try simp only [Bool.not_eq_true', Bool.not_eq_false'] at h6)
    refine .back [.r [(0, X (Xn ((i : Int) + 1)))]] [] (ih4 ((i + 1) : Nat) ?_ ?_)
    ·
     refine ⟨by omega, ?_⟩
     rw [I4.2, sameCells, if_pos (by omega), if_pos]
     exact h6
    ·
     ((try dsimp only); omega)
  ·
   (try simp only [decide_eq_true_eq, decide_eq_false_iff_not, Int.not_lt, Int.not_le] at h4)
   have e3 : ((sameCs a b) : Bool) = true := by
    unfold sameCs; rw [if_pos (by omega), I4.2, sameCells, if_neg (by omega)]
   exact .finE [.r []] [] (fun z0 => (VB z0, [])) (true : Bool) ((sameCs a b) : Bool) e3

theorem fc_sameRects (a b : List Rect) : FC Tryd.prog 35 [VL 4 rectT a, VL 4 rectT b] (app emp []) (VB (sameQs a b)) (app emp []) := by
 refine .go Tryd.f35 ?_
 refine .len 0 (fun hl0 => ?_)
 refine .len 1 (fun hl1 => ?_)
 refine .br [.r [], .r [(1, X (Xl rectT a)), (3, X (Xl rectT b))]] ((a.length : Int) != (b.length : Int)) (fun h1 => ?_) (fun h1 => ?_)
 ·
  (try simp only [bne_iff_ne, bne_eq_false_iff_eq, ne_eq] at h1)
  have e1 : ((sameQs a b) : Bool) = false := by
   unfold sameQs; rw [if_neg (by omega)]
  exact .finE [.r []] [] (fun z0 => (VB z0, [])) (false : Bool) ((sameQs a b) : Bool) e1
 ·
  (try simp only [bne_iff_ne, bne_eq_false_iff_eq, ne_eq] at h1)
  refine .loop (α := Nat) [.r [(1, X (Xl rectT a))]] 72 (fun i => ([(0, VL 4 rectT a), (1, VL 4 rectT b), (12, VI (a.length : Int)), (13, VI (i : Int))], [])) (fun i => i ≤ a.length ∧ sameRects a b 0 = sameRects a b i) (fun i => a.length - i) (0 : Nat) ?_ ?_
  ·
   exact ⟨by omega, rfl⟩
  rintro i I4 ih4
  try dsimp only at I4
  refine .br [.r []] (decide ((i : Int) < (a.length : Int))) (fun h4 => ?_) (fun h4 => ?_)
  ·
   (try simp only [decide_eq_true_eq, decide_eq_false_iff_not, Int.not_lt, Int.not_le] at h4)
   refine .br [.r [], .r [(2, X (Xi rectT a (i : Int))), (6, X (Xi rectT b (i : Int)))]] (!((((a.getD i default)).row) == (((b.getD i default)).row) && ((((a.getD i default)).col) == (((b.getD i default)).col) && ((((a.getD i default)).h) == (((b.getD i default)).h) && ((((a.getD i default)).w) == (((b.getD i default)).w) && true))))) (fun h6 => ?_) (fun h6 => ?_)
   ·
    (try simp only [Bool.not_eq_true', Bool.not_eq_false', Bool.and_eq_true, Bool.and_eq_false_iff, beq_iff_eq, beq_eq_false_iff_ne, ne_eq] at h6)
    have e2 : ((sameQs a b) : Bool) = false := by
     unfold sameQs; rw [if_pos (by omega), I4.2, sameRects, if_pos (by omega), if_neg]
     intro e; rw [e] at h6; simp at h6
    exact .finE [.r []] [] (fun z0 => (VB z0, [])) (false : Bool) ((sameQs a b) : Bool) e2
   ·
    (try simp only [Bool.not_eq_true', Bool.not_eq_false', Bool.and_eq_true, Bool.and_eq_false_iff, beq_iff_eq, beq_eq_false_iff_ne, ne_eq] at h6)
    refine .back [.r [(0, X (Xn ((i : Int) + 1)))]] [] (ih4 ((i + 1) : Nat) ?_ ?_)
    ·
     refine ⟨by omega, ?_⟩
     rw [I4.2, sameRects, if_pos (by omega), if_pos]
     refine rect_ext ?_ ?_ ?_ ?_ <;> omega
    ·
     ((try dsimp only); omega)
  ·
   (try simp only [decide_eq_true_eq, decide_eq_false_iff_not, Int.not_lt, Int.not_le] at h4)
   have e3 : ((sameQs a b) : Bool) = true := by
    unfold sameQs; rw [if_pos (by omega), I4.2, sameRects, if_neg (by omega)]
   exact .finE [.r []] [] (fun z0 => (VB z0, [])) (true : Bool) ((sameQs a b) : Bool) e3

theorem fc_sameGrid (a b : Grid) : FC Tryd.prog 15 [.t (gridT a), .t (gridT b)] (app emp []) (VB (sameG a b)) (app emp []) := by
 refine .go Tryd.f15 ?_
 have e1 : ((sameG a b) : Bool) = ((((a.rows == b.rows) && (a.cols == b.cols)) && (sameCs a.cells b.cells)) && (sameQs a.merges b.merges)) := by
  rfl
 exact .finE [.r [], .r [(7, Xv 1 (a.rows == b.rows) X0), (9, Xv 1 (a.rows == b.rows) X0), (10, Xv 2 (a.rows == b.rows) X0), (11, X (Xk (a.rows == b.rows))), (14, Xv 1 ((a.rows == b.rows) && (a.cols == b.cols)) X0), (16, Xv 1 ((a.rows == b.rows) && (a.cols == b.cols)) X0), (17, Xv 2 ((a.rows == b.rows) && (a.cols == b.cols)) (Xc0 (fc_sameCells a.cells b.cells) X0)), (18, X (Xk ((a.rows == b.rows) && (a.cols == b.cols)))), (21, Xv 1 (((a.rows == b.rows) && (a.cols == b.cols)) && (sameCs a.cells b.cells)) X0), (23, Xv 1 (((a.rows == b.rows) && (a.cols == b.cols)) && (sameCs a.cells b.cells)) X0), (24, Xv 2 (((a.rows == b.rows) && (a.cols == b.cols)) && (sameCs a.cells b.cells)) (Xc0 (fc_sameRects a.merges b.merges) X0)), (25, X (Xk (((a.rows == b.rows) && (a.cols == b.cols)) && (sameCs a.cells b.cells))))]] [] (fun z0 => (VB z0, [])) (((((a.rows == b.rows) && (a.cols == b.cols)) && (sameCs a.cells b.cells)) && (sameQs a.merges b.merges)) : Bool) ((sameG a b) : Bool) e1

end Go.Ch
end
section
set_option linter.unusedVariables false
set_option linter.unusedSimpArgs false
namespace Go.Ch
open Go Go.Ab

def decR (u : ByteArray) : Int := ((Lib.decodeGo u).1 : Int)
def decW (u : ByteArray) : Nat := (Lib.decodeGo u).2
theorem decW_bd {u : ByteArray} (h : 0 < u.size) : 1 ≤ decW u ∧ decW u ≤ u.size := by
  unfold decW Lib.decodeGo
  rw [if_neg (by omega)]
  have hl : u.data.toList.length = u.size := by rw [Array.length_toList]; rfl
  rw [Lib.decode_N]
  have h1 := Lib.decodeN_ge1 (u.data.toList.length - 0) (u.data.toList.getD 0 0).toNat (u.data.toList.getD (0 + 1) 0).toNat (u.data.toList.getD (0 + 2) 0).toNat (u.data.toList.getD (0 + 3) 0).toNat
  have h2 := Lib.decodeN_width_le (u.data.toList.length - 0) (u.data.toList.getD 0 0).toNat (u.data.toList.getD (0 + 1) 0).toNat (u.data.toList.getD (0 + 2) 0).toNat (u.data.toList.getD (0 + 3) 0).toNat (by omega)
  omega
theorem decR_bd (u : ByteArray) : 0 ≤ decR u ∧ decR u ≤ 1114111 := by
  unfold decR Lib.decodeGo
  split
  · decide
  · have := Lib.rune_le u 0; omega
def badT (u : ByteArray) : Prop := (decR u = 65533 ∧ decW u = 1) ∨ decR u = 10 ∨ ¬ CharP (decR u)
instance (u : ByteArray) : Decidable (badT u) := by unfold badT CharP; infer_instance
/-- A string that can be the text of a cell. -/
def textG (u : ByteArray) : Bool := if h : 0 < u.size then (if badT u then false else textG (u.extract (decW u) u.size)) else true
termination_by u.size
decreasing_by
  have := decW_bd h
  rw [ByteArray.size_extract]
  omega
theorem textG_bad {u : ByteArray} (h : 0 < u.size) (hb : badT u) : textG u = false := by rw [textG, dif_pos h, if_pos hb]
theorem textG_go {u : ByteArray} (h : 0 < u.size) (hb : ¬ badT u) : textG u = textG (u.extract (decW u) u.size) := by
  conv => lhs; rw [textG]
  rw [dif_pos h, if_neg hb]
theorem textG_end {u : ByteArray} (h : ¬ 0 < u.size) : textG u = true := by rw [textG, dif_neg h]
theorem u_len (u : ByteArray) : u.data.toList.length = u.size := by rw [Array.length_toList]; rfl
theorem decL_eq {u : ByteArray} (h : 0 < u.size) : Lib.decodeL u.data.toList = Lib.decodeGo u := by
  unfold Lib.decodeL Lib.decodeGo
  rw [if_neg (by omega)]
theorem valid_at {u : ByteArray} (h : 0 < u.size) : Lib.validD u.data.toList = if decR u = 65533 ∧ decW u = 1 then false else Lib.validD (u.extract (decW u) u.size).data.toList := by
  have hne : u.data.toList ≠ [] := by
    intro e
    have := u_len u
    rw [e] at this
    simp at this; omega
  rw [Lib.validD_step _ hne, decL_eq h, Lib.ext_list]
  unfold decR decW
  have : ((Lib.decodeGo u).1 = 65533 ∧ (Lib.decodeGo u).2 = 1) ↔ (((Lib.decodeGo u).1 : Int) = 65533 ∧ (Lib.decodeGo u).2 = 1) := by omega
  simp only [this]
/-- The rest of a string, from a place on. -/
def tailG (u : ByteArray) (p : Nat) : ByteArray := u.extract p u.size
theorem tailG_size (u : ByteArray) (p : Nat) (h : p ≤ u.size) : (tailG u p).size = u.size - p := by unfold tailG; rw [ByteArray.size_extract]; omega
theorem dec_tail {u : ByteArray} {p : Nat} (h : p < u.size) : Utf8.decode u p = Lib.decodeGo (tailG u p) := by
  have hx : (tailG u p).data.toList = u.data.toList.drop p := Lib.ext_list u p
  have hsz : (tailG u p).size ≠ 0 := by rw [tailG_size u p (by omega)]; omega
  unfold Lib.decodeGo
  rw [if_neg hsz, ← Lib.decodeL_drop u p, ← hx]
  rfl
theorem tail_tail (u : ByteArray) (p w : Nat) (h : p ≤ u.size) : (tailG u p).extract w (tailG u p).size = tailG u (p + w) := by
  unfold tailG
  apply ByteArray.ext
  simp only [ByteArray.data_extract, ByteArray.size_extract]
  rw [Array.extract_extract]
  congr 1 <;> omega
theorem tail0 (u : ByteArray) : tailG u 0 = u := by
  unfold tailG
  exact ByteArray.extract_zero_size
/-- What the loop over the characters keeps. -/
structure CtI (u : ByteArray) (p : Nat) : Prop where
  le : p ≤ u.size
  val : Lib.validD (tailG u p).data.toList = true
  eq : textG u = textG (tailG u p)
theorem CtI.start {u : ByteArray} (h : Lib.validD u.data.toList = true) : CtI u 0 := ⟨Nat.zero_le _, by rw [tail0]; exact h, by rw [tail0]⟩
theorem CtI.done {u : ByteArray} {p : Nat} (h : CtI u p) (hp : ¬ p < u.size) : textG u = true := by
  rw [h.eq]; exact textG_end (by rw [tailG_size u p h.le]; omega)
theorem CtI.next {u : ByteArray} {p : Nat} (h : CtI u p) (hp : p < u.size) : p < p + (Utf8.decode u p).2 ∧ p + (Utf8.decode u p).2 ≤ u.size ∧ 0 ≤ ((Utf8.decode u p).1 : Int) ∧ ((Utf8.decode u p).1 : Int) ≤ 1114111 ∧
    (((Utf8.decode u p).1 : Int) = 10 ∨ ¬ CharP ((Utf8.decode u p).1 : Int) → textG u = false) ∧ (¬ ((Utf8.decode u p).1 : Int) = 10 → CharP ((Utf8.decode u p).1 : Int) → CtI u (p + (Utf8.decode u p).2)) := by
  have hs := tailG_size u p h.le
  have h0 : 0 < (tailG u p).size := by omega
  rw [dec_tail hp]
  have hw := decW_bd h0
  have hr := decR_bd (tailG u p)
  have hv := h.val
  rw [valid_at h0] at hv
  split at hv
  · cases hv
  · rename_i hb
    have e1 : ((Lib.decodeGo (tailG u p)).1 : Int) = decR (tailG u p) := rfl
    have e2 : (Lib.decodeGo (tailG u p)).2 = decW (tailG u p) := rfl
    rw [e1, e2]
    refine ⟨by omega, by omega, hr.1, hr.2, fun q => ?_, fun q1 q2 => ?_⟩
    · rw [h.eq]; exact textG_bad h0 (.inr q)
    · have hn : ¬ badT (tailG u p) := fun q => by
        rcases q with q | q | q
        · exact hb q
        · exact q1 q
        · exact q q2
      refine ⟨by omega, ?_, ?_⟩
      · rw [← tail_tail u p _ h.le]; exact hv
      · rw [← tail_tail u p _ h.le, h.eq, textG_go h0 hn]
end Go.Ch
end
section
set_option linter.unusedVariables false
namespace Go.Ch
open Go Go.Ab

theorem ordC_def (a b : Cell) : ordC a b = if a.row < b.row then -1 else if a.row > b.row then 1 else if a.col < b.col then -1 else if a.col > b.col then 1 else 0 := by
  unfold ordC
  simp only [orL]
  unfold cmpI
  by_cases h1 : a.row < b.row
  · rw [if_pos h1, if_pos (by decide), if_pos h1]
  · rw [if_neg h1, if_neg h1]
    by_cases h2 : a.row > b.row
    · rw [if_pos h2, if_pos (by decide), if_pos h2]
    · rw [if_neg h2, if_neg (by decide), if_neg h2]
      by_cases h3 : a.col < b.col
      · rw [if_pos h3, if_pos (by decide)]
      · rw [if_neg h3]
        by_cases h4 : a.col > b.col
        · rw [if_pos h4, if_pos (by decide)]
        · rw [if_neg h4, if_neg (by decide)]
theorem ordC_lt {a b : Cell} : ordC a b < 0 ↔ a.row < b.row ∨ (a.row = b.row ∧ a.col < b.col) := by
  rw [ordC_def]; repeat' split
  all_goals omega
theorem ordC_eq {a b : Cell} : ordC a b = 0 ↔ a.row = b.row ∧ a.col = b.col := by
  rw [ordC_def]; repeat' split
  all_goals omega
def cellE (c : Cell) (m n : Int) (none : Bool) : Int :=
  if c.row < 0 ∨ m ≤ c.row ∨ c.col < 0 ∨ n ≤ c.col then 2
  else if c.ref < 0 ∨ 1073741824 < c.ref then 2
  else if textG c.text = false then 23
  else if ¬ chkA false c.attrs 0 = 0 then chkA false c.attrs 0
  else if emptyC c = true ∧ none = false then 4 else 0
def cellsE (l : List Cell) (m n : Int) (none : Bool) (i : Nat) : Int :=
  if i < l.length then
    (if ¬ cellE (l.getD i default) m n none = 0 then cellE (l.getD i default) m n none
     else if 0 < i ∧ 0 ≤ ordC (l.getD (i - 1) default) (l.getD i default) then 5 else cellsE l m n none (i + 1))
  else 0
termination_by l.length - i
/-- Strings and lists of a cell are of a size that there can be. -/
def SzC (l : List Cell) : Prop := ∀ c ∈ l, c.text.size ≤ 9223372036854775807 ∧ Szd c.attrs
theorem SzC.at_ {l : List Cell} (h : SzC l) {i : Nat} (hi : i < l.length) : (l.getD i default).text.size ≤ 9223372036854775807 ∧ Szd (l.getD i default).attrs := h _ (getDX_mem hi)
/-! ### Rectangles -/
def anyM (l : List Rect) (r : Rect) : Bool := l.any (fun q => meetB q r)
def mergE (l : List Rect) (m n : Int) (i : Nat) : Int :=
  if i < l.length then
    (if insB (l.getD i default) m n = false then 2
     else if (l.getD i default).h = 1 ∧ (l.getD i default).w = 1 then 4
     else if 0 < i ∧ befB (l.getD (i - 1) default) (l.getD i default) = false then 5
     else if anyM (l.take i) (l.getD i default) = true then 21
     else mergE l m n (i + 1))
  else 0
termination_by l.length - i
def gridE (g : Grid) : Int :=
  if g.rows < 0 ∨ 2147483647 < g.rows ∨ g.cols < 0 ∨ 2147483647 < g.cols then 2
  else if ¬ cellsE g.cells g.rows g.cols false 0 = 0 then cellsE g.cells g.rows g.cols false 0
  else mergE g.merges g.rows g.cols 0
/-- The index of the first element with a property. -/
def idxF {α : Type} [Inhabited α] (p : α → Bool) (l : List α) (i : Nat) : Int := if i < l.length then (if p (l.getD i default) = true then (i : Int) else idxF p l (i + 1)) else -1
termination_by l.length - i
theorem idxF_ge {α : Type} [Inhabited α] (p : α → Bool) {l : List α} : ∀ (n i : Nat), l.length - i = n → (0 ≤ idxF p l i ↔ (l.drop i).any p = true)
  | 0, i, h => by rw [idxF, if_neg (by omega), List.drop_eq_nil_of_le (by omega)]; simp
  | n + 1, i, h => by
    have hi : i < l.length := by omega
    rw [idxF, if_pos hi, drop_succD hi, List.any_cons]
    by_cases hp : p (l.getD i default) = true
    · rw [if_pos hp, hp]; simp
    · rw [if_neg hp, idxF_ge p n (i + 1) (by omega)]
      simp only [Bool.not_eq_true] at hp
      rw [hp, Bool.false_or]
theorem idxF_any {α : Type} [Inhabited α] (p : α → Bool) (l : List α) : (0 ≤ idxF p l 0) = ((l.any p) = true) := propext (by rw [idxF_ge p _ 0 rfl, List.drop_zero])
def AllRB (l : List Rect) : Prop := ∀ q ∈ l, RB q
theorem insB_iff {r : Rect} {m n : Int} : insB r m n = true ↔ 0 ≤ r.row ∧ 0 ≤ r.col ∧ 1 ≤ r.h ∧ 1 ≤ r.w ∧ r.row < m ∧ r.col < n ∧ r.h ≤ m - r.row ∧ r.w ≤ n - r.col := by
  unfold insB; rw [decide_eq_true_eq]
theorem RB_ins {r : Rect} {m n : Int} (h : insB r m n = true) (hm : m ≤ 1000000000000) (hn : n ≤ 1000000000000) : RB r := by
  have := insB_iff.1 h
  unfold RB; omega
theorem befB_iff {a b : Rect} : befB a b = true ↔ a.row < b.row ∨ (a.row = b.row ∧ a.col < b.col) := by unfold befB; rw [decide_eq_true_eq]
theorem bef_f {a b : Rect} : befB a b = false ↔ b.row < a.row ∨ (b.row = a.row ∧ b.col ≤ a.col) := by unfold befB; rw [decide_eq_false_iff_not]; omega
theorem meetB_iff {a b : Rect} : meetB a b = true ↔ a.row < b.row + b.h ∧ b.row < a.row + a.h ∧ a.col < b.col + b.w ∧ b.col < a.col + a.w := by unfold meetB; rw [decide_eq_true_eq]
theorem meetB_comm (a b : Rect) : meetB a b = meetB b a := by
  rw [Bool.eq_iff_iff, meetB_iff, meetB_iff]; omega
/-- All of the first rectangles lie within. -/
def InsTo (l : List Rect) (m n : Int) (i : Nat) : Prop := ∀ k, k < i → insB (l.getD k default) m n = true
theorem InsTo.all {l : List Rect} {m n : Int} {i : Nat} (h : InsTo l m n i) (hi : i ≤ l.length) (hm : m ≤ 1000000000000) (hn : n ≤ 1000000000000) : AllRB (l.take i) := fun q hq => by
  obtain ⟨k, hk, rfl⟩ := List.mem_iff_getElem.1 hq
  have h2 : k < i := by rw [List.length_take] at hk; omega
  have := RB_ins (h k h2) hm hn
  rw [List.getElem_take]
  rwa [List.getD_eq_getElem?_getD, List.getElem?_eq_getElem (by omega)] at this
theorem InsTo.succ {l : List Rect} {m n : Int} {i : Nat} (h : InsTo l m n i) (h2 : insB (l.getD i default) m n = true) : InsTo l m n (i + 1) := fun k hk => by
  by_cases e : k = i
  · rw [e]; exact h2
  · exact h k (by omega)
theorem anyM_take {l : List Rect} {r : Rect} {i : Nat} : anyM (l.take i) r = true ↔ ∃ k, k < i ∧ k < l.length ∧ meetB (l.getD k default) r = true := by
  unfold anyM
  rw [List.any_eq_true]
  constructor
  · rintro ⟨q, hq, hm⟩
    obtain ⟨k, hk, rfl⟩ := List.mem_iff_getElem.1 hq
    rw [List.length_take] at hk
    rw [List.getElem_take] at hm
    refine ⟨k, by omega, by omega, ?_⟩
    rwa [List.getD_eq_getElem?_getD, List.getElem?_eq_getElem (by omega)]
  · rintro ⟨k, h1, h2, hm⟩
    refine ⟨l.getD k default, ?_, hm⟩
    have : (l.take i).getD k default ∈ l.take i := getDX_mem (by rw [List.length_take]; omega)
    rwa [List.getD_eq_getElem?_getD, List.getElem?_take_of_lt h1, ← List.getD_eq_getElem?_getD] at this
end Go.Ch
end
section
namespace Go.Proofs
open Go.Shelf
def Tryd.lays128_ren : Go.Shelf.Ren := ⟨fun | 128 => 96 | n => n, fun | 51 => 145 | 3 => 3 | 4 => 4 | 46 => 119 | 5 => 5 | 9 => 9 | n => n, fun | n => n⟩
def Tryd.lays125_ren : Go.Shelf.Ren := ⟨fun | 125 => 77 | 128 => 96 | 129 => 97 | n => n, fun | 46 => 119 | 3 => 3 | 51 => 145 | 53 => 147 | 4 => 4 | 5 => 5 | 9 => 9 | n => n, fun | n => n⟩
def Tryd.lays215_ren : Go.Shelf.Ren := ⟨fun | 215 => 78 | n => n, fun | 3 => 3 | 4 => 4 | n => n, fun | n => n⟩
def Tryd.lays122_ren : Go.Shelf.Ren := ⟨fun | 122 => 56 | 215 => 78 | n => n, fun | 3 => 3 | 4 => 4 | n => n, fun | n => n⟩
def Tryd.lays129_ren : Go.Shelf.Ren := ⟨fun | 129 => 97 | n => n, fun | 53 => 147 | 3 => 3 | 4 => 4 | 46 => 119 | 5 => 5 | 9 => 9 | n => n, fun | n => n⟩
def Tryd.lays197_ren : Go.Shelf.Ren := ⟨fun | 197 => 98 | 260 => 107 | n => n, fun | 9 => 9 | 21 => 21 | 3 => 3 | 4 => 4 | 5 => 5 | 105 => 148 | 119 => 133 | 0 => 0 | 46 => 119 | 139 => 136 | 138 => 135 | n => n, fun | 3 => 0 | 4 => 1 | n => n⟩
theorem Tryd.lays197 : Go.Proofs.Lays.n197 Tryd.prog Tryd.lays197_ren := {
  mixed := by kernel_rfl
  f197 := Tryd.func98.trans (congrArg some (by kernel_rfl))
  f260 := Tryd.func107.trans (congrArg some (by kernel_rfl))
  t0 := Tryd.underlying0
  a0 := Tryd.isAgg0
  z0 := Tryd.sizeOf0
  v0 := Tryd.zeroValue0
  t3 := Tryd.underlying3
  a3 := Tryd.isAgg3
  z3 := Tryd.sizeOf3
  v3 := Tryd.zeroValue3
  t4 := Tryd.underlying4
  a4 := Tryd.isAgg4
  z4 := Tryd.sizeOf4
  v4 := Tryd.zeroValue4
  t5 := Tryd.underlying5
  a5 := Tryd.isAgg5
  z5 := Tryd.sizeOf5
  v5 := Tryd.zeroValue5
  t9 := Tryd.underlying9
  a9 := Tryd.isAgg9
  z9 := Tryd.sizeOf9
  v9 := Tryd.zeroValue9
  t21 := Tryd.underlying21
  a21 := Tryd.isAgg21
  z21 := Tryd.sizeOf21
  v21 := Tryd.zeroValue21
  t46 := Tryd.underlying119
  a46 := Tryd.isAgg119
  z46 := Tryd.sizeOf119
  v46 := Tryd.zeroValue119
  t105 := Tryd.underlying148
  a105 := Tryd.isAgg148
  z105 := Tryd.sizeOf148
  v105 := Tryd.zeroValue148
  t119 := Tryd.underlying133
  a119 := Tryd.isAgg133
  z119 := Tryd.sizeOf133
  t138 := Tryd.underlying135
  a138 := Tryd.isAgg135
  z138 := Tryd.sizeOf135
  v138 := Tryd.zeroValue135
  t139 := Tryd.underlying136
  a139 := Tryd.isAgg136
  z139 := Tryd.sizeOf136
  v139 := Tryd.zeroValue136
  g3 := by kernel_rfl
  g4 := by kernel_rfl }
def Tryd.lays260_ren : Go.Shelf.Ren := ⟨fun | 260 => 107 | n => n, fun | 9 => 9 | 21 => 21 | 3 => 3 | 4 => 4 | 5 => 5 | 119 => 133 | 0 => 0 | 46 => 119 | 139 => 136 | 138 => 135 | n => n, fun | 3 => 0 | 4 => 1 | n => n⟩
theorem Tryd.lays260 : Go.Proofs.Lays.n260 Tryd.prog Tryd.lays260_ren := {
  mixed := by kernel_rfl
  f260 := Tryd.func107.trans (congrArg some (by kernel_rfl))
  t0 := Tryd.underlying0
  a0 := Tryd.isAgg0
  z0 := Tryd.sizeOf0
  v0 := Tryd.zeroValue0
  t3 := Tryd.underlying3
  a3 := Tryd.isAgg3
  z3 := Tryd.sizeOf3
  v3 := Tryd.zeroValue3
  t4 := Tryd.underlying4
  a4 := Tryd.isAgg4
  z4 := Tryd.sizeOf4
  v4 := Tryd.zeroValue4
  t5 := Tryd.underlying5
  a5 := Tryd.isAgg5
  z5 := Tryd.sizeOf5
  v5 := Tryd.zeroValue5
  t9 := Tryd.underlying9
  a9 := Tryd.isAgg9
  z9 := Tryd.sizeOf9
  v9 := Tryd.zeroValue9
  t21 := Tryd.underlying21
  a21 := Tryd.isAgg21
  z21 := Tryd.sizeOf21
  v21 := Tryd.zeroValue21
  t46 := Tryd.underlying119
  a46 := Tryd.isAgg119
  z46 := Tryd.sizeOf119
  v46 := Tryd.zeroValue119
  t119 := Tryd.underlying133
  a119 := Tryd.isAgg133
  z119 := Tryd.sizeOf133
  t138 := Tryd.underlying135
  a138 := Tryd.isAgg135
  z138 := Tryd.sizeOf135
  v138 := Tryd.zeroValue135
  t139 := Tryd.underlying136
  a139 := Tryd.isAgg136
  z139 := Tryd.sizeOf136
  v139 := Tryd.zeroValue136
  g3 := by kernel_rfl
  g4 := by kernel_rfl }
open Go.RowKit Go.Lib in
/-- **unicode/utf8.DecodeRuneInString AT EVERY STRING.** (LAID: no walk: one application.) -/
theorem Tryd.utf8_DecodeRuneInString (s : ByteArray) (w : World) (hT : Lib.Utf8Tabs 0 1 w) :
    Calls Tryd.prog 98 #[.string s] w fun e w' => e = .returned (.tuple #[.int .i32 (Lib.decodeGo s).1, .int .i64 (Lib.decodeGo s).2]) ∧ Below w.heap.size w w' := Any.utf8_DecodeRuneInString Tryd.lays197 s w hT
def Tryd.laysNm237_ren : Go.Shelf.Ren := ⟨fun | 37 => 78 | n => n, fun | 3 => 3 | 4 => 4 | n => n, fun | n => n⟩
theorem Tryd.laysNm237 : Go.Proofs.Lays2.n37 Tryd.prog Tryd.laysNm237_ren := {
  mixed := by kernel_rfl
  f37 := Tryd.func78.trans (congrArg some (by kernel_rfl))
  t3 := Tryd.underlying3
  a3 := Tryd.isAgg3
  z3 := Tryd.sizeOf3
  v3 := Tryd.zeroValue3
  t4 := Tryd.underlying4
  a4 := Tryd.isAgg4
  z4 := Tryd.sizeOf4
  v4 := Tryd.zeroValue4 }
open Go.RowKit Go.Lib in
/-- cmp.isNaN[int]: 'x != x': false. (LAID: no walk: one application.) -/
theorem Tryd.cmp_isNaN_int2 (x : Int) (w : World) :
    Calls Tryd.prog 78 #[.int .i64 x] w fun e w' => e = .returned (.bool false) ∧ w' = w := Any.cmp_isNaN_int2 Tryd.laysNm237 x w
def Tryd.laysValid_ren : Go.Shelf.Ren := ⟨fun | 196 => 65 | 259 => 87 | n => n, fun | 9 => 9 | 4 => 4 | 3 => 3 | 5 => 5 | 12 => 12 | 119 => 133 | 0 => 0 | 46 => 119 | 139 => 136 | 138 => 135 | 53 => 147 | n => n, fun | 3 => 0 | 4 => 1 | n => n⟩
def Tryd.sortQ_ren : Go.Shelf.Ren := ⟨fun | 6 => 53 | 15 => 77 | 14 => 76 | 28 => 96 | 29 => 97 | 20 => 88 | 21 => 89 | 22 => 90 | 23 => 91 | 24 => 92 | 25 => 93 | 26 => 94 | 27 => 95 | 46 => 102 | 47 => 103 | 48 => 104 | 49 => 105 | 50 => 106 | 57 => 110 | n => n, fun | 22 => 23 | 24 => 39 | 25 => 100 | 3 => 3 | 39 => 119 | 0 => 0 | 53 => 145 | 55 => 147 | 4 => 4 | 46 => 139 | 45 => 138 | 50 => 72 | 5 => 5 | 9 => 9 | 66 => 151 | 70 => 155 | 76 => 157 | 77 => 87 | n => n, fun | n => n⟩
theorem Tryd.sortQ : Go.Proofs.SlLaysF0.n6 Tryd.prog Tryd.sortQ_ren := {
  mixed := by kernel_rfl
  f6 := ⟨Tryd.f53.name, by decide, Tryd.func53.trans (congrArg some (by kernel_rfl))⟩
  f14 := ⟨Tryd.f76.name, by decide, Tryd.func76.trans (congrArg some (by kernel_rfl))⟩
  f15 := Tryd.func77.trans (congrArg some (by kernel_rfl))
  f20 := ⟨Tryd.f88.name, by decide, Tryd.func88.trans (congrArg some (by kernel_rfl))⟩
  f21 := ⟨Tryd.f89.name, by decide, Tryd.func89.trans (congrArg some (by kernel_rfl))⟩
  f22 := ⟨Tryd.f90.name, by decide, Tryd.func90.trans (congrArg some (by kernel_rfl))⟩
  f23 := ⟨Tryd.f91.name, by decide, Tryd.func91.trans (congrArg some (by kernel_rfl))⟩
  f24 := ⟨Tryd.f92.name, by decide, Tryd.func92.trans (congrArg some (by kernel_rfl))⟩
  f25 := ⟨Tryd.f93.name, by decide, Tryd.func93.trans (congrArg some (by kernel_rfl))⟩
  f26 := ⟨Tryd.f94.name, by decide, Tryd.func94.trans (congrArg some (by kernel_rfl))⟩
  f27 := ⟨Tryd.f95.name, by decide, Tryd.func95.trans (congrArg some (by kernel_rfl))⟩
  f28 := Tryd.func96.trans (congrArg some (by kernel_rfl))
  f29 := Tryd.func97.trans (congrArg some (by kernel_rfl))
  f46 := ⟨Tryd.f102.name, by decide, Tryd.func102.trans (congrArg some (by kernel_rfl))⟩
  f47 := Tryd.func103.trans (congrArg some (by kernel_rfl))
  f48 := Tryd.func104.trans (congrArg some (by kernel_rfl))
  f49 := ⟨Tryd.f105.name, by decide, Tryd.func105.trans (congrArg some (by kernel_rfl))⟩
  f50 := ⟨Tryd.f106.name, by decide, Tryd.func106.trans (congrArg some (by kernel_rfl))⟩
  f57 := ⟨Tryd.f110.name, by decide, Tryd.func110.trans (congrArg some (by kernel_rfl))⟩
  t0 := Tryd.underlying0
  a0 := Tryd.isAgg0
  z0 := Tryd.sizeOf0
  v0 := Tryd.zeroValue0
  t3 := Tryd.underlying3
  a3 := Tryd.isAgg3
  z3 := Tryd.sizeOf3
  v3 := Tryd.zeroValue3
  t4 := Tryd.underlying4
  a4 := Tryd.isAgg4
  z4 := Tryd.sizeOf4
  v4 := Tryd.zeroValue4
  t5 := Tryd.underlying5
  a5 := Tryd.isAgg5
  z5 := Tryd.sizeOf5
  v5 := Tryd.zeroValue5
  t9 := Tryd.underlying9
  a9 := Tryd.isAgg9
  z9 := Tryd.sizeOf9
  v9 := Tryd.zeroValue9
  t22 := Tryd.underlying23
  a22 := Tryd.isAgg23
  z22 := Tryd.sizeOf23
  v22 := Tryd.zeroValue23
  t25 := Tryd.underlying100
  a25 := Tryd.isAgg100
  z25 := Tryd.sizeOf100
  v25 := Tryd.zeroValue100
  t39 := Tryd.underlying119
  a39 := Tryd.isAgg119
  z39 := Tryd.sizeOf119
  v39 := Tryd.zeroValue119
  t45 := Tryd.underlying138
  a45 := Tryd.isAgg138
  z45 := Tryd.sizeOf138
  v45 := Tryd.zeroValue138
  t46 := Tryd.underlying139
  a46 := Tryd.isAgg139
  z46 := Tryd.sizeOf139
  v46 := Tryd.zeroValue139
  t50 := Tryd.underlying72
  a50 := Tryd.isAgg72
  z50 := Tryd.sizeOf72
  v50 := Tryd.zeroValue72
  t53 := Tryd.underlying145
  a53 := Tryd.isAgg145
  z53 := Tryd.sizeOf145
  v53 := Tryd.zeroValue145
  t55 := Tryd.underlying147
  a55 := Tryd.isAgg147
  z55 := Tryd.sizeOf147
  v55 := Tryd.zeroValue147
  t66 := Tryd.underlying151
  a66 := Tryd.isAgg151
  z66 := Tryd.sizeOf151
  v66 := Tryd.zeroValue151
  t70 := Tryd.underlying155
  a70 := Tryd.isAgg155
  z70 := Tryd.sizeOf155
  v70 := Tryd.zeroValue155
  t76 := Tryd.underlying157
  a76 := Tryd.isAgg157
  z76 := Tryd.sizeOf157
  v76 := Tryd.zeroValue157
  t77 := Tryd.underlying87
  a77 := Tryd.isAgg87
  z77 := Tryd.sizeOf87
  v77 := Tryd.zeroValue87 }
end Go.Proofs
end
section
set_option linter.unusedVariables false
set_option linter.unusedSimpArgs false
set_option maxRecDepth 100000
set_option maxHeartbeats 4000000
open Go Go.Proofs Go.Ab
namespace Go.Ch
theorem fc_decG (s : ByteArray) : FC Tryd.prog 98 [VS s] (app emp []) (.tup [.t (.sc (.int .i32 (decR s))), VI (decW s : Int)]) (app emp []) := by
  refine FC.ofTab (us := [.string s]) (v := .tuple #[.int .i32 (Lib.decodeGo s).1, .int .i64 (Lib.decodeGo s).2]) (fun st m w ok xs hl hv => ?_) (fun st m w ok => ?_) (fun w hT => ?_)
  · match xs, hl with
    | [x], _ =>
      have := VRel.sc_inv (hv 0 _ _ rfl rfl)
      rw [this]
  · refine .tup _ [.int .i32 (Lib.decodeGo s).1, .int .i64 (Lib.decodeGo s).2] rfl (fun i v u h1 h2 => ?_)
    match i with
    | 0 => cases h1; cases h2; exact .t _ _ (.sc _ rfl)
    | 1 => cases h1; cases h2; exact .t _ _ (.sc _ rfl)
    | i + 2 => cases h1
  · exact Tryd.utf8_DecodeRuneInString s w (hT 0 1 (by kernel_rfl) (by kernel_rfl))
end Go.Ch
end
section
set_option linter.unusedVariables false
set_option linter.unusedSimpArgs false
set_option maxRecDepth 100000
set_option maxHeartbeats 4000000
open Go Go.Proofs Go.Ab
namespace Go.Ch
theorem fc_text (s : ByteArray) : FC Tryd.prog 79 [VS s] (app emp []) (VB (textG s)) (app emp []) := by
 refine .go Tryd.f79 ?_
 refine .loop (α := ByteArray) [.r []] 8 (fun u => ([(0, VS u)], [])) (fun u => textG s = textG u) (fun u => u.size) (s : ByteArray) ?_ ?_
 ·
  rfl
 rintro u I1 ih1
 replace I1 : textG s = textG u := I1
 refine .br [.r []] (!(seq u ({ data := #[] }))) (fun h1 => ?_) (fun h1 => ?_)
 ·
  (try simp only [Bool.not_eq_true', Bool.not_eq_false'] at h1)
  rw [seq_mt, decide_eq_false_iff_not] at h1
  have hu : 0 < u.size := by omega
  have hw := decW_bd hu
  have hr := decR_bd u
  refine .br [.r [(1, X (Xc0 (fc_decG u) X0))], .r [(4, Xv 1 ((decR u) == 65533) X0), (5, X (Xk ((decR u) == 65533))), (8, Xv 1 (!(((decR u) == 65533) && ((decW u : Int) == 1))) X0), (9, X (Xk' (((decR u) == 65533) && ((decW u : Int) == 1)))), (12, Xv 1 (!((((decR u) == 65533) && ((decW u : Int) == 1)) || ((decR u) == 10))) (Xn (decR u))), (13, Xv 1 (!((((decR u) == 65533) && ((decW u : Int) == 1)) || ((decR u) == 10))) (Xc0 (fc_char (decR u)) X0)), (14, Xv 1 (!((((decR u) == 65533) && ((decW u : Int) == 1)) || ((decR u) == 10))) X0), (15, X (Xk' ((((decR u) == 65533) && ((decW u : Int) == 1)) || ((decR u) == 10))))]] (((((decR u) == 65533) && ((decW u : Int) == 1)) || ((decR u) == 10)) || !(decide (CharP (decR u)))) (fun h3 => ?_) (fun h3 => ?_)
  ·
   (try simp only [decide_eq_true_eq, decide_eq_false_iff_not, Int.not_lt, Int.not_le, Bool.not_eq_true', Bool.not_eq_false', Bool.and_eq_true, Bool.and_eq_false_iff, Bool.or_eq_true, Bool.or_eq_false_iff, beq_iff_eq, beq_eq_false_iff_ne, ne_eq] at h3)
   have hb : badT u := by rcases h3 with (h | h) | h; (exact .inl ⟨h.1, by omega⟩); (exact .inr (.inl h)); (exact .inr (.inr h))
   have e1 : ((textG s) : Bool) = false := by
    rw [I1, textG_bad hu hb]
   exact .finE [.r []] [] (fun z0 => (VB z0, [])) (false : Bool) ((textG s) : Bool) e1
  ·
   (try simp only [decide_eq_true_eq, decide_eq_false_iff_not, Int.not_lt, Int.not_le, Bool.not_eq_true', Bool.not_eq_false', Bool.and_eq_true, Bool.and_eq_false_iff, Bool.or_eq_true, Bool.or_eq_false_iff, beq_iff_eq, beq_eq_false_iff_ne, ne_eq] at h3)
   have hb : ¬ badT u := by rintro (q | q | q); (rcases h3.1.1 with h | h; (exact h q.1); (exact h (by omega))); (exact h3.1.2 q); (exact q h3.2)
   refine .back [.r [(2, X (Xa (Xc ((0:Int) ≤ (decW u : Int))) (Xa (Xc (((decW u : Int) : Int) ≤ (u.size : Int))) (Xc (((u.size : Int) : Int) ≤ (u.size : Int))))))]] [] (ih1 ((u.extract (((decW u : Int) : Int)).toNat (((u.size : Int) : Int)).toNat) : ByteArray) ?_ ?_)
   ·
    rw [I1, textG_go hu hb]
    rfl
   ·
    show (u.extract (decW u) u.size).size < u.size
    rw [ByteArray.size_extract]; omega
 ·
  (try simp only [Bool.not_eq_true', Bool.not_eq_false'] at h1)
  have e2 : ((textG s) : Bool) = true := by
   rw [seq_mt, decide_eq_true_eq] at h1
   rw [I1, textG_end (by omega)]
  exact .finE [.r []] [] (fun z0 => (VB z0, [])) (true : Bool) ((textG s) : Bool) e2

end Go.Ch
end
section
set_option linter.unusedVariables false
set_option linter.unusedSimpArgs false
set_option maxRecDepth 100000
set_option maxHeartbeats 4000000
open Go Go.Proofs Go.Ab
namespace Go.Ch
theorem fc_cells (l : List Cell) (m n : Int) (o : Bool) : FC Tryd.prog 58 [VL 5 cellT l, VI m, VI n, VB o] (app emp []) (VI (cellsE l m n o 0)) (app emp []) := by
 refine .go Tryd.f58 ?_
 refine .len 0 (fun hl0 => ?_)
 refine .loop (α := Nat) [.r [], .r [(1, X (Xl cellT l))]] 32 (fun i => ([(0, VL 5 cellT l), (1, VI m), (2, VI n), (3, VB o), (12, VL 5 cellT l), (13, VI (l.length : Int)), (14, VI (i : Int))], [])) (fun i => i ≤ l.length ∧ cellsE l m n o 0 = cellsE l m n o i) (fun i => l.length - i) (0 : Nat) ?_ ?_
 ·
  exact ⟨by omega, rfl⟩
 rintro i I2 ih2
 try dsimp only at I2
 refine .br [.r []] (decide ((i : Int) < (l.length : Int))) (fun h2 => ?_) (fun h2 => ?_)
 ·
  (try simp only [decide_eq_true_eq, decide_eq_false_iff_not, Int.not_lt, Int.not_le] at h2)
  have hx : cellsE l m n o i = _ := cellsE.eq_1 l m n o i
  rw [if_pos (by omega)] at hx
  unfold cellE at hx
  refine .br [.r [(1, X (Xi cellT l (i : Int)))], .r [(5, Xv 1 (!(decide ((((l.getD i default)).row) < 0))) X0), (7, Xv 2 (!(decide ((((l.getD i default)).row) < 0))) X0), (8, X (Xk' (decide ((((l.getD i default)).row) < 0)))), (11, Xv 1 (!(decide ((((l.getD i default)).row) < 0) || decide ((((l.getD i default)).row) ≥ m))) X0), (12, Xv 1 (!(decide ((((l.getD i default)).row) < 0) || decide ((((l.getD i default)).row) ≥ m))) X0), (13, X (Xk' (decide ((((l.getD i default)).row) < 0) || decide ((((l.getD i default)).row) ≥ m)))), (16, Xv 1 (!((decide ((((l.getD i default)).row) < 0) || decide ((((l.getD i default)).row) ≥ m)) || decide ((((l.getD i default)).col) < 0))) X0), (18, Xv 2 (!((decide ((((l.getD i default)).row) < 0) || decide ((((l.getD i default)).row) ≥ m)) || decide ((((l.getD i default)).col) < 0))) X0), (19, X (Xk' ((decide ((((l.getD i default)).row) < 0) || decide ((((l.getD i default)).row) ≥ m)) || decide ((((l.getD i default)).col) < 0))))]] (((decide ((((l.getD i default)).row) < 0) || decide ((((l.getD i default)).row) ≥ m)) || decide ((((l.getD i default)).col) < 0)) || decide ((((l.getD i default)).col) ≥ n)) (fun h4 => ?_) (fun h4 => ?_)
  ·
   (try simp only [decide_eq_true_eq, decide_eq_false_iff_not, Int.not_lt, Int.not_le, ge_iff_le, Bool.or_eq_true, Bool.or_eq_false_iff] at h4)
   have e1 : ((cellsE l m n o 0) : Int) = 2 := by
    first | (rw [I2.2, hx]; ((repeat' split) <;> first | rfl | omega | (simp_all; done) | (simp_all; omega))) | (rw [I2.2, cellsE, if_neg (by omega)])
   exact .finE [.r []] [] (fun z0 => (VI z0, [])) (2 : Int) ((cellsE l m n o 0) : Int) e1
  ·
   (try simp only [decide_eq_true_eq, decide_eq_false_iff_not, Int.not_lt, Int.not_le, ge_iff_le, Bool.or_eq_true, Bool.or_eq_false_iff] at h4)
   refine .br [.r [(5, Xv 1 (!(decide ((((l.getD i default)).ref) < 0))) X0), (6, Xv 1 (!(decide ((((l.getD i default)).ref) < 0))) X0), (7, X (Xk' (decide ((((l.getD i default)).ref) < 0))))]] (decide ((((l.getD i default)).ref) < 0) || decide ((((l.getD i default)).ref) > 1073741824)) (fun h6 => ?_) (fun h6 => ?_)
   ·
    (try simp only [decide_eq_true_eq, decide_eq_false_iff_not, Int.not_lt, Int.not_le, gt_iff_lt, Bool.or_eq_true, Bool.or_eq_false_iff] at h6)
    have e2 : ((cellsE l m n o 0) : Int) = 2 := by
     first | (rw [I2.2, hx]; ((repeat' split) <;> first | rfl | omega | (simp_all; done) | (simp_all; omega))) | (rw [I2.2, cellsE, if_neg (by omega)])
    exact .finE [.r []] [] (fun z0 => (VI z0, [])) (2 : Int) ((cellsE l m n o 0) : Int) e2
   ·
    (try simp only [decide_eq_true_eq, decide_eq_false_iff_not, Int.not_lt, Int.not_le, gt_iff_lt, Bool.or_eq_true, Bool.or_eq_false_iff] at h6)
    refine .br [.r [(2, X (Xc0 (fc_text (((l.getD i default)).text)) X0))]] (!(textG (((l.getD i default)).text))) (fun h8 => ?_) (fun h8 => ?_)
    ·
     (try simp only [Bool.not_eq_true', Bool.not_eq_false'] at h8)
     have e3 : ((cellsE l m n o 0) : Int) = 23 := by
      first | (rw [I2.2, hx]; ((repeat' split) <;> first | rfl | omega | (simp_all; done) | (simp_all; omega))) | (rw [I2.2, cellsE, if_neg (by omega)])
     exact .finE [.r []] [] (fun z0 => (VI z0, [])) (23 : Int) ((cellsE l m n o 0) : Int) e3
    ·
     (try simp only [Bool.not_eq_true', Bool.not_eq_false'] at h8)
     refine .br [.r [(2, X (Xc0 (fc_acheck (((l.getD i default)).attrs)) X0))], .r []] ((chkA false (((l.getD i default)).attrs) 0) != 0) (fun h11 => ?_) (fun h11 => ?_)
     ·
      (try simp only [bne_iff_ne, bne_eq_false_iff_eq, ne_eq] at h11)
      have e4 : ((cellsE l m n o 0) : Int) = (chkA false (((l.getD i default)).attrs) 0) := by
       first | (rw [I2.2, hx]; ((repeat' split) <;> first | rfl | omega | (simp_all; done) | (simp_all; omega))) | (rw [I2.2, cellsE, if_neg (by omega)])
      exact .finE [.r []] [] (fun z0 => (VI z0, [])) ((chkA false (((l.getD i default)).attrs) 0) : Int) ((cellsE l m n o 0) : Int) e4
     ·
      (try simp only [bne_iff_ne, bne_eq_false_iff_eq, ne_eq] at h11)
      refine .br [.r [(1, X (Xc0 (fc_empty ((l.getD i default))) X0)), (4, Xv 1 (emptyC ((l.getD i default))) X0), (5, X (Xk (emptyC ((l.getD i default)))))]] ((emptyC ((l.getD i default))) && !o) (fun h13 => ?_) (fun h13 => ?_)
      ·
       (try simp only [Bool.not_eq_true', Bool.not_eq_false', Bool.and_eq_true, Bool.and_eq_false_iff] at h13)
       have e5 : ((cellsE l m n o 0) : Int) = 4 := by
        first | (rw [I2.2, hx]; ((repeat' split) <;> first | rfl | omega | (simp_all; done) | (simp_all; omega))) | (rw [I2.2, cellsE, if_neg (by omega)])
       exact .finE [.r []] [] (fun z0 => (VI z0, [])) (4 : Int) ((cellsE l m n o 0) : Int) e5
      ·
       (try simp only [Bool.not_eq_true', Bool.not_eq_false', Bool.and_eq_true, Bool.and_eq_false_iff] at h13)
       refine .br [.r [(5, Xv 1 (decide ((i : Int) > 0)) (Xn ((i : Int) - 1))), (6, Xv 2 (decide ((i : Int) > 0)) (Xi' cellT l ((i : Int) - 1) (i - 1))), (7, Xv 1 (decide ((i : Int) > 0)) X0), (9, Xv 2 (decide ((i : Int) > 0)) (Xc0 (fc_order ((l.getD (i - 1) default)) ((l.getD i default))) X0)), (10, Xv 1 (decide ((i : Int) > 0)) X0), (11, X (Xk (decide ((i : Int) > 0))))]] (decide ((i : Int) > 0) && decide ((ordC ((l.getD (i - 1) default)) ((l.getD i default))) ≥ 0)) (fun h15 => ?_) (fun h15 => ?_)
       ·
        (try simp only [decide_eq_true_eq, decide_eq_false_iff_not, Int.not_lt, Int.not_le, gt_iff_lt, ge_iff_le, Bool.and_eq_true, Bool.and_eq_false_iff, Bool.not_eq_true', Bool.not_eq_false'] at h15)
        have e6 : ((cellsE l m n o 0) : Int) = 5 := by
         first | (rw [I2.2, hx]; ((repeat' split) <;> first | rfl | omega | (simp_all; done) | (simp_all; omega))) | (rw [I2.2, cellsE, if_neg (by omega)])
        exact .finE [.r []] [] (fun z0 => (VI z0, [])) (5 : Int) ((cellsE l m n o 0) : Int) e6
       ·
        (try simp only [decide_eq_true_eq, decide_eq_false_iff_not, Int.not_lt, Int.not_le, gt_iff_lt, ge_iff_le, Bool.and_eq_true, Bool.and_eq_false_iff, Bool.not_eq_true', Bool.not_eq_false'] at h15)
        refine .back [.r [(0, X (Xn ((i : Int) + 1)))]] [] (ih2 ((i + 1) : Nat) ?_ ?_)
        ·
         refine ⟨by omega, ?_⟩
         rw [I2.2, hx]
         ((repeat' split) <;> first | rfl | omega | (simp_all; done) | (simp_all; omega))
        ·
         ((try dsimp only); omega)
 ·
  (try simp only [decide_eq_true_eq, decide_eq_false_iff_not, Int.not_lt, Int.not_le] at h2)
  have e7 : ((cellsE l m n o 0) : Int) = 0 := by
   first | (rw [I2.2, hx]; ((repeat' split) <;> first | rfl | omega | (simp_all; done) | (simp_all; omega))) | (rw [I2.2, cellsE, if_neg (by omega)])
  exact .finE [.r []] [] (fun z0 => (VI z0, [])) (0 : Int) ((cellsE l m n o 0) : Int) e7

end Go.Ch
end
section
set_option linter.unusedVariables false
set_option linter.unusedSimpArgs false
set_option maxRecDepth 100000
set_option maxHeartbeats 4000000
open Go Go.Proofs Go.Ab
namespace Go.Ch
theorem fc_chk1 (q : Rect) (a b c d : Int) (hq : RB q) (hr : RB ⟨a, b, c, d⟩) : FC Tryd.prog 71 [.t (rectT q), .ptr 0 0] (app emp [(0, .box [VI a, VI b, VI c, VI d])]) (VB (meetB q ⟨a, b, c, d⟩)) (app emp [(0, .box [VI a, VI b, VI c, VI d])]) := by
 refine .go Tryd.f71 ?_
 have e1 : ((meetB q ⟨a, b, c, d⟩) : Bool) = (meetB q ({ row := a, col := b, h := c, w := d } : Rect)) := by
  rfl
 exact .finE [.r [], .r [(2, X (Xc0 (fc_meets q ({ row := a, col := b, h := c, w := d } : Rect) (by assumption) (by assumption)) X0))]] [(0, 0)] (fun z0 => (VB z0, [(0, .box [VI a, VI b, VI c, VI d])])) ((meetB q ({ row := a, col := b, h := c, w := d } : Rect)) : Bool) ((meetB q ⟨a, b, c, d⟩) : Bool) e1

theorem fc_raw1 (q : Rect) (a b c d : Int) (hq : RB q) (hr : RB ⟨a, b, c, d⟩) : FC Tryd.prog 51 [.t (rectT q), .ptr 0 0] (app emp [(0, .box [VI a, VI b, VI c, VI d])]) (VB (meetB q ⟨a, b, c, d⟩)) (app emp [(0, .box [VI a, VI b, VI c, VI d])]) := by
 refine .go Tryd.f51 ?_
 have e1 : ((meetB q ⟨a, b, c, d⟩) : Bool) = (meetB q ({ row := a, col := b, h := c, w := d } : Rect)) := by
  rfl
 exact .finE [.r [], .r [(2, X (Xc0 (fc_meets q ({ row := a, col := b, h := c, w := d } : Rect) (by assumption) (by assumption)) X0))]] [(0, 0)] (fun z0 => (VB z0, [(0, .box [VI a, VI b, VI c, VI d])])) ((meetB q ({ row := a, col := b, h := c, w := d } : Rect)) : Bool) ((meetB q ⟨a, b, c, d⟩) : Bool) e1

theorem fc_idxF_chk (l : List Rect) (a b c d : Int) (hl : AllRB l) (hr : RB ⟨a, b, c, d⟩) : FC Tryd.prog 75 [VL 4 rectT l, .fn 71 [.ptr 0 0]] (app emp [(0, .box [VI a, VI b, VI c, VI d])]) (VI (idxF (fun q => meetB q ⟨a, b, c, d⟩) l 0)) (app emp [(0, .box [VI a, VI b, VI c, VI d])]) := by
 refine .go Tryd.f75 ?_
 refine .len 0 (fun hl0 => ?_)
 refine .loop (α := Nat) [.r [], .r [(1, X (Xl rectT l))]] 33 (fun i => ([(0, VL 4 rectT l), (1, .fn 71 [.ptr 0 0]), (7, VI (l.length : Int)), (8, VI (i : Int))], [(0, .box [VI a, VI b, VI c, VI d])])) (fun i => i ≤ l.length ∧ idxF (fun q => meetB q ⟨a, b, c, d⟩) l 0 = idxF (fun q => meetB q ⟨a, b, c, d⟩) l i) (fun i => l.length - i) (0 : Nat) ?_ ?_
 ·
  exact ⟨by omega, rfl⟩
 rintro i I2 ih2
 try dsimp only at I2
 refine .br [.r []] (decide ((i : Int) < (l.length : Int))) (fun h2 => ?_) (fun h2 => ?_)
 ·
  (try simp only [decide_eq_true_eq, decide_eq_false_iff_not, Int.not_lt, Int.not_le] at h2)
  have hm := hl _ (getDX_mem (l := l) (i := i) (by omega))
  refine .br [.r [], .r [(3, X (Xi rectT l (i : Int))), (5, X (Xc3 97 [(0, 0)] (fc_chk1 ((l.getD i default)) a b c d (by assumption) (by assumption)) X0))]] (meetB ((l.getD i default)) ⟨a, b, c, d⟩) (fun h4 => ?_) (fun h4 => ?_)
  ·
   have e1 : ((idxF (fun q => meetB q ⟨a, b, c, d⟩) l 0) : Int) = (i : Int) := by
    rw [I2.2, idxF, if_pos (by omega), if_pos h4]
   exact .finE [.r []] [(0, 0)] (fun z0 => (VI z0, [(0, .box [VI a, VI b, VI c, VI d])])) ((i : Int) : Int) ((idxF (fun q => meetB q ⟨a, b, c, d⟩) l 0) : Int) e1
  ·
   refine .back [.r [(0, X (Xn ((i : Int) + 1)))]] [(0, 0)] (ih2 ((i + 1) : Nat) ?_ ?_)
   ·
    refine ⟨by omega, ?_⟩
    rw [I2.2, idxF, if_pos (by omega), if_neg (by rw [h4]; decide)]
   ·
    ((try dsimp only); omega)
 ·
  (try simp only [decide_eq_true_eq, decide_eq_false_iff_not, Int.not_lt, Int.not_le] at h2)
  have e2 : ((idxF (fun q => meetB q ⟨a, b, c, d⟩) l 0) : Int) = -1 := by
   rw [I2.2, idxF, if_neg (by omega)]
  exact .finE [.r []] [(0, 0)] (fun z0 => (VI z0, [(0, .box [VI a, VI b, VI c, VI d])])) (-1 : Int) ((idxF (fun q => meetB q ⟨a, b, c, d⟩) l 0) : Int) e2

theorem fc_anyF (l : List Rect) (a b c d : Int) (hl : AllRB l) (hr : RB ⟨a, b, c, d⟩) : FC Tryd.prog 70 [VL 4 rectT l, .fn 71 [.ptr 0 0]] (app emp [(0, .box [VI a, VI b, VI c, VI d])]) (VB (anyM l ⟨a, b, c, d⟩)) (app emp [(0, .box [VI a, VI b, VI c, VI d])]) := by
 refine .go Tryd.f70 ?_
 refine .len 0 (fun hl0 => ?_)
 have e1 : ((anyM l ⟨a, b, c, d⟩) : Bool) = decide ((idxF (fun q => meetB q ⟨a, b, c, d⟩) l 0) ≥ 0) := by
  unfold anyM; rw [Bool.eq_iff_iff, decide_eq_true_eq, ge_iff_le, idxF_any]
 exact .finE [.r [], .r [(2, X (Xc3 25 [(0, 0)] (fc_idxF_chk l a b c d (by assumption) (by assumption)) X0))]] [(0, 0)] (fun z0 => (VB z0, [(0, .box [VI a, VI b, VI c, VI d])])) (decide ((idxF (fun q => meetB q ⟨a, b, c, d⟩) l 0) ≥ 0) : Bool) ((anyM l ⟨a, b, c, d⟩) : Bool) e1

end Go.Ch
end
