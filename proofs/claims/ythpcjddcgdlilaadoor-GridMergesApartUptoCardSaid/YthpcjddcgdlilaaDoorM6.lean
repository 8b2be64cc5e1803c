/- Parts of the proof: ChGrid, ChGrid2, ChGrid3, GridPlain2, ChGrid4, ChGrid5, GridText, GridPlain3, TrydShelf, GridTab, ChGrid6, ChGrid7, ChGrid8, ChGrid9, GridPlain4. -/
import Derived.Test.YthpcjddcgdlilaaDoorM1
import Derived.Test.YthpcjddcgdlilaaDoorM2
import Derived.Test.YthpcjddcgdlilaaDoorM3
import Derived.Test.YthpcjddcgdlilaaDoorM4
import Derived.Test.YthpcjddcgdlilaaDoorM5
import Derived.Shelf.Unicode.DecodeSlow
import Derived.Lib.TrimUEq
import Derived.Lib.QuoteLoop
import Derived.Lib.ValidLaws
import Derived.Lib.ValidAsc
import Derived.Shelf.Small.Bits
import Derived.Shelf.Small.Wraps
import Derived.Shelf.Strconv.Itoa0
import Derived.Shelf.Unicode.Decode
import Derived.Shelf.Unicode.DecodeAny
import Derived.Ground.Names2Prog
import Derived.Shelf.Slices.SearchI
import Derived.Ground.SlsfProg
import Derived.Shelf.SlGeneric
import Derived.Shelf.SlSortCmp.WholeK
import Derived.Test.YthpcjddcgdlilaaDoorProg
import Derived.Shelf.Unicode.ValidAny
section
set_option linter.unusedVariables false
set_option linter.unusedSimpArgs false
set_option maxRecDepth 100000
set_option maxHeartbeats 4000000
open Go Go.Proofs Go.Ab
namespace Go.Ch
theorem fc_isNaN (x : Int) : FC Tryd.prog 78 [VI x] (app emp []) (VB false) (app emp []) := by
 refine .go Tryd.f78 ?_
 have e1 : ((x != x) : Bool) = false := by
  simp
 exact .finE [.r [], .r []] [] (fun z0 => (VB z0, [])) ((x != x) : Bool) (false : Bool) e1.symm

theorem fc_cmpI (x y : Int) : FC Tryd.prog 56 [VI x, VI y] (app emp []) (VI (cmpI x y)) (app emp []) := by
 refine .go Tryd.f56 ?_
 refine .br [.r [], .r [(1, X (Xc0 (fc_isNaN x) X0))], .r [(1, X (Xc0 (fc_isNaN y) X0))], .r [], .f, .r [], .f, .r []] (decide (x < y)) (fun h9 => ?_) (fun h9 => ?_)
 ·
  (try simp only [decide_eq_true_eq, decide_eq_false_iff_not, Int.not_lt, Int.not_le] at h9)
  have e1 : ((cmpI x y) : Int) = -1 := by
   unfold cmpI; ((repeat' split) <;> first | rfl | omega | (simp_all; done) | (simp_all; omega))
  exact .finE [.r []] [] (fun z0 => (VI z0, [])) (-1 : Int) ((cmpI x y) : Int) e1
 ·
  (try simp only [decide_eq_true_eq, decide_eq_false_iff_not, Int.not_lt, Int.not_le] at h9)
  refine .br [.r []] (decide (x > y)) (fun h11 => ?_) (fun h11 => ?_)
  ·
   (try simp only [decide_eq_true_eq, decide_eq_false_iff_not, Int.not_lt, Int.not_le, gt_iff_lt] at h11)
   have e2 : ((cmpI x y) : Int) = 1 := by
    unfold cmpI; ((repeat' split) <;> first | rfl | omega | (simp_all; done) | (simp_all; omega))
   exact .finE [.r []] [] (fun z0 => (VI z0, [])) (1 : Int) ((cmpI x y) : Int) e2
  ·
   (try simp only [decide_eq_true_eq, decide_eq_false_iff_not, Int.not_lt, Int.not_le, gt_iff_lt] at h11)
   have e3 : ((cmpI x y) : Int) = 0 := by
    unfold cmpI; ((repeat' split) <;> first | rfl | omega | (simp_all; done) | (simp_all; omega))
   exact .finE [.r []] [] (fun z0 => (VI z0, [])) (0 : Int) ((cmpI x y) : Int) e3

theorem fc_or (l : List Int) : FC Tryd.prog 55 [VL 1 intT l] (app emp []) (VI (orL l)) (app emp []) := by
 refine .go Tryd.f55 ?_
 refine .len 0 (fun hl0 => ?_)
 refine .loop (α := Nat) [.r [], .r [], .r [(1, X (Xl intT l))]] 40 (fun i => ([(3, VI 0), (6, VL 1 intT l), (7, VI (l.length : Int)), (8, VI (i : Int))], [])) (fun i => i ≤ l.length ∧ orL l = orL (l.drop i)) (fun i => l.length - i) (0 : Nat) ?_ ?_
 ·
  exact ⟨by omega, rfl⟩
 rintro i I3 ih3
 try dsimp only at I3
 refine .br [.r []] (decide ((i : Int) < (l.length : Int))) (fun h3 => ?_) (fun h3 => ?_)
 ·
  (try simp only [decide_eq_true_eq, decide_eq_false_iff_not, Int.not_lt, Int.not_le] at h3)
  refine .br [.r [(0, X (Xi intT l (i : Int)))], .r []] ((l.getD i default) != 0) (fun h5 => ?_) (fun h5 => ?_)
  ·
   (try simp only [bne_iff_ne, bne_eq_false_iff_eq, ne_eq] at h5)
   have e1 : ((orL l) : Int) = (l.getD i default) := by
    rw [I3.2, orL_at (by omega), if_pos (by omega)]
   exact .finE [.r []] [] (fun z0 => (VI z0, [])) ((l.getD i default) : Int) ((orL l) : Int) e1
  ·
   (try simp only [bne_iff_ne, bne_eq_false_iff_eq, ne_eq] at h5)
   refine .back [.r [(0, X (Xn ((i : Int) + 1)))]] [] (ih3 ((i + 1) : Nat) ?_ ?_)
   ·
    refine ⟨by omega, ?_⟩
    rw [I3.2, orL_at (by omega), if_neg (by omega)]
   ·
    ((try dsimp only); omega)
 ·
  (try simp only [decide_eq_true_eq, decide_eq_false_iff_not, Int.not_lt, Int.not_le] at h3)
  have e2 : ((orL l) : Int) = 0 := by
   rw [I3.2, List.drop_eq_nil_of_le (by omega)]; rfl
  exact .finE [.r []] [] (fun z0 => (VI z0, [])) (0 : Int) ((orL l) : Int) e2

theorem fc_order (a b : Cell) : FC Tryd.prog 64 [.t (cellT a), .t (cellT b)] (app emp []) (VI (ordC a b)) (app emp []) := by
 refine .go Tryd.f64 ?_
 have e1 : ((ordC a b) : Int) = (orL [(cmpI a.row b.row), (cmpI a.col b.col)]) := by
  rfl
 exact .finE [.r [], .r [(4, X (Xc0 (fc_cmpI a.row b.row) X0)), (9, X (Xc0 (fc_cmpI a.col b.col) X0)), (11, X (Xc0 (fc_or [(cmpI a.row b.row), (cmpI a.col b.col)]) (rowC intT [(cmpI a.row b.row), (cmpI a.col b.col)] X0)))]] [] (fun z0 => (VI z0, [])) ((orL [(cmpI a.row b.row), (cmpI a.col b.col)]) : Int) ((ordC a b) : Int) e1

theorem fc_empty (c : Cell) : FC Tryd.prog 72 [.t (cellT c)] (app emp []) (VB (emptyC c)) (app emp []) := by
 refine .go Tryd.f72 ?_
 have e1 : ((emptyC c) : Bool) = ((seq c.text ({ data := #[] }) && (c.ref == 0)) && ((c.attrs.length : Int) == 0)) := by
  rfl
 exact .finE [.r [], .r [(5, Xv 1 (seq c.text ({ data := #[] })) X0), (6, Xv 1 (seq c.text ({ data := #[] })) X0), (7, X (Xk (seq c.text ({ data := #[] })))), (10, Xv 1 (seq c.text ({ data := #[] }) && (c.ref == 0)) X0), (11, Xv 1 (seq c.text ({ data := #[] }) && (c.ref == 0)) (Xl attrT c.attrs)), (12, Xv 1 (seq c.text ({ data := #[] }) && (c.ref == 0)) X0), (13, X (Xk (seq c.text ({ data := #[] }) && (c.ref == 0))))]] [] (fun z0 => (VB z0, [])) (((seq c.text ({ data := #[] }) && (c.ref == 0)) && ((c.attrs.length : Int) == 0)) : Bool) ((emptyC c) : Bool) e1

theorem fc_clone (c : Cell) (h : c.attrs.length ≤ 1000000000000) : FC Tryd.prog 36 [.t (cellT c)] (app emp []) (.t (cellT c)) (app emp []) := by
 refine .go Tryd.f36 ?_
 exact .finV [.r [], .r [(2, X (Xan attrT 32 c.attrs))], .r []] [.fR 0 [(c.attrs.length : Nat) = (List.map attrT c.attrs).length] ⟨lm, trivial⟩] []

theorem fc_inside (r : Rect) (m n : Int) (hb : 0 ≤ m ∧ m ≤ 1000000000000 ∧ 0 ≤ n ∧ n ≤ 1000000000000) : FC Tryd.prog 46 [.t (rectT r), VI m, VI n] (app emp []) (VB (insB r m n)) (app emp []) := by
 refine .go Tryd.f46 ?_
 have e1 : ((insB r m n) : Bool) = (((((((decide (r.row ≥ 0) && decide (r.col ≥ 0)) && decide (r.h ≥ 1)) && decide (r.w ≥ 1)) && decide (r.row < m)) && decide (r.col < n)) && decide (r.h ≤ (m - r.row))) && decide (r.w ≤ (n - r.col))) := by
  unfold insB; rw [Bool.eq_iff_iff]; simp; try omega
 exact .finE [.r [], .r [(5, Xv 1 (decide (r.row ≥ 0)) X0), (6, Xv 1 (decide (r.row ≥ 0)) X0), (7, X (Xk (decide (r.row ≥ 0)))), (10, Xv 1 (decide (r.row ≥ 0) && decide (r.col ≥ 0)) X0), (11, Xv 1 (decide (r.row ≥ 0) && decide (r.col ≥ 0)) X0), (12, X (Xk (decide (r.row ≥ 0) && decide (r.col ≥ 0)))), (15, Xv 1 ((decide (r.row ≥ 0) && decide (r.col ≥ 0)) && decide (r.h ≥ 1)) X0), (16, Xv 1 ((decide (r.row ≥ 0) && decide (r.col ≥ 0)) && decide (r.h ≥ 1)) X0), (17, X (Xk ((decide (r.row ≥ 0) && decide (r.col ≥ 0)) && decide (r.h ≥ 1)))), (20, Xv 1 (((decide (r.row ≥ 0) && decide (r.col ≥ 0)) && decide (r.h ≥ 1)) && decide (r.w ≥ 1)) X0), (22, Xv 2 (((decide (r.row ≥ 0) && decide (r.col ≥ 0)) && decide (r.h ≥ 1)) && decide (r.w ≥ 1)) X0), (23, X (Xk (((decide (r.row ≥ 0) && decide (r.col ≥ 0)) && decide (r.h ≥ 1)) && decide (r.w ≥ 1)))), (26, Xv 1 ((((decide (r.row ≥ 0) && decide (r.col ≥ 0)) && decide (r.h ≥ 1)) && decide (r.w ≥ 1)) && decide (r.row < m)) X0), (28, Xv 2 ((((decide (r.row ≥ 0) && decide (r.col ≥ 0)) && decide (r.h ≥ 1)) && decide (r.w ≥ 1)) && decide (r.row < m)) X0), (29, X (Xk ((((decide (r.row ≥ 0) && decide (r.col ≥ 0)) && decide (r.h ≥ 1)) && decide (r.w ≥ 1)) && decide (r.row < m)))), (32, Xv 1 (((((decide (r.row ≥ 0) && decide (r.col ≥ 0)) && decide (r.h ≥ 1)) && decide (r.w ≥ 1)) && decide (r.row < m)) && decide (r.col < n)) X0), (35, Xv 1 (((((decide (r.row ≥ 0) && decide (r.col ≥ 0)) && decide (r.h ≥ 1)) && decide (r.w ≥ 1)) && decide (r.row < m)) && decide (r.col < n)) X0), (36, Xv 2 (((((decide (r.row ≥ 0) && decide (r.col ≥ 0)) && decide (r.h ≥ 1)) && decide (r.w ≥ 1)) && decide (r.row < m)) && decide (r.col < n)) (Xn (m - r.row))), (37, Xv 2 (((((decide (r.row ≥ 0) && decide (r.col ≥ 0)) && decide (r.h ≥ 1)) && decide (r.w ≥ 1)) && decide (r.row < m)) && decide (r.col < n)) X0), (38, X (Xk (((((decide (r.row ≥ 0) && decide (r.col ≥ 0)) && decide (r.h ≥ 1)) && decide (r.w ≥ 1)) && decide (r.row < m)) && decide (r.col < n)))), (41, Xv 1 ((((((decide (r.row ≥ 0) && decide (r.col ≥ 0)) && decide (r.h ≥ 1)) && decide (r.w ≥ 1)) && decide (r.row < m)) && decide (r.col < n)) && decide (r.h ≤ (m - r.row))) X0), (44, Xv 1 ((((((decide (r.row ≥ 0) && decide (r.col ≥ 0)) && decide (r.h ≥ 1)) && decide (r.w ≥ 1)) && decide (r.row < m)) && decide (r.col < n)) && decide (r.h ≤ (m - r.row))) X0), (45, Xv 2 ((((((decide (r.row ≥ 0) && decide (r.col ≥ 0)) && decide (r.h ≥ 1)) && decide (r.w ≥ 1)) && decide (r.row < m)) && decide (r.col < n)) && decide (r.h ≤ (m - r.row))) (Xn (n - r.col))), (46, Xv 2 ((((((decide (r.row ≥ 0) && decide (r.col ≥ 0)) && decide (r.h ≥ 1)) && decide (r.w ≥ 1)) && decide (r.row < m)) && decide (r.col < n)) && decide (r.h ≤ (m - r.row))) X0), (47, X (Xk ((((((decide (r.row ≥ 0) && decide (r.col ≥ 0)) && decide (r.h ≥ 1)) && decide (r.w ≥ 1)) && decide (r.row < m)) && decide (r.col < n)) && decide (r.h ≤ (m - r.row)))))]] [] (fun z0 => (VB z0, [])) ((((((((decide (r.row ≥ 0) && decide (r.col ≥ 0)) && decide (r.h ≥ 1)) && decide (r.w ≥ 1)) && decide (r.row < m)) && decide (r.col < n)) && decide (r.h ≤ (m - r.row))) && decide (r.w ≤ (n - r.col))) : Bool) ((insB r m n) : Bool) e1

theorem fc_meets (a b : Rect) (ha : RB a) (hb : RB b) : FC Tryd.prog 52 [.t (rectT a), .t (rectT b)] (app emp []) (VB (meetB a b)) (app emp []) := by
 refine .go Tryd.f52 ?_
 unfold RB at ha hb
 have e1 : ((meetB a b) : Bool) = (((decide (a.row < (b.row + b.h)) && decide (b.row < (a.row + a.h))) && decide (a.col < (b.col + b.w))) && decide (b.col < (a.col + a.w))) := by
  unfold meetB; rw [Bool.eq_iff_iff]; simp; try omega
 exact .finE [.r [], .r [(6, X (Xn (b.row + b.h))), (10, Xv 1 (decide (a.row < (b.row + b.h))) X0), (12, Xv 1 (decide (a.row < (b.row + b.h))) X0), (14, Xv 1 (decide (a.row < (b.row + b.h))) X0), (15, Xv 2 (decide (a.row < (b.row + b.h))) (Xn (a.row + a.h))), (16, Xv 2 (decide (a.row < (b.row + b.h))) X0), (17, X (Xk (decide (a.row < (b.row + b.h))))), (20, Xv 1 (decide (a.row < (b.row + b.h)) && decide (b.row < (a.row + a.h))) X0), (22, Xv 1 (decide (a.row < (b.row + b.h)) && decide (b.row < (a.row + a.h))) X0), (24, Xv 1 (decide (a.row < (b.row + b.h)) && decide (b.row < (a.row + a.h))) X0), (25, Xv 2 (decide (a.row < (b.row + b.h)) && decide (b.row < (a.row + a.h))) (Xn (b.col + b.w))), (26, Xv 2 (decide (a.row < (b.row + b.h)) && decide (b.row < (a.row + a.h))) X0), (27, X (Xk (decide (a.row < (b.row + b.h)) && decide (b.row < (a.row + a.h))))), (30, Xv 1 ((decide (a.row < (b.row + b.h)) && decide (b.row < (a.row + a.h))) && decide (a.col < (b.col + b.w))) X0), (32, Xv 1 ((decide (a.row < (b.row + b.h)) && decide (b.row < (a.row + a.h))) && decide (a.col < (b.col + b.w))) X0), (34, Xv 1 ((decide (a.row < (b.row + b.h)) && decide (b.row < (a.row + a.h))) && decide (a.col < (b.col + b.w))) X0), (35, Xv 2 ((decide (a.row < (b.row + b.h)) && decide (b.row < (a.row + a.h))) && decide (a.col < (b.col + b.w))) (Xn (a.col + a.w))), (36, Xv 2 ((decide (a.row < (b.row + b.h)) && decide (b.row < (a.row + a.h))) && decide (a.col < (b.col + b.w))) X0), (37, X (Xk ((decide (a.row < (b.row + b.h)) && decide (b.row < (a.row + a.h))) && decide (a.col < (b.col + b.w)))))]] [] (fun z0 => (VB z0, [])) ((((decide (a.row < (b.row + b.h)) && decide (b.row < (a.row + a.h))) && decide (a.col < (b.col + b.w))) && decide (b.col < (a.col + a.w))) : Bool) ((meetB a b) : Bool) e1

theorem fc_before (a b : Rect) : FC Tryd.prog 69 [.t (rectT a), .t (rectT b)] (app emp []) (VB (befB a b)) (app emp []) := by
 refine .go Tryd.f69 ?_
 have e1 : ((befB a b) : Bool) = (decide (a.row < b.row) || ((a.row == b.row) && decide (a.col < b.col))) := by
  unfold befB; rw [Bool.eq_iff_iff]; simp; try omega
 exact .finE [.r [], .r [(7, Xv 1 (!(decide (a.row < b.row))) X0), (9, Xv 1 (!(decide (a.row < b.row))) X0), (10, Xv 2 (!(decide (a.row < b.row))) X0), (11, Xv 1 (!(decide (a.row < b.row))) X0), (13, Xv 1 ((!(decide (a.row < b.row))) && (a.row == b.row)) X0), (15, Xv 1 ((!(decide (a.row < b.row))) && (a.row == b.row)) X0), (16, Xv 2 ((!(decide (a.row < b.row))) && (a.row == b.row)) X0), (17, Xka (!(decide (a.row < b.row))) (a.row == b.row)), (18, X (Xk' (decide (a.row < b.row))))]] [] (fun z0 => (VB z0, [])) ((decide (a.row < b.row) || ((a.row == b.row) && decide (a.col < b.col))) : Bool) ((befB a b) : Bool) e1

theorem fc_idxQ (l : List Rect) (r : Rect) : FC Tryd.prog 74 [VL 4 rectT l, .t (rectT r)] (app emp []) (VI (idxQ l r 0)) (app emp []) := by
 refine .go Tryd.f74 ?_
 refine .len 0 (fun hl0 => ?_)
 refine .loop (α := Nat) [.r [], .r [(1, X (Xl rectT l))]] 40 (fun i => ([(0, VL 4 rectT l), (3, .ptr 0 0), (7, VI (l.length : Int)), (8, VI (i : Int))], [(0, .box [VI r.row, VI r.col, VI r.h, VI r.w])])) (fun i => i ≤ l.length ∧ idxQ l r 0 = idxQ l r i) (fun i => l.length - i) (0 : Nat) ?_ ?_
 ·
  exact ⟨by omega, rfl⟩
 rintro i I2 ih2
 try dsimp only at I2
 refine .br [.r []] (decide ((i : Int) < (l.length : Int))) (fun h2 => ?_) (fun h2 => ?_)
 ·
  (try simp only [decide_eq_true_eq, decide_eq_false_iff_not, Int.not_lt, Int.not_le] at h2)
  refine .br [.r [], .r [(3, X (Xi rectT l (i : Int)))]] (r.row == (((l.getD i default)).row) && (r.col == (((l.getD i default)).col) && (r.h == (((l.getD i default)).h) && (r.w == (((l.getD i default)).w) && true)))) (fun h4 => ?_) (fun h4 => ?_)
  ·
   (try simp only [Bool.and_eq_true, Bool.and_eq_false_iff, Bool.not_eq_true', Bool.not_eq_false', beq_iff_eq, beq_eq_false_iff_ne, ne_eq] at h4)
   have e1 : ((idxQ l r 0) : Int) = (i : Int) := by
    rw [I2.2, idxQ, if_pos (by omega), if_pos]
    refine rect_ext ?_ ?_ ?_ ?_ <;> omega
   exact .finE [.r []] [] (fun z0 => (VI z0, [])) ((i : Int) : Int) ((idxQ l r 0) : Int) e1
  ·
   (try simp only [Bool.and_eq_true, Bool.and_eq_false_iff, Bool.not_eq_true', Bool.not_eq_false', beq_iff_eq, beq_eq_false_iff_ne, ne_eq] at h4)
   refine .back [.r [(0, X (Xn ((i : Int) + 1)))]] [(0, 0)] (ih2 ((i + 1) : Nat) ?_ ?_)
   ·
    refine ⟨by omega, ?_⟩
    rw [I2.2, idxQ, if_pos (by omega), if_neg]
    intro e; rw [e] at h4; simp at h4
   ·
    ((try dsimp only); omega)
 ·
  (try simp only [decide_eq_true_eq, decide_eq_false_iff_not, Int.not_lt, Int.not_le] at h2)
  have e2 : ((idxQ l r 0) : Int) = -1 := by
   rw [I2.2, idxQ, if_neg (by omega)]
  exact .finE [.r []] [] (fun z0 => (VI z0, [])) (-1 : Int) ((idxQ l r 0) : Int) e2

theorem fc_hasQ (l : List Rect) (r : Rect) : FC Tryd.prog 49 [VL 4 rectT l, .t (rectT r)] (app emp []) (VB (hasQ l r)) (app emp []) := by
 refine .go Tryd.f49 ?_
 refine .len 0 (fun hl0 => ?_)
 have e1 : ((hasQ l r) : Bool) = decide ((idxQ l r 0) ≥ 0) := by
  unfold hasQ; rw [Bool.eq_iff_iff]; simp only [decide_eq_true_eq, ge_iff_le]; rw [idxQ_ge _ 0 rfl]; simp
 exact .finE [.r [], .r [(2, X (Xc0 (fc_idxQ l r) X0))]] [] (fun z0 => (VB z0, [])) (decide ((idxQ l r 0) ≥ 0) : Bool) ((hasQ l r) : Bool) e1

theorem fc_axsize (n : Int) (a : List AxStep) (hv : 0 < a.length → Valid a) : FC Tryd.prog 45 [VI n, VL 2 stepT a] (app emp []) (.tup [VI (if 0 < a.length then newI a else n), VB (decide (0 < a.length → oldI a = n))]) (app emp []) := by
 refine .go Tryd.f45 ?_
 refine .len 1 (fun hl1 => ?_)
 refine .br [.r [], .r [(1, X (Xl stepT a))]] ((a.length : Int) == 0) (fun h1 => ?_) (fun h1 => ?_)
 ·
  (try simp only [beq_iff_eq, beq_eq_false_iff_ne, ne_eq] at h1)
  have e1 : ((if 0 < a.length then newI a else n) : Int) = n := by
   first | rw [if_neg (by omega)] | exact decide_eq_true (fun h => by omega) | exact (decide_eq_true (fun h => by omega)).symm
  have e2 : ((decide (0 < a.length → oldI a = n)) : Bool) = true := by
   first | rw [if_neg (by omega)] | exact decide_eq_true (fun h => by omega) | exact (decide_eq_true (fun h => by omega)).symm
  exact .finE [.r []] [] (fun (z0, z1) => (.tup [VI z0, VB z1], [])) ((n : Int), (true : Bool)) (((if 0 < a.length then newI a else n) : Int), ((decide (0 < a.length → oldI a = n)) : Bool)) (pr e1 e2)
 ·
  (try simp only [beq_iff_eq, beq_eq_false_iff_ne, ne_eq] at h1)
  have ha : 0 < a.length := by omega
  have hv2 := hv ha
  have e3 : ((if 0 < a.length then newI a else n) : Int) = (newI a) := by
   first | rw [if_pos (by omega)] | (rw [Bool.eq_iff_iff, decide_eq_true_eq, beq_iff_eq]; exact ⟨fun h => h (by omega), fun h _ => h⟩)
  have e4 : ((decide (0 < a.length → oldI a = n)) : Bool) = ((oldI a) == n) := by
   first | rw [if_pos (by omega)] | (rw [Bool.eq_iff_iff, decide_eq_true_eq, beq_iff_eq]; exact ⟨fun h => h (by omega), fun h _ => h⟩)
  exact .finE [.r [(1, X (Xc0 (fc_axLengths a (by assumption)) X0))], .r []] [] (fun (z0, z1) => (.tup [VI z0, VB z1], [])) (((newI a) : Int), (((oldI a) == n) : Bool)) (((if 0 < a.length then newI a else n) : Int), ((decide (0 < a.length → oldI a = n)) : Bool)) (pr e3 e4)

theorem fc_through (r : Rect) (rows cols : List AxStep) (hb : RB r) (hr : AxIn rows r.row (r.row + r.h)) (hc : AxIn cols r.col (r.col + r.w)) : FC Tryd.prog 48 [.t (rectT r), VL 2 stepT rows, VL 2 stepT cols] (app emp []) (.tup [.t (rectT (thrR r rows cols)), VB (thrB (thrR r rows cols))]) (app emp []) := by
 refine .go Tryd.f48 ?_
 refine .len 1 (fun hl1 => ?_)
 refine .len 2 (fun hl2 => ?_)
 unfold RB at hb
 unfold AxIn at hr hc
 refine .br [.r [], .r [(1, X (Xl stepT rows))]] (decide ((rows.length : Int) > 0)) (fun h1 => ?_) (fun h1 => ?_)
 ·
  (try simp only [decide_eq_true_eq, decide_eq_false_iff_not, Int.not_lt, Int.not_le, gt_iff_lt] at h1)
  have hr0 : 0 < rows.length := by omega
  obtain ⟨hv1, hr1⟩ := hr hr0
  have hh := hull_bd hv1 hr1
  refine .br [.r [(7, X (Xn (r.row + r.h))), (8, X (Xc0 (fc_hull rows r.row (r.row + r.h) (by assumption) (by omega)) X0))], .r [(3, X (Xn (((hullS rows r.row (r.row + r.h) 0 0 0 0).2) - ((hullS rows r.row (r.row + r.h) 0 0 0 0).1))))], .r [(1, X (Xl stepT cols))]] (decide ((cols.length : Int) > 0)) (fun h4 => ?_) (fun h4 => ?_)
  ·
   (try simp only [decide_eq_true_eq, decide_eq_false_iff_not, Int.not_lt, Int.not_le, gt_iff_lt] at h4)
   have hc0 : 0 < cols.length := by omega
   obtain ⟨hv2, hc1⟩ := hc hc0
   have hk := hull_bd hv2 hc1
   have e1 : ((thrR r rows cols) : Rect) = ({ row := (hullS rows r.row (r.row + r.h) 0 0 0 0).1, col := (hullS cols r.col (r.col + r.w) 0 0 0 0).1, h := (((hullS rows r.row (r.row + r.h) 0 0 0 0).2) - ((hullS rows r.row (r.row + r.h) 0 0 0 0).1)), w := (((hullS cols r.col (r.col + r.w) 0 0 0 0).2) - ((hullS cols r.col (r.col + r.w) 0 0 0 0).1)) } : Rect) := by
    unfold thrR; simp only []; (first | rw [if_pos (show 0 < rows.length by omega), if_pos (show 0 < cols.length by omega)] | rw [if_pos (show 0 < rows.length by omega), if_neg (show ¬ 0 < cols.length by omega)] | rw [if_neg (show ¬ 0 < rows.length by omega), if_pos (show 0 < cols.length by omega)] | rw [if_neg (show ¬ 0 < rows.length by omega), if_neg (show ¬ 0 < cols.length by omega)])
   have e2 : ((thrB (thrR r rows cols)) : Bool) = ((decide ((((hullS rows r.row (r.row + r.h) 0 0 0 0).2) - ((hullS rows r.row (r.row + r.h) 0 0 0 0).1)) > 0) && decide ((((hullS cols r.col (r.col + r.w) 0 0 0 0).2) - ((hullS cols r.col (r.col + r.w) 0 0 0 0).1)) > 0)) && decide (((((hullS rows r.row (r.row + r.h) 0 0 0 0).2) - ((hullS rows r.row (r.row + r.h) 0 0 0 0).1)) + (((hullS cols r.col (r.col + r.w) 0 0 0 0).2) - ((hullS cols r.col (r.col + r.w) 0 0 0 0).1))) > 2)) := by
    unfold thrB thrR; simp only []; (first | rw [if_pos (show 0 < rows.length by omega), if_pos (show 0 < cols.length by omega)] | rw [if_pos (show 0 < rows.length by omega), if_neg (show ¬ 0 < cols.length by omega)] | rw [if_neg (show ¬ 0 < rows.length by omega), if_pos (show 0 < cols.length by omega)] | rw [if_neg (show ¬ 0 < rows.length by omega), if_neg (show ¬ 0 < cols.length by omega)]); rw [Bool.eq_iff_iff]; simp; try omega
   exact .finVE [.r [(7, X (Xn (r.col + r.w))), (8, X (Xc0 (fc_hull cols r.col (r.col + r.w) (by assumption) (by omega)) X0))], .r [(3, X (Xn (((hullS cols r.col (r.col + r.w) 0 0 0 0).2) - ((hullS cols r.col (r.col + r.w) 0 0 0 0).1))))], .r [(6, Xv 1 (decide ((((hullS rows r.row (r.row + r.h) 0 0 0 0).2) - ((hullS rows r.row (r.row + r.h) 0 0 0 0).1)) > 0)) X0), (7, Xv 1 (decide ((((hullS rows r.row (r.row + r.h) 0 0 0 0).2) - ((hullS rows r.row (r.row + r.h) 0 0 0 0).1)) > 0)) X0), (8, X (Xk (decide ((((hullS rows r.row (r.row + r.h) 0 0 0 0).2) - ((hullS rows r.row (r.row + r.h) 0 0 0 0).1)) > 0)))), (11, Xv 1 (decide ((((hullS rows r.row (r.row + r.h) 0 0 0 0).2) - ((hullS rows r.row (r.row + r.h) 0 0 0 0).1)) > 0) && decide ((((hullS cols r.col (r.col + r.w) 0 0 0 0).2) - ((hullS cols r.col (r.col + r.w) 0 0 0 0).1)) > 0)) X0), (13, Xv 1 (decide ((((hullS rows r.row (r.row + r.h) 0 0 0 0).2) - ((hullS rows r.row (r.row + r.h) 0 0 0 0).1)) > 0) && decide ((((hullS cols r.col (r.col + r.w) 0 0 0 0).2) - ((hullS cols r.col (r.col + r.w) 0 0 0 0).1)) > 0)) X0), (14, Xv 2 (decide ((((hullS rows r.row (r.row + r.h) 0 0 0 0).2) - ((hullS rows r.row (r.row + r.h) 0 0 0 0).1)) > 0) && decide ((((hullS cols r.col (r.col + r.w) 0 0 0 0).2) - ((hullS cols r.col (r.col + r.w) 0 0 0 0).1)) > 0)) (Xn ((((hullS rows r.row (r.row + r.h) 0 0 0 0).2) - ((hullS rows r.row (r.row + r.h) 0 0 0 0).1)) + (((hullS cols r.col (r.col + r.w) 0 0 0 0).2) - ((hullS cols r.col (r.col + r.w) 0 0 0 0).1))))), (15, Xv 1 (decide ((((hullS rows r.row (r.row + r.h) 0 0 0 0).2) - ((hullS rows r.row (r.row + r.h) 0 0 0 0).1)) > 0) && decide ((((hullS cols r.col (r.col + r.w) 0 0 0 0).2) - ((hullS cols r.col (r.col + r.w) 0 0 0 0).1)) > 0)) X0), (16, X (Xk (decide ((((hullS rows r.row (r.row + r.h) 0 0 0 0).2) - ((hullS rows r.row (r.row + r.h) 0 0 0 0).1)) > 0) && decide ((((hullS cols r.col (r.col + r.w) 0 0 0 0).2) - ((hullS cols r.col (r.col + r.w) 0 0 0 0).1)) > 0))))]] [] [] (fun (z0, z1) => (.tup [.t (rectT z0), VB z1], [])) ((({ row := (hullS rows r.row (r.row + r.h) 0 0 0 0).1, col := (hullS cols r.col (r.col + r.w) 0 0 0 0).1, h := (((hullS rows r.row (r.row + r.h) 0 0 0 0).2) - ((hullS rows r.row (r.row + r.h) 0 0 0 0).1)), w := (((hullS cols r.col (r.col + r.w) 0 0 0 0).2) - ((hullS cols r.col (r.col + r.w) 0 0 0 0).1)) } : Rect) : Rect), (((decide ((((hullS rows r.row (r.row + r.h) 0 0 0 0).2) - ((hullS rows r.row (r.row + r.h) 0 0 0 0).1)) > 0) && decide ((((hullS cols r.col (r.col + r.w) 0 0 0 0).2) - ((hullS cols r.col (r.col + r.w) 0 0 0 0).1)) > 0)) && decide (((((hullS rows r.row (r.row + r.h) 0 0 0 0).2) - ((hullS rows r.row (r.row + r.h) 0 0 0 0).1)) + (((hullS cols r.col (r.col + r.w) 0 0 0 0).2) - ((hullS cols r.col (r.col + r.w) 0 0 0 0).1))) > 2)) : Bool)) (((thrR r rows cols) : Rect), ((thrB (thrR r rows cols)) : Bool)) (pr e1 e2)
  ·
   (try simp only [decide_eq_true_eq, decide_eq_false_iff_not, Int.not_lt, Int.not_le, gt_iff_lt] at h4)
   have e3 : ((thrR r rows cols) : Rect) = ({ row := (hullS rows r.row (r.row + r.h) 0 0 0 0).1, col := r.col, h := (((hullS rows r.row (r.row + r.h) 0 0 0 0).2) - ((hullS rows r.row (r.row + r.h) 0 0 0 0).1)), w := r.w } : Rect) := by
    unfold thrR; simp only []; (first | rw [if_pos (show 0 < rows.length by omega), if_pos (show 0 < cols.length by omega)] | rw [if_pos (show 0 < rows.length by omega), if_neg (show ¬ 0 < cols.length by omega)] | rw [if_neg (show ¬ 0 < rows.length by omega), if_pos (show 0 < cols.length by omega)] | rw [if_neg (show ¬ 0 < rows.length by omega), if_neg (show ¬ 0 < cols.length by omega)])
   have e4 : ((thrB (thrR r rows cols)) : Bool) = ((decide ((((hullS rows r.row (r.row + r.h) 0 0 0 0).2) - ((hullS rows r.row (r.row + r.h) 0 0 0 0).1)) > 0) && decide (r.w > 0)) && decide (((((hullS rows r.row (r.row + r.h) 0 0 0 0).2) - ((hullS rows r.row (r.row + r.h) 0 0 0 0).1)) + r.w) > 2)) := by
    unfold thrB thrR; simp only []; (first | rw [if_pos (show 0 < rows.length by omega), if_pos (show 0 < cols.length by omega)] | rw [if_pos (show 0 < rows.length by omega), if_neg (show ¬ 0 < cols.length by omega)] | rw [if_neg (show ¬ 0 < rows.length by omega), if_pos (show 0 < cols.length by omega)] | rw [if_neg (show ¬ 0 < rows.length by omega), if_neg (show ¬ 0 < cols.length by omega)]); rw [Bool.eq_iff_iff]; simp; try omega
   exact .finVE [.r [(6, Xv 1 (decide ((((hullS rows r.row (r.row + r.h) 0 0 0 0).2) - ((hullS rows r.row (r.row + r.h) 0 0 0 0).1)) > 0)) X0), (7, Xv 1 (decide ((((hullS rows r.row (r.row + r.h) 0 0 0 0).2) - ((hullS rows r.row (r.row + r.h) 0 0 0 0).1)) > 0)) X0), (8, X (Xk (decide ((((hullS rows r.row (r.row + r.h) 0 0 0 0).2) - ((hullS rows r.row (r.row + r.h) 0 0 0 0).1)) > 0)))), (11, Xv 1 (decide ((((hullS rows r.row (r.row + r.h) 0 0 0 0).2) - ((hullS rows r.row (r.row + r.h) 0 0 0 0).1)) > 0) && decide (r.w > 0)) X0), (13, Xv 1 (decide ((((hullS rows r.row (r.row + r.h) 0 0 0 0).2) - ((hullS rows r.row (r.row + r.h) 0 0 0 0).1)) > 0) && decide (r.w > 0)) X0), (14, Xv 2 (decide ((((hullS rows r.row (r.row + r.h) 0 0 0 0).2) - ((hullS rows r.row (r.row + r.h) 0 0 0 0).1)) > 0) && decide (r.w > 0)) (Xn ((((hullS rows r.row (r.row + r.h) 0 0 0 0).2) - ((hullS rows r.row (r.row + r.h) 0 0 0 0).1)) + r.w))), (15, Xv 1 (decide ((((hullS rows r.row (r.row + r.h) 0 0 0 0).2) - ((hullS rows r.row (r.row + r.h) 0 0 0 0).1)) > 0) && decide (r.w > 0)) X0), (16, X (Xk (decide ((((hullS rows r.row (r.row + r.h) 0 0 0 0).2) - ((hullS rows r.row (r.row + r.h) 0 0 0 0).1)) > 0) && decide (r.w > 0))))]] [] [] (fun (z0, z1) => (.tup [.t (rectT z0), VB z1], [])) ((({ row := (hullS rows r.row (r.row + r.h) 0 0 0 0).1, col := r.col, h := (((hullS rows r.row (r.row + r.h) 0 0 0 0).2) - ((hullS rows r.row (r.row + r.h) 0 0 0 0).1)), w := r.w } : Rect) : Rect), (((decide ((((hullS rows r.row (r.row + r.h) 0 0 0 0).2) - ((hullS rows r.row (r.row + r.h) 0 0 0 0).1)) > 0) && decide (r.w > 0)) && decide (((((hullS rows r.row (r.row + r.h) 0 0 0 0).2) - ((hullS rows r.row (r.row + r.h) 0 0 0 0).1)) + r.w) > 2)) : Bool)) (((thrR r rows cols) : Rect), ((thrB (thrR r rows cols)) : Bool)) (pr e3 e4)
 ·
  (try simp only [decide_eq_true_eq, decide_eq_false_iff_not, Int.not_lt, Int.not_le, gt_iff_lt] at h1)
  refine .br [.r [(1, X (Xl stepT cols))]] (decide ((cols.length : Int) > 0)) (fun h4 => ?_) (fun h4 => ?_)
  ·
   (try simp only [decide_eq_true_eq, decide_eq_false_iff_not, Int.not_lt, Int.not_le, gt_iff_lt] at h4)
   have hc0 : 0 < cols.length := by omega
   obtain ⟨hv2, hc1⟩ := hc hc0
   have hk := hull_bd hv2 hc1
   have e5 : ((thrR r rows cols) : Rect) = ({ row := r.row, col := (hullS cols r.col (r.col + r.w) 0 0 0 0).1, h := r.h, w := (((hullS cols r.col (r.col + r.w) 0 0 0 0).2) - ((hullS cols r.col (r.col + r.w) 0 0 0 0).1)) } : Rect) := by
    unfold thrR; simp only []; (first | rw [if_pos (show 0 < rows.length by omega), if_pos (show 0 < cols.length by omega)] | rw [if_pos (show 0 < rows.length by omega), if_neg (show ¬ 0 < cols.length by omega)] | rw [if_neg (show ¬ 0 < rows.length by omega), if_pos (show 0 < cols.length by omega)] | rw [if_neg (show ¬ 0 < rows.length by omega), if_neg (show ¬ 0 < cols.length by omega)])
   have e6 : ((thrB (thrR r rows cols)) : Bool) = ((decide (r.h > 0) && decide ((((hullS cols r.col (r.col + r.w) 0 0 0 0).2) - ((hullS cols r.col (r.col + r.w) 0 0 0 0).1)) > 0)) && decide ((r.h + (((hullS cols r.col (r.col + r.w) 0 0 0 0).2) - ((hullS cols r.col (r.col + r.w) 0 0 0 0).1))) > 2)) := by
    unfold thrB thrR; simp only []; (first | rw [if_pos (show 0 < rows.length by omega), if_pos (show 0 < cols.length by omega)] | rw [if_pos (show 0 < rows.length by omega), if_neg (show ¬ 0 < cols.length by omega)] | rw [if_neg (show ¬ 0 < rows.length by omega), if_pos (show 0 < cols.length by omega)] | rw [if_neg (show ¬ 0 < rows.length by omega), if_neg (show ¬ 0 < cols.length by omega)]); rw [Bool.eq_iff_iff]; simp; try omega
   exact .finVE [.r [(7, X (Xn (r.col + r.w))), (8, X (Xc0 (fc_hull cols r.col (r.col + r.w) (by assumption) (by omega)) X0))], .r [(3, X (Xn (((hullS cols r.col (r.col + r.w) 0 0 0 0).2) - ((hullS cols r.col (r.col + r.w) 0 0 0 0).1))))], .r [(6, Xv 1 (decide (r.h > 0)) X0), (7, Xv 1 (decide (r.h > 0)) X0), (8, X (Xk (decide (r.h > 0)))), (11, Xv 1 (decide (r.h > 0) && decide ((((hullS cols r.col (r.col + r.w) 0 0 0 0).2) - ((hullS cols r.col (r.col + r.w) 0 0 0 0).1)) > 0)) X0), (13, Xv 1 (decide (r.h > 0) && decide ((((hullS cols r.col (r.col + r.w) 0 0 0 0).2) - ((hullS cols r.col (r.col + r.w) 0 0 0 0).1)) > 0)) X0), (14, Xv 2 (decide (r.h > 0) && decide ((((hullS cols r.col (r.col + r.w) 0 0 0 0).2) - ((hullS cols r.col (r.col + r.w) 0 0 0 0).1)) > 0)) (Xn (r.h + (((hullS cols r.col (r.col + r.w) 0 0 0 0).2) - ((hullS cols r.col (r.col + r.w) 0 0 0 0).1))))), (15, Xv 1 (decide (r.h > 0) && decide ((((hullS cols r.col (r.col + r.w) 0 0 0 0).2) - ((hullS cols r.col (r.col + r.w) 0 0 0 0).1)) > 0)) X0), (16, X (Xk (decide (r.h > 0) && decide ((((hullS cols r.col (r.col + r.w) 0 0 0 0).2) - ((hullS cols r.col (r.col + r.w) 0 0 0 0).1)) > 0))))]] [] [] (fun (z0, z1) => (.tup [.t (rectT z0), VB z1], [])) ((({ row := r.row, col := (hullS cols r.col (r.col + r.w) 0 0 0 0).1, h := r.h, w := (((hullS cols r.col (r.col + r.w) 0 0 0 0).2) - ((hullS cols r.col (r.col + r.w) 0 0 0 0).1)) } : Rect) : Rect), (((decide (r.h > 0) && decide ((((hullS cols r.col (r.col + r.w) 0 0 0 0).2) - ((hullS cols r.col (r.col + r.w) 0 0 0 0).1)) > 0)) && decide ((r.h + (((hullS cols r.col (r.col + r.w) 0 0 0 0).2) - ((hullS cols r.col (r.col + r.w) 0 0 0 0).1))) > 2)) : Bool)) (((thrR r rows cols) : Rect), ((thrB (thrR r rows cols)) : Bool)) (pr e5 e6)
  ·
   (try simp only [decide_eq_true_eq, decide_eq_false_iff_not, Int.not_lt, Int.not_le, gt_iff_lt] at h4)
   have e7 : ((thrR r rows cols) : Rect) = r := by
    unfold thrR; simp only []; (first | rw [if_pos (show 0 < rows.length by omega), if_pos (show 0 < cols.length by omega)] | rw [if_pos (show 0 < rows.length by omega), if_neg (show ¬ 0 < cols.length by omega)] | rw [if_neg (show ¬ 0 < rows.length by omega), if_pos (show 0 < cols.length by omega)] | rw [if_neg (show ¬ 0 < rows.length by omega), if_neg (show ¬ 0 < cols.length by omega)])
   have e8 : ((thrB (thrR r rows cols)) : Bool) = ((decide (r.h > 0) && decide (r.w > 0)) && decide ((r.h + r.w) > 2)) := by
    unfold thrB thrR; simp only []; (first | rw [if_pos (show 0 < rows.length by omega), if_pos (show 0 < cols.length by omega)] | rw [if_pos (show 0 < rows.length by omega), if_neg (show ¬ 0 < cols.length by omega)] | rw [if_neg (show ¬ 0 < rows.length by omega), if_pos (show 0 < cols.length by omega)] | rw [if_neg (show ¬ 0 < rows.length by omega), if_neg (show ¬ 0 < cols.length by omega)]); rw [Bool.eq_iff_iff]; simp; try omega
   exact .finVE [.r [(6, Xv 1 (decide (r.h > 0)) X0), (7, Xv 1 (decide (r.h > 0)) X0), (8, X (Xk (decide (r.h > 0)))), (11, Xv 1 (decide (r.h > 0) && decide (r.w > 0)) X0), (13, Xv 1 (decide (r.h > 0) && decide (r.w > 0)) X0), (14, Xv 2 (decide (r.h > 0) && decide (r.w > 0)) (Xn (r.h + r.w))), (15, Xv 1 (decide (r.h > 0) && decide (r.w > 0)) X0), (16, X (Xk (decide (r.h > 0) && decide (r.w > 0))))]] [] [] (fun (z0, z1) => (.tup [.t (rectT z0), VB z1], [])) ((r : Rect), (((decide (r.h > 0) && decide (r.w > 0)) && decide ((r.h + r.w) > 2)) : Bool)) (((thrR r rows cols) : Rect), ((thrB (thrR r rows cols)) : Bool)) (pr e7 e8)
end Go.Ch
end
section
set_option linter.unusedVariables false
set_option linter.unusedSimpArgs false
set_option maxRecDepth 100000
set_option maxHeartbeats 4000000
open Go Go.Proofs Go.Ab
namespace Go.Ch
theorem fc_moved (l : List Cell) (rows cols : List AxStep) (hl : l.length ≤ 100000000000) (ha : CAN 1000000000000 l) (hr : ∀ c ∈ l, PIn rows c.row) (hc : ∀ c ∈ l, PIn cols c.col) : FC Tryd.prog 30 [VL 5 cellT l, VL 2 stepT rows, VL 2 stepT cols] (app emp []) (VL 5 cellT (movL l rows cols)) (app emp []) := by
 refine .go Tryd.f30 ?_
 refine .len 0 (fun hl0 => ?_)
 refine .len 1 (fun hl1 => ?_)
 refine .len 2 (fun hl2 => ?_)
 refine .loop (α := Nat × (List Cell)) [.r [], .r [], .r [(1, X (Xl cellT l))], .le (.nR 7 5)] 41 (fun (i, o) => ([(1, VL 2 stepT rows), (2, VL 2 stepT cols), (7, .row 40 o.length), (14, VL 5 cellT l), (15, VI (l.length : Int)), (16, VI (i : Int))], [(40, OR 5 cellT o)])) (fun (i, o) => i ≤ l.length ∧ o = movL (l.take i) rows cols) (fun (i, o) => l.length - i) (0, []) ?_ ?_
 ·
  exact ⟨by omega, rfl⟩
 rintro ⟨i, o⟩ I3 ih3
 try dsimp only at I3
 have ol : o.length ≤ i := by rw [I3.2]; have := movL_len (l.take i) rows cols; simp at this; omega
 refine .br [.r []] (decide ((i : Int) < (l.length : Int))) (fun h3 => ?_) (fun h3 => ?_)
 ·
  (try simp only [decide_eq_true_eq, decide_eq_false_iff_not, Int.not_lt, Int.not_le] at h3)
  have hm := getDC_mem (l := l) (i := i) (by omega)
  have ha1 := ha _ hm
  have hr1 := hr _ hm
  have hc1 := hc _ hm
  refine .br [.r [(0, X (Xi cellT l (i : Int)))], .r [(1, X (Xc1 89 (fc_clone ((l.getD i default)) (by omega)) X0))], .r [(1, X (Xl stepT rows))]] (decide ((rows.length : Int) > 0)) (fun h6 => ?_) (fun h6 => ?_)
  ·
   (try simp only [decide_eq_true_eq, decide_eq_false_iff_not, Int.not_lt, Int.not_le, gt_iff_lt] at h6)
   obtain ⟨hv1, hx1⟩ := hr1 (by omega)
   have hxx : ∀ x ∈ [(l.getD i default).row], 0 ≤ x ∧ x < oldI rows := fun x hx => by (have := List.mem_singleton.1 hx; omega)
   refine .br [.r [(4, X (Xc1 161 (fc_axApply rows [(((l.getD i default))).row] (by assumption) (by assumption) (by simp)) (rowC intT [(((l.getD i default))).row] X0)))], .r [(4, Xv 1 (!false) (Xi intT (List.map (fun x => placeS rows x 0 0) [(((l.getD i default))).row]) 0)), (5, Xv 1 (!false) X0), (6, Xv 1 (!false) X0), (7, X (Xk' false))]] (false || decide (((List.map (fun x => placeS rows x 0 0) [(((l.getD i default))).row]).getD 0 default) < 0)) (fun h8 => ?_) (fun h8 => ?_)
   ·
    (try simp only [decide_eq_true_eq, decide_eq_false_iff_not, Int.not_lt, Int.not_le, Bool.or_eq_true, Bool.or_eq_false_iff] at h8)
    refine .back [.r [(0, X (Xn ((i : Int) + 1)))]] [(40, 40)] (ih3 ((i + 1), o) ?_ ?_)
    ·
     refine ⟨by omega, ?_⟩
     rw [movL_succ (by omega), ← I3.2]
     unfold mvC mvR
     simp only [List.map_cons, List.map_nil, List.getD_cons_zero] at *
     (repeat' split) <;> first | rfl | (simp; done) | (exfalso; omega) | (exfalso; simp_all; done) | (exfalso; simp_all; omega)
    ·
     ((try dsimp only); omega)
   ·
    (try simp only [decide_eq_true_eq, decide_eq_false_iff_not, Int.not_lt, Int.not_le, Bool.or_eq_true, Bool.or_eq_false_iff] at h8)
    refine .br [.r [(1, X (Xi intT (List.map (fun x => placeS rows x 0 0) [(((l.getD i default))).row]) 0))], .r [(1, X (Xl stepT cols))]] (decide ((cols.length : Int) > 0)) (fun h10 => ?_) (fun h10 => ?_)
    ·
     (try simp only [decide_eq_true_eq, decide_eq_false_iff_not, Int.not_lt, Int.not_le, gt_iff_lt] at h10)
     obtain ⟨hv2, hx2⟩ := hc1 (by omega)
     have hyy : ∀ x ∈ [(l.getD i default).col], 0 ≤ x ∧ x < oldI cols := fun x hx => by (have := List.mem_singleton.1 hx; omega)
     refine .br [.r [(4, X (Xc1 369 (fc_axApply cols [(((l.getD i default))).col] (by assumption) (by assumption) (by simp)) (rowC intT [(((l.getD i default))).col] X0)))], .r [(4, Xv 1 (!false) (Xi intT (List.map (fun x => placeS cols x 0 0) [(((l.getD i default))).col]) 0)), (5, Xv 1 (!false) X0), (6, Xv 1 (!false) X0), (7, X (Xk' false))]] (false || decide (((List.map (fun x => placeS cols x 0 0) [(((l.getD i default))).col]).getD 0 default) < 0)) (fun h12 => ?_) (fun h12 => ?_)
     ·
      (try simp only [decide_eq_true_eq, decide_eq_false_iff_not, Int.not_lt, Int.not_le, Bool.or_eq_true, Bool.or_eq_false_iff] at h12)
      refine .back [.r [(0, X (Xn ((i : Int) + 1)))]] [(40, 40)] (ih3 ((i + 1), o) ?_ ?_)
      ·
       refine ⟨by omega, ?_⟩
       rw [movL_succ (by omega), ← I3.2]
       unfold mvC mvR
       simp only [List.map_cons, List.map_nil, List.getD_cons_zero] at *
       (repeat' split) <;> first | rfl | (simp; done) | (exfalso; omega) | (exfalso; simp_all; done) | (exfalso; simp_all; omega)
      ·
       ((try dsimp only); omega)
     ·
      (try simp only [decide_eq_true_eq, decide_eq_false_iff_not, Int.not_lt, Int.not_le, Bool.or_eq_true, Bool.or_eq_false_iff] at h12)
      refine .back [.r [(1, X (Xi intT (List.map (fun x => placeS cols x 0 0) [(((l.getD i default))).col]) 0))], .r [(3, X (rowC cellT [({ row := ((List.map (fun x => placeS rows x 0 0) [(((l.getD i default))).row]).getD 0 default), col := ((List.map (fun x => placeS cols x 0 0) [(((l.getD i default))).col]).getD 0 default), text := (((l.getD i default))).text, ref := (((l.getD i default))).ref, attrs := (((l.getD i default))).attrs } : Cell)] (Xap 5 cellT 40 o [({ row := ((List.map (fun x => placeS rows x 0 0) [(((l.getD i default))).row]).getD 0 default), col := ((List.map (fun x => placeS cols x 0 0) [(((l.getD i default))).col]).getD 0 default), text := (((l.getD i default))).text, ref := (((l.getD i default))).ref, attrs := (((l.getD i default))).attrs } : Cell)])))], .r [(0, X (Xn ((i : Int) + 1)))]] [(40, 40)] (ih3 ((i + 1), (o ++ [({ row := ((List.map (fun x => placeS rows x 0 0) [(((l.getD i default))).row]).getD 0 default), col := ((List.map (fun x => placeS cols x 0 0) [(((l.getD i default))).col]).getD 0 default), text := (((l.getD i default))).text, ref := (((l.getD i default))).ref, attrs := (((l.getD i default))).attrs } : Cell)])) ?_ ?_)
      ·
       refine ⟨by omega, ?_⟩
       rw [movL_succ (by omega), ← I3.2]
       unfold mvC mvR
       simp only [List.map_cons, List.map_nil, List.getD_cons_zero] at *
       (repeat' split) <;> first | rfl | (simp; done) | (exfalso; omega) | (exfalso; simp_all; done) | (exfalso; simp_all; omega)
      ·
       ((try dsimp only); omega)
    ·
     (try simp only [decide_eq_true_eq, decide_eq_false_iff_not, Int.not_lt, Int.not_le, gt_iff_lt] at h10)
     refine .back [.r [(3, X (rowC cellT [({ row := ((List.map (fun x => placeS rows x 0 0) [(((l.getD i default))).row]).getD 0 default), col := (((l.getD i default))).col, text := (((l.getD i default))).text, ref := (((l.getD i default))).ref, attrs := (((l.getD i default))).attrs } : Cell)] (Xap 5 cellT 40 o [({ row := ((List.map (fun x => placeS rows x 0 0) [(((l.getD i default))).row]).getD 0 default), col := (((l.getD i default))).col, text := (((l.getD i default))).text, ref := (((l.getD i default))).ref, attrs := (((l.getD i default))).attrs } : Cell)])))], .r [(0, X (Xn ((i : Int) + 1)))]] [(40, 40)] (ih3 ((i + 1), (o ++ [({ row := ((List.map (fun x => placeS rows x 0 0) [(((l.getD i default))).row]).getD 0 default), col := (((l.getD i default))).col, text := (((l.getD i default))).text, ref := (((l.getD i default))).ref, attrs := (((l.getD i default))).attrs } : Cell)])) ?_ ?_)
     ·
      refine ⟨by omega, ?_⟩
      rw [movL_succ (by omega), ← I3.2]
      unfold mvC mvR
      simp only [List.map_cons, List.map_nil, List.getD_cons_zero] at *
      (repeat' split) <;> first | rfl | (simp; done) | (exfalso; omega) | (exfalso; simp_all; done) | (exfalso; simp_all; omega)
     ·
      ((try dsimp only); omega)
  ·
   (try simp only [decide_eq_true_eq, decide_eq_false_iff_not, Int.not_lt, Int.not_le, gt_iff_lt] at h6)
   refine .br [.r [(1, X (Xl stepT cols))]] (decide ((cols.length : Int) > 0)) (fun h10 => ?_) (fun h10 => ?_)
   ·
    (try simp only [decide_eq_true_eq, decide_eq_false_iff_not, Int.not_lt, Int.not_le, gt_iff_lt] at h10)
    obtain ⟨hv2, hx2⟩ := hc1 (by omega)
    have hyy : ∀ x ∈ [(l.getD i default).col], 0 ≤ x ∧ x < oldI cols := fun x hx => by (have := List.mem_singleton.1 hx; omega)
    refine .br [.r [(4, X (Xc1 185 (fc_axApply cols [(((l.getD i default))).col] (by assumption) (by assumption) (by simp)) (rowC intT [(((l.getD i default))).col] X0)))], .r [(4, Xv 1 (!false) (Xi intT (List.map (fun x => placeS cols x 0 0) [(((l.getD i default))).col]) 0)), (5, Xv 1 (!false) X0), (6, Xv 1 (!false) X0), (7, X (Xk' false))]] (false || decide (((List.map (fun x => placeS cols x 0 0) [(((l.getD i default))).col]).getD 0 default) < 0)) (fun h12 => ?_) (fun h12 => ?_)
    ·
     (try simp only [decide_eq_true_eq, decide_eq_false_iff_not, Int.not_lt, Int.not_le, Bool.or_eq_true, Bool.or_eq_false_iff] at h12)
     refine .back [.r [(0, X (Xn ((i : Int) + 1)))]] [(40, 40)] (ih3 ((i + 1), o) ?_ ?_)
     ·
      refine ⟨by omega, ?_⟩
      rw [movL_succ (by omega), ← I3.2]
      unfold mvC mvR
      simp only [List.map_cons, List.map_nil, List.getD_cons_zero] at *
      (repeat' split) <;> first | rfl | (simp; done) | (exfalso; omega) | (exfalso; simp_all; done) | (exfalso; simp_all; omega)
     ·
      ((try dsimp only); omega)
    ·
     (try simp only [decide_eq_true_eq, decide_eq_false_iff_not, Int.not_lt, Int.not_le, Bool.or_eq_true, Bool.or_eq_false_iff] at h12)
     refine .back [.r [(1, X (Xi intT (List.map (fun x => placeS cols x 0 0) [(((l.getD i default))).col]) 0))], .r [(3, X (rowC cellT [({ row := (((l.getD i default))).row, col := ((List.map (fun x => placeS cols x 0 0) [(((l.getD i default))).col]).getD 0 default), text := (((l.getD i default))).text, ref := (((l.getD i default))).ref, attrs := (((l.getD i default))).attrs } : Cell)] (Xap 5 cellT 40 o [({ row := (((l.getD i default))).row, col := ((List.map (fun x => placeS cols x 0 0) [(((l.getD i default))).col]).getD 0 default), text := (((l.getD i default))).text, ref := (((l.getD i default))).ref, attrs := (((l.getD i default))).attrs } : Cell)])))], .r [(0, X (Xn ((i : Int) + 1)))]] [(40, 40)] (ih3 ((i + 1), (o ++ [({ row := (((l.getD i default))).row, col := ((List.map (fun x => placeS cols x 0 0) [(((l.getD i default))).col]).getD 0 default), text := (((l.getD i default))).text, ref := (((l.getD i default))).ref, attrs := (((l.getD i default))).attrs } : Cell)])) ?_ ?_)
     ·
      refine ⟨by omega, ?_⟩
      rw [movL_succ (by omega), ← I3.2]
      unfold mvC mvR
      simp only [List.map_cons, List.map_nil, List.getD_cons_zero] at *
      (repeat' split) <;> first | rfl | (simp; done) | (exfalso; omega) | (exfalso; simp_all; done) | (exfalso; simp_all; omega)
     ·
      ((try dsimp only); omega)
   ·
    (try simp only [decide_eq_true_eq, decide_eq_false_iff_not, Int.not_lt, Int.not_le, gt_iff_lt] at h10)
    refine .back [.r [(3, X (rowC cellT [(((l.getD i default)))] (Xap 5 cellT 40 o [(((l.getD i default)))])))], .r [(0, X (Xn ((i : Int) + 1)))]] [(40, 40)] (ih3 ((i + 1), (o ++ [(((l.getD i default)))])) ?_ ?_)
    ·
     refine ⟨by omega, ?_⟩
     rw [movL_succ (by omega), ← I3.2]
     unfold mvC mvR
     simp only [List.map_cons, List.map_nil, List.getD_cons_zero] at *
     (repeat' split) <;> first | rfl | (simp; done) | (exfalso; omega) | (exfalso; simp_all; done) | (exfalso; simp_all; omega)
    ·
     ((try dsimp only); omega)
 ·
  (try simp only [decide_eq_true_eq, decide_eq_false_iff_not, Int.not_lt, Int.not_le] at h3)
  have e1 : ((movL l rows cols) : List Cell) = o := by
   rw [I3.2, List.take_of_length_le (by omega)]
  exact .finE [.r [], .le (.fr 6 [(o.length : Nat) = (List.map cellT o).length] ⟨lm, trivial⟩)] [] (fun z0 => (VL 5 cellT z0, [])) (o : List Cell) ((movL l rows cols) : List Cell) e1
end Go.Ch
end
section
set_option linter.unusedVariables false
set_option linter.unusedSimpArgs false
set_option maxRecDepth 100000
set_option maxHeartbeats 4000000
open Go Go.Proofs Go.Ab
namespace Go.Ch
theorem fc_gput (l news : List Cell) (hl : l.length ≤ 100000000000) (hn : news.length ≤ 100000000000) (ha : CAN 1000000000000 news) : FC Tryd.prog 47 [VL 5 cellT l, VL 5 cellT news] (app emp []) (VL 5 cellT (putL news l)) (app emp []) := by
 refine .go Tryd.f47 ?_
 refine .len 0 (fun hl0 => ?_)
 refine .len 1 (fun hl1 => ?_)
 refine .loop (α := Nat × Nat × (List Cell)) [.r [], .r [], .r [], .r [(1, X (Xl cellT news))], .le (.nR 5 5)] 49 (fun (i, k, o) => ([(0, VL 5 cellT l), (5, .row 48 o.length), (6, VI (i : Int)), (9, VL 5 cellT news), (10, VI (news.length : Int)), (11, VI (k : Int))], [(48, OR 5 cellT o)])) (fun (i, k, o) => k ≤ news.length ∧ i ≤ l.length ∧ o.length ≤ i + k ∧ putL news l = o ++ putL (news.drop k) (l.drop i)) (fun (i, k, o) => news.length - k) (0, 0, []) ?_ ?_
 ·
  exact ⟨by omega, by omega, by simp, rfl⟩
 rintro ⟨i, k, o⟩ I4 ih4
 try dsimp only at I4
 refine .br [.r []] (decide ((k : Int) < (news.length : Int))) (fun h4 => ?_) (fun h4 => ?_)
 ·
  (try simp only [decide_eq_true_eq, decide_eq_false_iff_not, Int.not_lt, Int.not_le] at h4)
  have hm := ha _ (getDC_mem (l := news) (i := k) (by omega))
  refine .loop (α := Nat × (List Cell)) [.r [(0, X (Xi cellT news (k : Int)))]] 89 (fun (j, p) => ([(0, VL 5 cellT l), (5, .row 48 p.length), (6, VI (j : Int)), (8, .ptr 73 0), (9, VL 5 cellT news), (10, VI (news.length : Int)), (11, VI (k : Int))], [(48, OR 5 cellT p), (73, .box [VI (((news.getD k default)).row), VI (((news.getD k default)).col), VS (((news.getD k default)).text), VI (((news.getD k default)).ref), VL 2 attrT (((news.getD k default)).attrs)])])) (fun (j, p) => j ≤ l.length ∧ p.length ≤ j + k ∧ putL news l = p ++ putC (news.getD k default) (putL (news.drop (k + 1))) (l.drop j)) (fun (j, p) => l.length - j) (i, o) ?_ ?_
  ·
   exact ⟨by omega, by omega, by rw [I4.2.2.2, dropC (l := news) (by omega), putL]⟩
  rintro ⟨j, p⟩ I6 ih6
  try dsimp only at I6
  skip
  refine .br [.r [(2, X (Xl cellT l)), (7, Xv 2 (decide ((j : Int) < (l.length : Int))) (Xi cellT l (j : Int))), (8, Xv 1 (decide ((j : Int) < (l.length : Int))) X0), (10, Xv 2 (decide ((j : Int) < (l.length : Int))) (Xc0 (fc_order ((l.getD j default)) ((news.getD k default))) X0)), (11, Xv 1 (decide ((j : Int) < (l.length : Int))) X0), (12, X (Xk (decide ((j : Int) < (l.length : Int)))))]] (decide ((j : Int) < (l.length : Int)) && decide ((ordC ((l.getD j default)) ((news.getD k default))) < 0)) (fun h6 => ?_) (fun h6 => ?_)
  ·
   (try simp only [decide_eq_true_eq, decide_eq_false_iff_not, Int.not_lt, Int.not_le, Bool.and_eq_true, Bool.and_eq_false_iff, Bool.not_eq_true', Bool.not_eq_false'] at h6)
   refine .back [.r [(3, X (Xi cellT l (j : Int))), (6, X (rowC cellT [((l.getD j default))] (Xap 5 cellT 48 p [((l.getD j default))])))], .r [(1, X (Xn ((j : Int) + 1)))]] [(48, 48), (73, 73)] (ih6 ((j + 1), (p ++ [((l.getD j default))])) ?_ ?_)
   ·
    refine ⟨by omega, by simp; omega, ?_⟩
    rw [I6.2.2, putC_lt (by omega) (by omega), List.append_assoc]
    rfl
   ·
    ((try dsimp only); omega)
  ·
   (try simp only [decide_eq_true_eq, decide_eq_false_iff_not, Int.not_lt, Int.not_le, Bool.and_eq_true, Bool.and_eq_false_iff, Bool.not_eq_true', Bool.not_eq_false'] at h6)
   refine .br [.r [(2, X (Xl cellT l)), (7, Xv 2 (decide ((j : Int) < (l.length : Int))) (Xi cellT l (j : Int))), (8, Xv 1 (decide ((j : Int) < (l.length : Int))) X0), (10, Xv 2 (decide ((j : Int) < (l.length : Int))) (Xc0 (fc_order ((l.getD j default)) ((news.getD k default))) X0)), (11, Xv 1 (decide ((j : Int) < (l.length : Int))) X0), (12, X (Xk (decide ((j : Int) < (l.length : Int)))))]] (decide ((j : Int) < (l.length : Int)) && ((ordC ((l.getD j default)) ((news.getD k default))) == 0)) (fun h9 => ?_) (fun h9 => ?_)
   ·
    (try simp only [decide_eq_true_eq, decide_eq_false_iff_not, Int.not_lt, Int.not_le, Bool.and_eq_true, Bool.and_eq_false_iff, Bool.not_eq_true', Bool.not_eq_false', beq_iff_eq, beq_eq_false_iff_ne, ne_eq] at h9)
    refine .br [.r [(1, X (Xn ((j : Int) + 1)))], .r [(1, X (Xc0 (fc_empty ((news.getD k default))) X0))]] (!(emptyC ((news.getD k default)))) (fun h11 => ?_) (fun h11 => ?_)
    ·
     (try simp only [Bool.not_eq_true', Bool.not_eq_false'] at h11)
     refine .back [.r [(2, X (Xc1 361 (fc_clone ((news.getD k default)) (by omega)) X0)), (4, X (rowC cellT [((news.getD k default))] (Xap 5 cellT 48 p [((news.getD k default))])))], .r [(0, X (Xn ((k : Int) + 1)))]] [(48, 48)] (ih4 ((j + 1), (k + 1), (p ++ [((news.getD k default))])) ?_ ?_)
     ·
      refine ⟨by omega, by omega, by ((try simp only [List.length_append, List.length_cons, List.length_nil]); omega), ?_⟩
      rw [I6.2.2]
      (first | rw [putC_eq (by omega) (by omega)] | rw [putC_gt (fun h => by omega)])
      (first | rw [if_pos (by assumption)] | rw [if_neg (by simp_all)])
      simp
     ·
      ((try dsimp only); omega)
    ·
     (try simp only [Bool.not_eq_true', Bool.not_eq_false'] at h11)
     refine .back [.r [(0, X (Xn ((k : Int) + 1)))]] [(48, 48)] (ih4 ((j + 1), (k + 1), p) ?_ ?_)
     ·
      refine ⟨by omega, by omega, by ((try simp only [List.length_append, List.length_cons, List.length_nil]); omega), ?_⟩
      rw [I6.2.2]
      (first | rw [putC_eq (by omega) (by omega)] | rw [putC_gt (fun h => by omega)])
      (first | rw [if_pos (by assumption)] | rw [if_neg (by simp_all)])
      simp
     ·
      ((try dsimp only); omega)
   ·
    (try simp only [decide_eq_true_eq, decide_eq_false_iff_not, Int.not_lt, Int.not_le, Bool.and_eq_true, Bool.and_eq_false_iff, Bool.not_eq_true', Bool.not_eq_false', beq_iff_eq, beq_eq_false_iff_ne, ne_eq] at h9)
    refine .br [.r [(1, X (Xc0 (fc_empty ((news.getD k default))) X0))]] (!(emptyC ((news.getD k default)))) (fun h11 => ?_) (fun h11 => ?_)
    ·
     (try simp only [Bool.not_eq_true', Bool.not_eq_false'] at h11)
     refine .back [.r [(2, X (Xc1 337 (fc_clone ((news.getD k default)) (by omega)) X0)), (4, X (rowC cellT [((news.getD k default))] (Xap 5 cellT 48 p [((news.getD k default))])))], .r [(0, X (Xn ((k : Int) + 1)))]] [(48, 48)] (ih4 (j, (k + 1), (p ++ [((news.getD k default))])) ?_ ?_)
     ·
      refine ⟨by omega, by omega, by ((try simp only [List.length_append, List.length_cons, List.length_nil]); omega), ?_⟩
      rw [I6.2.2]
      (first | rw [putC_eq (by omega) (by omega)] | rw [putC_gt (fun h => by omega)])
      (first | rw [if_pos (by assumption)] | rw [if_neg (by simp_all)])
      simp
     ·
      ((try dsimp only); omega)
    ·
     (try simp only [Bool.not_eq_true', Bool.not_eq_false'] at h11)
     refine .back [.r [(0, X (Xn ((k : Int) + 1)))]] [(48, 48)] (ih4 (j, (k + 1), p) ?_ ?_)
     ·
      refine ⟨by omega, by omega, by ((try simp only [List.length_append, List.length_cons, List.length_nil]); omega), ?_⟩
      rw [I6.2.2]
      (first | rw [putC_eq (by omega) (by omega)] | rw [putC_gt (fun h => by omega)])
      (first | rw [if_pos (by assumption)] | rw [if_neg (by simp_all)])
      simp
     ·
      ((try dsimp only); omega)
 ·
  (try simp only [decide_eq_true_eq, decide_eq_false_iff_not, Int.not_lt, Int.not_le] at h4)
  have e1 : ((putL news l) : List Cell) = (o ++ (l.drop i)) := by
   rw [I4.2.2.2, dropC_end (l := news) (by omega), putL]
  exact .finE [.r [(3, X (Xsd cellT 5 l (i : Int))), (4, X (Xap 5 cellT 48 o (l.drop i)))], .le (.fr 4 [(((o ++ (l.drop i)).length) : Nat) = (List.map cellT (o ++ (l.drop i))).length] ⟨lm, trivial⟩)] [] (fun z0 => (VL 5 cellT z0, [])) ((o ++ (l.drop i)) : List Cell) ((putL news l) : List Cell) e1
end Go.Ch
end
section
set_option linter.unusedVariables false
namespace Go.Ch
open Go Go.Ab

theorem getDX_mem {α : Type} [Inhabited α] {l : List α} {i : Nat} (h : i < l.length) : l.getD i default ∈ l := by
  rw [show l.getD i default = l[i] by simp [List.getD, List.getElem?_eq_getElem h]]; exact List.getElem_mem _
theorem take_succD {α : Type} [Inhabited α] {l : List α} {i : Nat} (h : i < l.length) : l.take (i + 1) = l.take i ++ [l.getD i default] := by
  rw [List.take_succ_eq_append_getElem h]; simp [List.getD, List.getElem?_eq_getElem h]
theorem drop_succD {α : Type} [Inhabited α] {l : List α} {i : Nat} (h : i < l.length) : l.drop i = l.getD i default :: l.drop (i + 1) := by
  rw [List.drop_eq_getElem_cons h]; simp [List.getD, List.getElem?_eq_getElem h]
theorem filt_succ {α : Type} [Inhabited α] (p : α → Bool) {l : List α} {i : Nat} (h : i < l.length) : (l.take (i + 1)).filter p = (l.take i).filter p ++ (if p (l.getD i default) = true then [l.getD i default] else []) := by
  rw [take_succD h, List.filter_append]
  congr 1
  rw [List.filter_cons, List.filter_nil]
/-! ### Back, rects, reach -/
def outQ (l k : List Rect) : List Rect := l.filter (fun r => !hasQ k r)
def backE (b g : Grid) (rows cols : List AxStep) : GEd := ⟨rows, cols, difL g.cells b.cells, outQ b.merges g.merges, outQ g.merges b.merges⟩
def thrO (rows cols : List AxStep) (r : Rect) : Option Rect := if thrB (thrR r rows cols) = true then some (thrR r rows cols) else none
def rectL (l : List Rect) (rows cols : List AxStep) : List Rect := l.filterMap (thrO rows cols)
/-- A rectangle that both axes' changes can take. -/
def QIn (rows cols : List AxStep) (r : Rect) : Prop := RB r ∧ AxIn rows r.row (r.row + r.h) ∧ AxIn cols r.col (r.col + r.w)
def mxS (a : List AxStep) : Int := if 0 < a.length then oldI a else 2147483647
def RchOk (e : GEd) (h w : Int) : Prop := (∀ c ∈ e.cells, c.row < h ∧ c.col < w) ∧ (∀ r ∈ e.split, insB r h w = true) ∧ ∀ r ∈ e.merge, insB r h w = true

/-! ### What the document says -/
def liesB (r : Rect) (m n : Int) : Bool := insB r m n
theorem lies_eq {r : Rect} {m n : Int} (hm : 0 ≤ m) (hn : 0 ≤ n) : insB r m n = decide (((0 ≤ r.row ∧ r.row ≤ m - 1) ∧ (0 ≤ r.col ∧ r.col ≤ n - 1)) ∧ (1 ≤ r.h ∧ r.h ≤ m - r.row) ∧ (1 ≤ r.w ∧ r.w ≤ n - r.col)) := by
  unfold insB
  rw [Bool.eq_iff_iff]
  simp only [decide_eq_true_eq]
  omega
def sameCells (a b : List Cell) (i : Nat) : Bool := if i < a.length then (if sameC (a.getD i default) (b.getD i default) = true then sameCells a b (i + 1) else false) else true
termination_by a.length - i
def sameCs (a b : List Cell) : Bool := if a.length = b.length then sameCells a b 0 else false
def sameRects (a b : List Rect) (i : Nat) : Bool := if i < a.length then (if a.getD i default = b.getD i default then sameRects a b (i + 1) else false) else true
termination_by a.length - i
def sameQs (a b : List Rect) : Bool := if a.length = b.length then sameRects a b 0 else false
def sameG (a b : Grid) : Bool := ((a.rows == b.rows && a.cols == b.cols) && sameCs a.cells b.cells) && sameQs a.merges b.merges
def sumN (l : List AxStep) : Int := ((ex l).length : Int)
theorem sumN_le {l : List AxStep} (hv : Valid l) : 0 ≤ sumN l ∧ sumN l ≤ 4294967294 := by
  have := ex_len l; have := hv.2.1; have := hv.2.2
  unfold sumN; omega
theorem sumN_at {l : List AxStep} {i : Nat} (h : i < l.length) (hf : Form l) : sumN (l.drop i) = (l.getD i default).n + sumN (l.drop (i + 1)) ∧ 1 ≤ (l.getD i default).n := by
  have h1 := (at_of_form hf) i (Nat.zero_le _) h
  have hn := h1.1.2.2
  refine ⟨?_, hn⟩
  unfold sumN
  rw [drop_ats h, ex, List.length_append, List.length_replicate]
  omega
theorem sumN_end {l : List AxStep} {i : Nat} (h : l.length ≤ i) : sumN (l.drop i) = 0 := by
  rw [List.drop_eq_nil_of_le h]; rfl
def pA (a b : List AxStep) : List AxStep := if a.length = 0 ∨ b.length = 0 then a else pairX1 a b
def pB (a b : List AxStep) : List AxStep := if a.length = 0 ∨ b.length = 0 then b else pairX2 a b
structure PairOk (a b : List AxStep) : Prop where
  va : Valid a
  vb : Valid b
  eq : oldI a = oldI b
  c1 : checkX (pairX1 a b) = 0
  c2 : checkX (pairX2 a b) = 0
def smallB (g : Grid) (e : GEd) : Bool := ((decide (g.rows ≤ 30) && decide (g.cols ≤ 30)) && decide (sumN e.rows ≤ 60)) && decide (sumN e.cols ≤ 60)
def shareB (a b : Rect) : Bool := decide (max a.row b.row < min (a.row + a.h) (b.row + b.h)) && decide (max a.col b.col < min (a.col + a.w) (b.col + b.w))
theorem share_eq {a b : Rect} (h1 : 1 ≤ a.h) (h2 : 1 ≤ a.w) (h3 : 1 ≤ b.h) (h4 : 1 ≤ b.w) : shareB a b = meetB a b := by
  unfold shareB meetB
  rw [Bool.eq_iff_iff]
  simp only [Bool.and_eq_true, decide_eq_true_eq]
  omega
end Go.Ch
end
section
set_option linter.unusedVariables false
set_option linter.unusedSimpArgs false
set_option maxRecDepth 100000
set_option maxHeartbeats 4000000
open Go Go.Proofs Go.Ab
namespace Go.Ch
end Go.Ch
end
section
set_option linter.unusedVariables false
set_option linter.unusedSimpArgs false
set_option maxRecDepth 100000
set_option maxHeartbeats 4000000
open Go Go.Proofs Go.Ab
namespace Go.Ch
theorem fc_axisSize (l : List AxStep) (hv : Valid l) : FC Tryd.prog 21 [VL 2 stepT l] (app emp []) (VI (sumN l)) (app emp []) := by
 refine .go Tryd.f21 ?_
 refine .len 0 (fun hl0 => ?_)
 have hs := sumN_le hv
 refine .loop (α := Int × Nat) [.r [], .r [], .r [(1, X (Xl stepT l))]] 40 (fun (n, i) => ([(0, VL 2 stepT l), (3, VI n), (6, VI (l.length : Int)), (7, VI (i : Int))], [])) (fun (n, i) => i ≤ l.length ∧ 0 ≤ n ∧ 0 ≤ sumN (l.drop i) ∧ sumN l = n + sumN (l.drop i)) (fun (n, i) => l.length - i) (0, 0) ?_ ?_
 ·
  exact ⟨by omega, by decide, by unfold sumN; omega, by simp⟩
 rintro ⟨n, i⟩ I3 ih3
 try dsimp only at I3
 refine .br [.r []] (decide ((i : Int) < (l.length : Int))) (fun h3 => ?_) (fun h3 => ?_)
 ·
  (try simp only [decide_eq_true_eq, decide_eq_false_iff_not, Int.not_lt, Int.not_le] at h3)
  obtain ⟨t1, t2⟩ := sumN_at (l := l) (i := i) (by omega) hv.1
  have t3 : 0 ≤ sumN (l.drop (i + 1)) := by unfold sumN; omega
  refine .back [.r [], .r [(3, X (Xi stepT l (i : Int))), (6, X (Xn (n + (((l.getD i default)).n))))], .r [(0, X (Xn ((i : Int) + 1)))]] [] (ih3 ((n + (((l.getD i default)).n)), (i + 1)) ?_ ?_)
  ·
   exact ⟨by omega, by omega, t3, by omega⟩
  ·
   ((try dsimp only); omega)
 ·
  (try simp only [decide_eq_true_eq, decide_eq_false_iff_not, Int.not_lt, Int.not_le] at h3)
  have e1 : ((sumN l) : Int) = n := by
   have := sumN_end (l := l) (i := i) (by omega)
   omega
  exact .finE [.r []] [] (fun z0 => (VI z0, [])) (n : Int) ((sumN l) : Int) e1

theorem fc_emptyR (c : Cell) : FC Tryd.prog 39 [.t (cellT c)] (app emp []) (VB (emptyC c)) (app emp []) := by
 refine .go Tryd.f39 ?_
 have e1 : ((emptyC c) : Bool) = ((seq c.text ({ data := #[] }) && (c.ref == 0)) && ((c.attrs.length : Int) == 0)) := by
  rfl
 exact .finE [.r [], .r [(5, Xv 1 (seq c.text ({ data := #[] })) X0), (6, Xv 1 (seq c.text ({ data := #[] })) X0), (7, X (Xk (seq c.text ({ data := #[] })))), (10, Xv 1 (seq c.text ({ data := #[] }) && (c.ref == 0)) X0), (11, Xv 1 (seq c.text ({ data := #[] }) && (c.ref == 0)) (Xl attrT c.attrs)), (12, Xv 1 (seq c.text ({ data := #[] }) && (c.ref == 0)) X0), (13, X (Xk (seq c.text ({ data := #[] }) && (c.ref == 0))))]] [] (fun z0 => (VB z0, [])) (((seq c.text ({ data := #[] }) && (c.ref == 0)) && ((c.attrs.length : Int) == 0)) : Bool) ((emptyC c) : Bool) e1

theorem fc_sameCellR (a b : Cell) : FC Tryd.prog 26 [.t (cellT a), .t (cellT b)] (app emp []) (VB (sameC a b)) (app emp []) := by
 refine .go Tryd.f26 ?_
 have e1 : ((sameC a b) : Bool) = (((((a.row == b.row) && (a.col == b.col)) && seq a.text b.text) && (a.ref == b.ref)) && (sameL a.attrs b.attrs)) := by
  rfl
 exact .finE [.r [], .r [(7, Xv 1 (a.row == b.row) X0), (9, Xv 1 (a.row == b.row) X0), (10, Xv 2 (a.row == b.row) X0), (11, X (Xk (a.row == b.row))), (14, Xv 1 ((a.row == b.row) && (a.col == b.col)) X0), (16, Xv 1 ((a.row == b.row) && (a.col == b.col)) X0), (17, Xv 2 ((a.row == b.row) && (a.col == b.col)) X0), (18, X (Xk ((a.row == b.row) && (a.col == b.col)))), (21, Xv 1 (((a.row == b.row) && (a.col == b.col)) && seq a.text b.text) X0), (23, Xv 1 (((a.row == b.row) && (a.col == b.col)) && seq a.text b.text) X0), (24, Xv 2 (((a.row == b.row) && (a.col == b.col)) && seq a.text b.text) X0), (25, X (Xk (((a.row == b.row) && (a.col == b.col)) && seq a.text b.text))), (28, Xv 1 ((((a.row == b.row) && (a.col == b.col)) && seq a.text b.text) && (a.ref == b.ref)) X0), (30, Xv 1 ((((a.row == b.row) && (a.col == b.col)) && seq a.text b.text) && (a.ref == b.ref)) X0), (31, Xv 2 ((((a.row == b.row) && (a.col == b.col)) && seq a.text b.text) && (a.ref == b.ref)) (Xc0 (fc_sameAttrs a.attrs b.attrs) X0)), (32, X (Xk ((((a.row == b.row) && (a.col == b.col)) && seq a.text b.text) && (a.ref == b.ref))))]] [] (fun z0 => (VB z0, [])) ((((((a.row == b.row) && (a.col == b.col)) && seq a.text b.text) && (a.ref == b.ref)) && (sameL a.attrs b.attrs)) : Bool) ((sameC a b) : Bool) e1

theorem fc_sameCells (a b : List Cell) : FC Tryd.prog 10 [VL 5 cellT a, VL 5 cellT b] (app emp []) (VB (sameCs a b)) (app emp []) := by
 refine .go Tryd.f10 ?_
 refine .len 0 (fun hl0 => ?_)
 refine .len 1 (fun hl1 => ?_)
 refine .br [.r [], .r [(1, X (Xl cellT a)), (3, X (Xl cellT b))]] ((a.length : Int) != (b.length : Int)) (fun h1 => ?_) (fun h1 => ?_)
 ·
  (try simp only [bne_iff_ne, bne_eq_false_iff_eq, ne_eq] at h1)
  have e1 : ((sameCs a b) : Bool) = false := by
   unfold sameCs; rw [if_neg (by omega)]
  exact .finE [.r []] [] (fun z0 => (VB z0, [])) (false : Bool) ((sameCs a b) : Bool) e1
 ·
  (try simp only [bne_iff_ne, bne_eq_false_iff_eq, ne_eq] at h1)
  refine .loop (α := Nat) [.r [(1, X (Xl cellT a))]] 72 (fun i => ([(0, VL 5 cellT a), (1, VL 5 cellT b), (12, VI (a.length : Int)), (13, VI (i : Int))], [])) (fun i => i ≤ a.length ∧ sameCells a b 0 = sameCells a b i) (fun i => a.length - i) (0 : Nat) ?_ ?_
  ·
   exact ⟨by omega, rfl⟩
  rintro i I4 ih4
  try dsimp only at I4
  refine .br [.r []] (decide ((i : Int) < (a.length : Int))) (fun h4 => ?_) (fun h4 => ?_)
  ·
   (try simp only [decide_eq_true_eq, decide_eq_false_iff_not, Int.not_lt, Int.not_le] at h4)
   refine .br [.r [], .r [(2, X (Xi cellT a (i : Int))), (6, X (Xi cellT b (i : Int))), (8, X (Xc0 (fc_sameCellR ((a.getD i default)) ((b.getD i default))) X0))]] (!(sameC ((a.getD i default)) ((b.getD i default)))) (fun h6 => ?_) (fun h6 => ?_)
   ·
    (try simp only [Bool.not_eq_true', Bool.not_eq_false'] at h6)
    have e2 : ((sameCs a b) : Bool) = false := by
     unfold sameCs; rw [if_pos (by omega), I4.2, sameCells, if_pos (by omega), if_neg]
     rw [h6]; decide
    exact .finE [.r []] [] (fun z0 => (VB z0, [])) (false : Bool) ((sameCs a b) : Bool) e2
   ·
    (try simp only [Bool.not_eq_true', Bool.not_eq_false'] at h6)
    refine .back [.r [(0, X (Xn ((i : Int) + 1)))]] [] (ih4 ((i + 1) : Nat) ?_ ?_)
    ·
     refine ⟨by omega, ?_⟩
     rw [I4.2, sameCells, if_pos (by omega), if_pos]
     exact h6
    ·
     ((try dsimp only); omega)
  ·
   (try simp only [decide_eq_true_eq, decide_eq_false_iff_not, Int.not_lt, Int.not_le] at h4)
   have e3 : ((sameCs a b) : Bool) = true := by
    unfold sameCs; rw [if_pos (by omega), I4.2, sameCells, if_neg (by omega)]
   exact .finE [.r []] [] (fun z0 => (VB z0, [])) (true : Bool) ((sameCs a b) : Bool) e3

theorem fc_small (x : Grid) (e : GEd) (h1 : Valid e.rows) (h2 : Valid e.cols) : FC Tryd.prog 7 [.t (gridT x), .t (gedT e)] (app emp []) (VB (smallB x e)) (app emp []) := by
 refine .go Tryd.f7 ?_
 have e1 : ((smallB x e) : Bool) = (((decide (x.rows ≤ 30) && decide (x.cols ≤ 30)) && decide ((sumN e.rows) ≤ 60)) && decide ((sumN e.cols) ≤ 60)) := by
  rfl
 exact .finE [.r [], .r [(5, Xv 1 (decide (x.rows ≤ 30)) X0), (6, Xv 1 (decide (x.rows ≤ 30)) X0), (7, X (Xk (decide (x.rows ≤ 30)))), (10, Xv 1 (decide (x.rows ≤ 30) && decide (x.cols ≤ 30)) X0), (11, Xv 1 (decide (x.rows ≤ 30) && decide (x.cols ≤ 30)) (Xc0 (fc_axisSize e.rows (by assumption)) X0)), (12, Xv 1 (decide (x.rows ≤ 30) && decide (x.cols ≤ 30)) X0), (13, X (Xk (decide (x.rows ≤ 30) && decide (x.cols ≤ 30)))), (16, Xv 1 ((decide (x.rows ≤ 30) && decide (x.cols ≤ 30)) && decide ((sumN e.rows) ≤ 60)) X0), (17, Xv 1 ((decide (x.rows ≤ 30) && decide (x.cols ≤ 30)) && decide ((sumN e.rows) ≤ 60)) (Xc0 (fc_axisSize e.cols (by assumption)) X0)), (18, Xv 1 ((decide (x.rows ≤ 30) && decide (x.cols ≤ 30)) && decide ((sumN e.rows) ≤ 60)) X0), (19, X (Xk ((decide (x.rows ≤ 30) && decide (x.cols ≤ 30)) && decide ((sumN e.rows) ≤ 60))))]] [] (fun z0 => (VB z0, [])) ((((decide (x.rows ≤ 30) && decide (x.cols ≤ 30)) && decide ((sumN e.rows) ≤ 60)) && decide ((sumN e.cols) ≤ 60)) : Bool) ((smallB x e) : Bool) e1

theorem fc_lies (r : Rect) (m n : Int) (hb : 0 ≤ m ∧ m ≤ 1000000000000 ∧ 0 ≤ n ∧ n ≤ 1000000000000) : FC Tryd.prog 19 [.t (rectT r), VI m, VI n] (app emp []) (VB (insB r m n)) (app emp []) := by
 refine .go Tryd.f19 ?_
 have e1 : ((insB r m n) : Bool) = ((((decide (0 ≤ r.row ∧ r.row ≤ (m - 1))) && (decide (0 ≤ r.col ∧ r.col ≤ (n - 1)))) && (decide (1 ≤ r.h ∧ r.h ≤ (m - r.row)))) && (decide (1 ≤ r.w ∧ r.w ≤ (n - r.col)))) := by
  rw [lies_eq (by omega) (by omega)]; rw [Bool.eq_iff_iff]; simp; try omega
 exact .finE [.r [], .r [(3, X (Xn (m - 1))), (4, X (Xc0 (fc_in r.row 0 (m - 1)) X0)), (7, Xv 1 (decide (0 ≤ r.row ∧ r.row ≤ (m - 1))) X0), (9, Xv 1 (decide (0 ≤ r.row ∧ r.row ≤ (m - 1))) (Xn (n - 1))), (10, Xv 2 (decide (0 ≤ r.row ∧ r.row ≤ (m - 1))) (Xc0 (fc_in r.col 0 (n - 1)) X0)), (11, X (Xk (decide (0 ≤ r.row ∧ r.row ≤ (m - 1))))), (14, Xv 1 ((decide (0 ≤ r.row ∧ r.row ≤ (m - 1))) && (decide (0 ≤ r.col ∧ r.col ≤ (n - 1)))) X0), (17, Xv 1 ((decide (0 ≤ r.row ∧ r.row ≤ (m - 1))) && (decide (0 ≤ r.col ∧ r.col ≤ (n - 1)))) X0), (18, Xv 2 ((decide (0 ≤ r.row ∧ r.row ≤ (m - 1))) && (decide (0 ≤ r.col ∧ r.col ≤ (n - 1)))) (Xn (m - r.row))), (19, Xv 2 ((decide (0 ≤ r.row ∧ r.row ≤ (m - 1))) && (decide (0 ≤ r.col ∧ r.col ≤ (n - 1)))) (Xc0 (fc_in r.h 1 (m - r.row)) X0)), (20, X (Xk ((decide (0 ≤ r.row ∧ r.row ≤ (m - 1))) && (decide (0 ≤ r.col ∧ r.col ≤ (n - 1)))))), (23, Xv 1 (((decide (0 ≤ r.row ∧ r.row ≤ (m - 1))) && (decide (0 ≤ r.col ∧ r.col ≤ (n - 1)))) && (decide (1 ≤ r.h ∧ r.h ≤ (m - r.row)))) X0), (26, Xv 1 (((decide (0 ≤ r.row ∧ r.row ≤ (m - 1))) && (decide (0 ≤ r.col ∧ r.col ≤ (n - 1)))) && (decide (1 ≤ r.h ∧ r.h ≤ (m - r.row)))) X0), (27, Xv 2 (((decide (0 ≤ r.row ∧ r.row ≤ (m - 1))) && (decide (0 ≤ r.col ∧ r.col ≤ (n - 1)))) && (decide (1 ≤ r.h ∧ r.h ≤ (m - r.row)))) (Xn (n - r.col))), (28, Xv 2 (((decide (0 ≤ r.row ∧ r.row ≤ (m - 1))) && (decide (0 ≤ r.col ∧ r.col ≤ (n - 1)))) && (decide (1 ≤ r.h ∧ r.h ≤ (m - r.row)))) (Xc0 (fc_in r.w 1 (n - r.col)) X0)), (29, X (Xk (((decide (0 ≤ r.row ∧ r.row ≤ (m - 1))) && (decide (0 ≤ r.col ∧ r.col ≤ (n - 1)))) && (decide (1 ≤ r.h ∧ r.h ≤ (m - r.row))))))]] [] (fun z0 => (VB z0, [])) (((((decide (0 ≤ r.row ∧ r.row ≤ (m - 1))) && (decide (0 ≤ r.col ∧ r.col ≤ (n - 1)))) && (decide (1 ≤ r.h ∧ r.h ≤ (m - r.row)))) && (decide (1 ≤ r.w ∧ r.w ≤ (n - r.col)))) : Bool) ((insB r m n) : Bool) e1

theorem fc_share (a b : Rect) (ha : RB a) (hb : RB b) : FC Tryd.prog 20 [.t (rectT a), .t (rectT b)] (app emp []) (VB (shareB a b)) (app emp []) := by
 refine .go Tryd.f20 ?_
 unfold RB at ha hb
 have e1 : ((shareB a b) : Bool) = (decide ((max a.row b.row) < (min (a.row + a.h) (b.row + b.h))) && decide ((max a.col b.col) < (min (a.col + a.w) (b.col + b.w)))) := by
  rfl
 exact .finE [.r [], .r [(4, X (Xmax a.row b.row)), (9, X (Xmax a.col b.col))], .r [(5, X (Xn (a.row + a.h))), (10, X (Xn (b.row + b.h))), (11, X (Xmin (a.row + a.h) (b.row + b.h))), (16, Xv 1 (decide ((max a.row b.row) < (min (a.row + a.h) (b.row + b.h)))) X0), (18, Xv 1 (decide ((max a.row b.row) < (min (a.row + a.h) (b.row + b.h)))) X0), (19, Xv 2 (decide ((max a.row b.row) < (min (a.row + a.h) (b.row + b.h)))) (Xn (a.col + a.w))), (21, Xv 1 (decide ((max a.row b.row) < (min (a.row + a.h) (b.row + b.h)))) X0), (23, Xv 1 (decide ((max a.row b.row) < (min (a.row + a.h) (b.row + b.h)))) X0), (24, Xv 2 (decide ((max a.row b.row) < (min (a.row + a.h) (b.row + b.h)))) (Xn (b.col + b.w))), (25, Xv 2 (decide ((max a.row b.row) < (min (a.row + a.h) (b.row + b.h)))) (Xmin (a.col + a.w) (b.col + b.w))), (26, Xv 2 (decide ((max a.row b.row) < (min (a.row + a.h) (b.row + b.h)))) X0), (27, X (Xk (decide ((max a.row b.row) < (min (a.row + a.h) (b.row + b.h))))))]] [] (fun z0 => (VB z0, [])) ((decide ((max a.row b.row) < (min (a.row + a.h) (b.row + b.h))) && decide ((max a.col b.col) < (min (a.col + a.w) (b.col + b.w)))) : Bool) ((shareB a b) : Bool) e1
end Go.Ch
end
section
set_option linter.unusedVariables false
set_option linter.unusedSimpArgs false
namespace Go.Ch
open Go Go.Ab

def decR (u : ByteArray) : Int := ((Lib.decodeGo u).1 : Int)
def decW (u : ByteArray) : Nat := (Lib.decodeGo u).2
theorem decW_bd {u : ByteArray} (h : 0 < u.size) : 1 ≤ decW u ∧ decW u ≤ u.size := by
  unfold decW Lib.decodeGo
  rw [if_neg (by omega)]
  have hl : u.data.toList.length = u.size := by rw [Array.length_toList]; rfl
  rw [Lib.decode_N]
  have h1 := Lib.decodeN_ge1 (u.data.toList.length - 0) (u.data.toList.getD 0 0).toNat (u.data.toList.getD (0 + 1) 0).toNat (u.data.toList.getD (0 + 2) 0).toNat (u.data.toList.getD (0 + 3) 0).toNat
  have h2 := Lib.decodeN_width_le (u.data.toList.length - 0) (u.data.toList.getD 0 0).toNat (u.data.toList.getD (0 + 1) 0).toNat (u.data.toList.getD (0 + 2) 0).toNat (u.data.toList.getD (0 + 3) 0).toNat (by omega)
  omega
theorem decR_bd (u : ByteArray) : 0 ≤ decR u ∧ decR u ≤ 1114111 := by
  unfold decR Lib.decodeGo
  split
  · decide
  · have := Lib.rune_le u 0; omega
def badT (u : ByteArray) : Prop := (decR u = 65533 ∧ decW u = 1) ∨ decR u = 10 ∨ ¬ CharP (decR u)
instance (u : ByteArray) : Decidable (badT u) := by unfold badT CharP; infer_instance
/-- A string that can be the text of a cell. -/
def textG (u : ByteArray) : Bool := if h : 0 < u.size then (if badT u then false else textG (u.extract (decW u) u.size)) else true
termination_by u.size
decreasing_by
  have := decW_bd h
  rw [ByteArray.size_extract]
  omega
theorem textG_bad {u : ByteArray} (h : 0 < u.size) (hb : badT u) : textG u = false := by rw [textG, dif_pos h, if_pos hb]
theorem textG_go {u : ByteArray} (h : 0 < u.size) (hb : ¬ badT u) : textG u = textG (u.extract (decW u) u.size) := by
  conv => lhs; rw [textG]
  rw [dif_pos h, if_neg hb]
theorem textG_end {u : ByteArray} (h : ¬ 0 < u.size) : textG u = true := by rw [textG, dif_neg h]
theorem u_len (u : ByteArray) : u.data.toList.length = u.size := by rw [Array.length_toList]; rfl
theorem decL_eq {u : ByteArray} (h : 0 < u.size) : Lib.decodeL u.data.toList = Lib.decodeGo u := by
  unfold Lib.decodeL Lib.decodeGo
  rw [if_neg (by omega)]
theorem valid_at {u : ByteArray} (h : 0 < u.size) : Lib.validD u.data.toList = if decR u = 65533 ∧ decW u = 1 then false else Lib.validD (u.extract (decW u) u.size).data.toList := by
  have hne : u.data.toList ≠ [] := by
    intro e
    have := u_len u
    rw [e] at this
    simp at this; omega
  rw [Lib.validD_step _ hne, decL_eq h, Lib.ext_list]
  unfold decR decW
  have : ((Lib.decodeGo u).1 = 65533 ∧ (Lib.decodeGo u).2 = 1) ↔ (((Lib.decodeGo u).1 : Int) = 65533 ∧ (Lib.decodeGo u).2 = 1) := by omega
  simp only [this]
theorem text_valid : ∀ (n : Nat) (u : ByteArray), u.size = n → Lib.validD u.data.toList = false → textG u = false := by
  intro n
  induction n using Nat.strongRecOn with
  | ind n ih =>
    intro u hn hv
    by_cases h : 0 < u.size
    · rw [valid_at h] at hv
      split at hv
      · rename_i hb
        exact textG_bad h (.inl hb)
      · by_cases hb : badT u
        · exact textG_bad h hb
        · rw [textG_go h hb]
          have := decW_bd h
          exact ih (u.extract (decW u) u.size).size (by rw [ByteArray.size_extract]; omega) _ rfl hv
    · exfalso
      have : u.data.toList = [] := List.length_eq_zero_iff.1 (by rw [u_len]; omega)
      rw [this, Lib.validD_nil] at hv
      cases hv
/-- The rest of a string, from a place on. -/
def tailG (u : ByteArray) (p : Nat) : ByteArray := u.extract p u.size
theorem tailG_size (u : ByteArray) (p : Nat) (h : p ≤ u.size) : (tailG u p).size = u.size - p := by unfold tailG; rw [ByteArray.size_extract]; omega
theorem dec_tail {u : ByteArray} {p : Nat} (h : p < u.size) : Utf8.decode u p = Lib.decodeGo (tailG u p) := by
  have hx : (tailG u p).data.toList = u.data.toList.drop p := Lib.ext_list u p
  have hsz : (tailG u p).size ≠ 0 := by rw [tailG_size u p (by omega)]; omega
  unfold Lib.decodeGo
  rw [if_neg hsz, ← Lib.decodeL_drop u p, ← hx]
  rfl
theorem tail_tail (u : ByteArray) (p w : Nat) (h : p ≤ u.size) : (tailG u p).extract w (tailG u p).size = tailG u (p + w) := by
  unfold tailG
  apply ByteArray.ext
  simp only [ByteArray.data_extract, ByteArray.size_extract]
  rw [Array.extract_extract]
  congr 1 <;> omega
theorem tail0 (u : ByteArray) : tailG u 0 = u := by
  unfold tailG
  exact ByteArray.extract_zero_size
/-- What the loop over the characters keeps. -/
structure CtI (u : ByteArray) (p : Nat) : Prop where
  le : p ≤ u.size
  val : Lib.validD (tailG u p).data.toList = true
  eq : textG u = textG (tailG u p)
theorem CtI.start {u : ByteArray} (h : Lib.validD u.data.toList = true) : CtI u 0 := ⟨Nat.zero_le _, by rw [tail0]; exact h, by rw [tail0]⟩
theorem CtI.done {u : ByteArray} {p : Nat} (h : CtI u p) (hp : ¬ p < u.size) : textG u = true := by
  rw [h.eq]; exact textG_end (by rw [tailG_size u p h.le]; omega)
theorem CtI.next {u : ByteArray} {p : Nat} (h : CtI u p) (hp : p < u.size) : p < p + (Utf8.decode u p).2 ∧ p + (Utf8.decode u p).2 ≤ u.size ∧ 0 ≤ ((Utf8.decode u p).1 : Int) ∧ ((Utf8.decode u p).1 : Int) ≤ 1114111 ∧
    (((Utf8.decode u p).1 : Int) = 10 ∨ ¬ CharP ((Utf8.decode u p).1 : Int) → textG u = false) ∧ (¬ ((Utf8.decode u p).1 : Int) = 10 → CharP ((Utf8.decode u p).1 : Int) → CtI u (p + (Utf8.decode u p).2)) := by
  have hs := tailG_size u p h.le
  have h0 : 0 < (tailG u p).size := by omega
  rw [dec_tail hp]
  have hw := decW_bd h0
  have hr := decR_bd (tailG u p)
  have hv := h.val
  rw [valid_at h0] at hv
  split at hv
  · cases hv
  · rename_i hb
    have e1 : ((Lib.decodeGo (tailG u p)).1 : Int) = decR (tailG u p) := rfl
    have e2 : (Lib.decodeGo (tailG u p)).2 = decW (tailG u p) := rfl
    rw [e1, e2]
    refine ⟨by omega, by omega, hr.1, hr.2, fun q => ?_, fun q1 q2 => ?_⟩
    · rw [h.eq]; exact textG_bad h0 (.inr q)
    · have hn : ¬ badT (tailG u p) := fun q => by
        rcases q with q | q | q
        · exact hb q
        · exact q1 q
        · exact q q2
      refine ⟨by omega, ?_, ?_⟩
      · rw [← tail_tail u p _ h.le]; exact hv
      · rw [← tail_tail u p _ h.le, h.eq, textG_go h0 hn]
end Go.Ch
end
section
set_option linter.unusedVariables false
namespace Go.Ch
open Go Go.Ab

theorem ordC_def (a b : Cell) : ordC a b = if a.row < b.row then -1 else if a.row > b.row then 1 else if a.col < b.col then -1 else if a.col > b.col then 1 else 0 := by
  unfold ordC
  simp only [orL]
  unfold cmpI
  by_cases h1 : a.row < b.row
  · rw [if_pos h1, if_pos (by decide), if_pos h1]
  · rw [if_neg h1, if_neg h1]
    by_cases h2 : a.row > b.row
    · rw [if_pos h2, if_pos (by decide), if_pos h2]
    · rw [if_neg h2, if_neg (by decide), if_neg h2]
      by_cases h3 : a.col < b.col
      · rw [if_pos h3, if_pos (by decide)]
      · rw [if_neg h3]
        by_cases h4 : a.col > b.col
        · rw [if_pos h4, if_pos (by decide)]
        · rw [if_neg h4, if_neg (by decide)]
theorem ordC_lt {a b : Cell} : ordC a b < 0 ↔ a.row < b.row ∨ (a.row = b.row ∧ a.col < b.col) := by
  rw [ordC_def]; repeat' split
  all_goals omega
theorem ordC_ge {a b : Cell} : 0 ≤ ordC a b ↔ b.row < a.row ∨ (b.row = a.row ∧ b.col ≤ a.col) := by
  rw [ordC_def]; repeat' split
  all_goals omega
theorem ordC_eq {a b : Cell} : ordC a b = 0 ↔ a.row = b.row ∧ a.col = b.col := by
  rw [ordC_def]; repeat' split
  all_goals omega
def cellE (c : Cell) (m n : Int) (none : Bool) : Int :=
  if c.row < 0 ∨ m ≤ c.row ∨ c.col < 0 ∨ n ≤ c.col then 2
  else if c.ref < 0 ∨ 1073741824 < c.ref then 2
  else if textG c.text = false then 23
  else if ¬ chkA false c.attrs 0 = 0 then chkA false c.attrs 0
  else if emptyC c = true ∧ none = false then 4 else 0
def cellsE (l : List Cell) (m n : Int) (none : Bool) (i : Nat) : Int :=
  if i < l.length then
    (if ¬ cellE (l.getD i default) m n none = 0 then cellE (l.getD i default) m n none
     else if 0 < i ∧ 0 ≤ ordC (l.getD (i - 1) default) (l.getD i default) then 5 else cellsE l m n none (i + 1))
  else 0
termination_by l.length - i
/-- Strings and lists of a cell are of a size that there can be. -/
def SzC (l : List Cell) : Prop := ∀ c ∈ l, c.text.size ≤ 9223372036854775807 ∧ Szd c.attrs
theorem SzC.at_ {l : List Cell} (h : SzC l) {i : Nat} (hi : i < l.length) : (l.getD i default).text.size ≤ 9223372036854775807 ∧ Szd (l.getD i default).attrs := h _ (getDX_mem hi)
/-! ### Rectangles -/
def anyM (l : List Rect) (r : Rect) : Bool := l.any (fun q => meetB q r)
def mergE (l : List Rect) (m n : Int) (i : Nat) : Int :=
  if i < l.length then
    (if insB (l.getD i default) m n = false then 2
     else if (l.getD i default).h = 1 ∧ (l.getD i default).w = 1 then 4
     else if 0 < i ∧ befB (l.getD (i - 1) default) (l.getD i default) = false then 5
     else if anyM (l.take i) (l.getD i default) = true then 21
     else mergE l m n (i + 1))
  else 0
termination_by l.length - i
def gridE (g : Grid) : Int :=
  if g.rows < 0 ∨ 2147483647 < g.rows ∨ g.cols < 0 ∨ 2147483647 < g.cols then 2
  else if ¬ cellsE g.cells g.rows g.cols false 0 = 0 then cellsE g.cells g.rows g.cols false 0
  else mergE g.merges g.rows g.cols 0
/-- The index of the first element with a property. -/
def idxF {α : Type} [Inhabited α] (p : α → Bool) (l : List α) (i : Nat) : Int := if i < l.length then (if p (l.getD i default) = true then (i : Int) else idxF p l (i + 1)) else -1
termination_by l.length - i
theorem idxF_ge {α : Type} [Inhabited α] (p : α → Bool) {l : List α} : ∀ (n i : Nat), l.length - i = n → (0 ≤ idxF p l i ↔ (l.drop i).any p = true)
  | 0, i, h => by rw [idxF, if_neg (by omega), List.drop_eq_nil_of_le (by omega)]; simp
  | n + 1, i, h => by
    have hi : i < l.length := by omega
    rw [idxF, if_pos hi, drop_succD hi, List.any_cons]
    by_cases hp : p (l.getD i default) = true
    · rw [if_pos hp, hp]; simp
    · rw [if_neg hp, idxF_ge p n (i + 1) (by omega)]
      simp only [Bool.not_eq_true] at hp
      rw [hp, Bool.false_or]
theorem idxF_any {α : Type} [Inhabited α] (p : α → Bool) (l : List α) : (0 ≤ idxF p l 0) = ((l.any p) = true) := propext (by rw [idxF_ge p _ 0 rfl, List.drop_zero])
def AllRB (l : List Rect) : Prop := ∀ q ∈ l, RB q
theorem insB_iff {r : Rect} {m n : Int} : insB r m n = true ↔ 0 ≤ r.row ∧ 0 ≤ r.col ∧ 1 ≤ r.h ∧ 1 ≤ r.w ∧ r.row < m ∧ r.col < n ∧ r.h ≤ m - r.row ∧ r.w ≤ n - r.col := by
  unfold insB; rw [decide_eq_true_eq]
theorem RB_ins {r : Rect} {m n : Int} (h : insB r m n = true) (hm : m ≤ 1000000000000) (hn : n ≤ 1000000000000) : RB r := by
  have := insB_iff.1 h
  unfold RB; omega
theorem befB_iff {a b : Rect} : befB a b = true ↔ a.row < b.row ∨ (a.row = b.row ∧ a.col < b.col) := by unfold befB; rw [decide_eq_true_eq]
theorem bef_f {a b : Rect} : befB a b = false ↔ b.row < a.row ∨ (b.row = a.row ∧ b.col ≤ a.col) := by unfold befB; rw [decide_eq_false_iff_not]; omega
theorem meetB_iff {a b : Rect} : meetB a b = true ↔ a.row < b.row + b.h ∧ b.row < a.row + a.h ∧ a.col < b.col + b.w ∧ b.col < a.col + a.w := by unfold meetB; rw [decide_eq_true_eq]
theorem meetB_comm (a b : Rect) : meetB a b = meetB b a := by
  rw [Bool.eq_iff_iff, meetB_iff, meetB_iff]; omega
/-- All of the first rectangles lie within. -/
def InsTo (l : List Rect) (m n : Int) (i : Nat) : Prop := ∀ k, k < i → insB (l.getD k default) m n = true
theorem InsTo.all {l : List Rect} {m n : Int} {i : Nat} (h : InsTo l m n i) (hi : i ≤ l.length) (hm : m ≤ 1000000000000) (hn : n ≤ 1000000000000) : AllRB (l.take i) := fun q hq => by
  obtain ⟨k, hk, rfl⟩ := List.mem_iff_getElem.1 hq
  have h2 : k < i := by rw [List.length_take] at hk; omega
  have := RB_ins (h k h2) hm hn
  rw [List.getElem_take]
  rwa [List.getD_eq_getElem?_getD, List.getElem?_eq_getElem (by omega)] at this
theorem InsTo.succ {l : List Rect} {m n : Int} {i : Nat} (h : InsTo l m n i) (h2 : insB (l.getD i default) m n = true) : InsTo l m n (i + 1) := fun k hk => by
  by_cases e : k = i
  · rw [e]; exact h2
  · exact h k (by omega)
theorem anyM_take {l : List Rect} {r : Rect} {i : Nat} : anyM (l.take i) r = true ↔ ∃ k, k < i ∧ k < l.length ∧ meetB (l.getD k default) r = true := by
  unfold anyM
  rw [List.any_eq_true]
  constructor
  · rintro ⟨q, hq, hm⟩
    obtain ⟨k, hk, rfl⟩ := List.mem_iff_getElem.1 hq
    rw [List.length_take] at hk
    rw [List.getElem_take] at hm
    refine ⟨k, by omega, by omega, ?_⟩
    rwa [List.getD_eq_getElem?_getD, List.getElem?_eq_getElem (by omega)]
  · rintro ⟨k, h1, h2, hm⟩
    refine ⟨l.getD k default, ?_, hm⟩
    have : (l.take i).getD k default ∈ l.take i := getDX_mem (by rw [List.length_take]; omega)
    rwa [List.getD_eq_getElem?_getD, List.getElem?_take_of_lt h1, ← List.getD_eq_getElem?_getD] at this
end Go.Ch
end
section
namespace Go.Proofs
open Go.Shelf
def Tryd.lays128_ren : Go.Shelf.Ren := ⟨fun | 128 => 96 | n => n, fun | 51 => 145 | 3 => 3 | 4 => 4 | 46 => 119 | 5 => 5 | 9 => 9 | n => n, fun | n => n⟩
def Tryd.lays125_ren : Go.Shelf.Ren := ⟨fun | 125 => 77 | 128 => 96 | 129 => 97 | n => n, fun | 46 => 119 | 3 => 3 | 51 => 145 | 53 => 147 | 4 => 4 | 5 => 5 | 9 => 9 | n => n, fun | n => n⟩
def Tryd.lays215_ren : Go.Shelf.Ren := ⟨fun | 215 => 78 | n => n, fun | 3 => 3 | 4 => 4 | n => n, fun | n => n⟩
def Tryd.lays122_ren : Go.Shelf.Ren := ⟨fun | 122 => 56 | 215 => 78 | n => n, fun | 3 => 3 | 4 => 4 | n => n, fun | n => n⟩
def Tryd.lays129_ren : Go.Shelf.Ren := ⟨fun | 129 => 97 | n => n, fun | 53 => 147 | 3 => 3 | 4 => 4 | 46 => 119 | 5 => 5 | 9 => 9 | n => n, fun | n => n⟩
def Tryd.lays197_ren : Go.Shelf.Ren := ⟨fun | 197 => 98 | 260 => 107 | n => n, fun | 9 => 9 | 21 => 21 | 3 => 3 | 4 => 4 | 5 => 5 | 105 => 148 | 119 => 133 | 0 => 0 | 46 => 119 | 139 => 136 | 138 => 135 | n => n, fun | 3 => 0 | 4 => 1 | n => n⟩
theorem Tryd.lays197 : Go.Proofs.Lays.n197 Tryd.prog Tryd.lays197_ren := {
  mixed := by kernel_rfl
  f197 := Tryd.func98.trans (congrArg some (by kernel_rfl))
  f260 := Tryd.func107.trans (congrArg some (by kernel_rfl))
  t0 := Tryd.underlying0
  a0 := Tryd.isAgg0
  z0 := Tryd.sizeOf0
  v0 := Tryd.zeroValue0
  t3 := Tryd.underlying3
  a3 := Tryd.isAgg3
  z3 := Tryd.sizeOf3
  v3 := Tryd.zeroValue3
  t4 := Tryd.underlying4
  a4 := Tryd.isAgg4
  z4 := Tryd.sizeOf4
  v4 := Tryd.zeroValue4
  t5 := Tryd.underlying5
  a5 := Tryd.isAgg5
  z5 := Tryd.sizeOf5
  v5 := Tryd.zeroValue5
  t9 := Tryd.underlying9
  a9 := Tryd.isAgg9
  z9 := Tryd.sizeOf9
  v9 := Tryd.zeroValue9
  t21 := Tryd.underlying21
  a21 := Tryd.isAgg21
  z21 := Tryd.sizeOf21
  v21 := Tryd.zeroValue21
  t46 := Tryd.underlying119
  a46 := Tryd.isAgg119
  z46 := Tryd.sizeOf119
  v46 := Tryd.zeroValue119
  t105 := Tryd.underlying148
  a105 := Tryd.isAgg148
  z105 := Tryd.sizeOf148
  v105 := Tryd.zeroValue148
  t119 := Tryd.underlying133
  a119 := Tryd.isAgg133
  z119 := Tryd.sizeOf133
  t138 := Tryd.underlying135
  a138 := Tryd.isAgg135
  z138 := Tryd.sizeOf135
  v138 := Tryd.zeroValue135
  t139 := Tryd.underlying136
  a139 := Tryd.isAgg136
  z139 := Tryd.sizeOf136
  v139 := Tryd.zeroValue136
  g3 := by kernel_rfl
  g4 := by kernel_rfl }
def Tryd.lays260_ren : Go.Shelf.Ren := ⟨fun | 260 => 107 | n => n, fun | 9 => 9 | 21 => 21 | 3 => 3 | 4 => 4 | 5 => 5 | 119 => 133 | 0 => 0 | 46 => 119 | 139 => 136 | 138 => 135 | n => n, fun | 3 => 0 | 4 => 1 | n => n⟩
theorem Tryd.lays260 : Go.Proofs.Lays.n260 Tryd.prog Tryd.lays260_ren := {
  mixed := by kernel_rfl
  f260 := Tryd.func107.trans (congrArg some (by kernel_rfl))
  t0 := Tryd.underlying0
  a0 := Tryd.isAgg0
  z0 := Tryd.sizeOf0
  v0 := Tryd.zeroValue0
  t3 := Tryd.underlying3
  a3 := Tryd.isAgg3
  z3 := Tryd.sizeOf3
  v3 := Tryd.zeroValue3
  t4 := Tryd.underlying4
  a4 := Tryd.isAgg4
  z4 := Tryd.sizeOf4
  v4 := Tryd.zeroValue4
  t5 := Tryd.underlying5
  a5 := Tryd.isAgg5
  z5 := Tryd.sizeOf5
  v5 := Tryd.zeroValue5
  t9 := Tryd.underlying9
  a9 := Tryd.isAgg9
  z9 := Tryd.sizeOf9
  v9 := Tryd.zeroValue9
  t21 := Tryd.underlying21
  a21 := Tryd.isAgg21
  z21 := Tryd.sizeOf21
  v21 := Tryd.zeroValue21
  t46 := Tryd.underlying119
  a46 := Tryd.isAgg119
  z46 := Tryd.sizeOf119
  v46 := Tryd.zeroValue119
  t119 := Tryd.underlying133
  a119 := Tryd.isAgg133
  z119 := Tryd.sizeOf133
  t138 := Tryd.underlying135
  a138 := Tryd.isAgg135
  z138 := Tryd.sizeOf135
  v138 := Tryd.zeroValue135
  t139 := Tryd.underlying136
  a139 := Tryd.isAgg136
  z139 := Tryd.sizeOf136
  v139 := Tryd.zeroValue136
  g3 := by kernel_rfl
  g4 := by kernel_rfl }
open Go.RowKit Go.Lib in
/-- **unicode/utf8.DecodeRuneInString AT EVERY STRING.** (LAID: no walk: one application.) -/
theorem Tryd.utf8_DecodeRuneInString (s : ByteArray) (w : World) (hT : Lib.Utf8Tabs 0 1 w) :
    Calls Tryd.prog 98 #[.string s] w fun e w' => e = .returned (.tuple #[.int .i32 (Lib.decodeGo s).1, .int .i64 (Lib.decodeGo s).2]) ∧ Below w.heap.size w w' := Any.utf8_DecodeRuneInString Tryd.lays197 s w hT
def Tryd.laysNm237_ren : Go.Shelf.Ren := ⟨fun | 37 => 78 | n => n, fun | 3 => 3 | 4 => 4 | n => n, fun | n => n⟩
theorem Tryd.laysNm237 : Go.Proofs.Lays2.n37 Tryd.prog Tryd.laysNm237_ren := {
  mixed := by kernel_rfl
  f37 := Tryd.func78.trans (congrArg some (by kernel_rfl))
  t3 := Tryd.underlying3
  a3 := Tryd.isAgg3
  z3 := Tryd.sizeOf3
  v3 := Tryd.zeroValue3
  t4 := Tryd.underlying4
  a4 := Tryd.isAgg4
  z4 := Tryd.sizeOf4
  v4 := Tryd.zeroValue4 }
open Go.RowKit Go.Lib in
/-- cmp.isNaN[int]: 'x != x': false. (LAID: no walk: one application.) -/
theorem Tryd.cmp_isNaN_int2 (x : Int) (w : World) :
    Calls Tryd.prog 78 #[.int .i64 x] w fun e w' => e = .returned (.bool false) ∧ w' = w := Any.cmp_isNaN_int2 Tryd.laysNm237 x w
def Tryd.laysValid_ren : Go.Shelf.Ren := ⟨fun | 196 => 65 | 259 => 87 | n => n, fun | 9 => 9 | 4 => 4 | 3 => 3 | 5 => 5 | 12 => 12 | 119 => 133 | 0 => 0 | 46 => 119 | 139 => 136 | 138 => 135 | 53 => 147 | n => n, fun | 3 => 0 | 4 => 1 | n => n⟩
theorem Tryd.laysValid : Go.Proofs.Lays.n196 Tryd.prog Tryd.laysValid_ren := {
  mixed := by kernel_rfl
  f196 := Tryd.func65.trans (congrArg some (by kernel_rfl))
  f259 := Tryd.func87.trans (congrArg some (by kernel_rfl))
  t0 := Tryd.underlying0
  a0 := Tryd.isAgg0
  z0 := Tryd.sizeOf0
  v0 := Tryd.zeroValue0
  t3 := Tryd.underlying3
  a3 := Tryd.isAgg3
  z3 := Tryd.sizeOf3
  v3 := Tryd.zeroValue3
  t4 := Tryd.underlying4
  a4 := Tryd.isAgg4
  z4 := Tryd.sizeOf4
  v4 := Tryd.zeroValue4
  t5 := Tryd.underlying5
  a5 := Tryd.isAgg5
  z5 := Tryd.sizeOf5
  v5 := Tryd.zeroValue5
  t9 := Tryd.underlying9
  a9 := Tryd.isAgg9
  z9 := Tryd.sizeOf9
  v9 := Tryd.zeroValue9
  t12 := Tryd.underlying12
  a12 := Tryd.isAgg12
  z12 := Tryd.sizeOf12
  v12 := Tryd.zeroValue12
  t46 := Tryd.underlying119
  a46 := Tryd.isAgg119
  z46 := Tryd.sizeOf119
  v46 := Tryd.zeroValue119
  t53 := Tryd.underlying147
  a53 := Tryd.isAgg147
  z53 := Tryd.sizeOf147
  v53 := Tryd.zeroValue147
  t119 := Tryd.underlying133
  a119 := Tryd.isAgg133
  z119 := Tryd.sizeOf133
  t138 := Tryd.underlying135
  a138 := Tryd.isAgg135
  z138 := Tryd.sizeOf135
  v138 := Tryd.zeroValue135
  t139 := Tryd.underlying136
  a139 := Tryd.isAgg136
  z139 := Tryd.sizeOf136
  v139 := Tryd.zeroValue136
  g3 := by kernel_rfl
  g4 := by kernel_rfl }
def Tryd.sortQ_ren : Go.Shelf.Ren := ⟨fun | 6 => 53 | 15 => 77 | 14 => 76 | 28 => 96 | 29 => 97 | 20 => 88 | 21 => 89 | 22 => 90 | 23 => 91 | 24 => 92 | 25 => 93 | 26 => 94 | 27 => 95 | 46 => 102 | 47 => 103 | 48 => 104 | 49 => 105 | 50 => 106 | 57 => 110 | n => n, fun | 22 => 23 | 24 => 39 | 25 => 100 | 3 => 3 | 39 => 119 | 0 => 0 | 53 => 145 | 55 => 147 | 4 => 4 | 46 => 139 | 45 => 138 | 50 => 72 | 5 => 5 | 9 => 9 | 66 => 151 | 70 => 155 | 76 => 157 | 77 => 87 | n => n, fun | n => n⟩
theorem Tryd.sortQ : Go.Proofs.SlLaysF0.n6 Tryd.prog Tryd.sortQ_ren := {
  mixed := by kernel_rfl
  f6 := ⟨Tryd.f53.name, by decide, Tryd.func53.trans (congrArg some (by kernel_rfl))⟩
  f14 := ⟨Tryd.f76.name, by decide, Tryd.func76.trans (congrArg some (by kernel_rfl))⟩
  f15 := Tryd.func77.trans (congrArg some (by kernel_rfl))
  f20 := ⟨Tryd.f88.name, by decide, Tryd.func88.trans (congrArg some (by kernel_rfl))⟩
  f21 := ⟨Tryd.f89.name, by decide, Tryd.func89.trans (congrArg some (by kernel_rfl))⟩
  f22 := ⟨Tryd.f90.name, by decide, Tryd.func90.trans (congrArg some (by kernel_rfl))⟩
  f23 := ⟨Tryd.f91.name, by decide, Tryd.func91.trans (congrArg some (by kernel_rfl))⟩
  f24 := ⟨Tryd.f92.name, by decide, Tryd.func92.trans (congrArg some (by kernel_rfl))⟩
  f25 := ⟨Tryd.f93.name, by decide, Tryd.func93.trans (congrArg some (by kernel_rfl))⟩
  f26 := ⟨Tryd.f94.name, by decide, Tryd.func94.trans (congrArg some (by kernel_rfl))⟩
  f27 := ⟨Tryd.f95.name, by decide, Tryd.func95.trans (congrArg some (by kernel_rfl))⟩
  f28 := Tryd.func96.trans (congrArg some (by kernel_rfl))
  f29 := Tryd.func97.trans (congrArg some (by kernel_rfl))
  f46 := ⟨Tryd.f102.name, by decide, Tryd.func102.trans (congrArg some (by kernel_rfl))⟩
  f47 := Tryd.func103.trans (congrArg some (by kernel_rfl))
  f48 := Tryd.func104.trans (congrArg some (by kernel_rfl))
  f49 := ⟨Tryd.f105.name, by decide, Tryd.func105.trans (congrArg some (by kernel_rfl))⟩
  f50 := ⟨Tryd.f106.name, by decide, Tryd.func106.trans (congrArg some (by kernel_rfl))⟩
  f57 := ⟨Tryd.f110.name, by decide, Tryd.func110.trans (congrArg some (by kernel_rfl))⟩
  t0 := Tryd.underlying0
  a0 := Tryd.isAgg0
  z0 := Tryd.sizeOf0
  v0 := Tryd.zeroValue0
  t3 := Tryd.underlying3
  a3 := Tryd.isAgg3
  z3 := Tryd.sizeOf3
  v3 := Tryd.zeroValue3
  t4 := Tryd.underlying4
  a4 := Tryd.isAgg4
  z4 := Tryd.sizeOf4
  v4 := Tryd.zeroValue4
  t5 := Tryd.underlying5
  a5 := Tryd.isAgg5
  z5 := Tryd.sizeOf5
  v5 := Tryd.zeroValue5
  t9 := Tryd.underlying9
  a9 := Tryd.isAgg9
  z9 := Tryd.sizeOf9
  v9 := Tryd.zeroValue9
  t22 := Tryd.underlying23
  a22 := Tryd.isAgg23
  z22 := Tryd.sizeOf23
  v22 := Tryd.zeroValue23
  t25 := Tryd.underlying100
  a25 := Tryd.isAgg100
  z25 := Tryd.sizeOf100
  v25 := Tryd.zeroValue100
  t39 := Tryd.underlying119
  a39 := Tryd.isAgg119
  z39 := Tryd.sizeOf119
  v39 := Tryd.zeroValue119
  t45 := Tryd.underlying138
  a45 := Tryd.isAgg138
  z45 := Tryd.sizeOf138
  v45 := Tryd.zeroValue138
  t46 := Tryd.underlying139
  a46 := Tryd.isAgg139
  z46 := Tryd.sizeOf139
  v46 := Tryd.zeroValue139
  t50 := Tryd.underlying72
  a50 := Tryd.isAgg72
  z50 := Tryd.sizeOf72
  v50 := Tryd.zeroValue72
  t53 := Tryd.underlying145
  a53 := Tryd.isAgg145
  z53 := Tryd.sizeOf145
  v53 := Tryd.zeroValue145
  t55 := Tryd.underlying147
  a55 := Tryd.isAgg147
  z55 := Tryd.sizeOf147
  v55 := Tryd.zeroValue147
  t66 := Tryd.underlying151
  a66 := Tryd.isAgg151
  z66 := Tryd.sizeOf151
  v66 := Tryd.zeroValue151
  t70 := Tryd.underlying155
  a70 := Tryd.isAgg155
  z70 := Tryd.sizeOf155
  v70 := Tryd.zeroValue155
  t76 := Tryd.underlying157
  a76 := Tryd.isAgg157
  z76 := Tryd.sizeOf157
  v76 := Tryd.zeroValue157
  t77 := Tryd.underlying87
  a77 := Tryd.isAgg87
  z77 := Tryd.sizeOf87
  v77 := Tryd.zeroValue87 }
end Go.Proofs
end
section
set_option linter.unusedVariables false
set_option linter.unusedSimpArgs false
set_option maxRecDepth 100000
set_option maxHeartbeats 4000000
open Go Go.Proofs Go.Ab
namespace Go.Ch
theorem fc_decG (s : ByteArray) : FC Tryd.prog 98 [VS s] (app emp []) (.tup [.t (.sc (.int .i32 (decR s))), VI (decW s : Int)]) (app emp []) := by
  refine FC.ofTab (us := [.string s]) (v := .tuple #[.int .i32 (Lib.decodeGo s).1, .int .i64 (Lib.decodeGo s).2]) (fun st m w ok xs hl hv => ?_) (fun st m w ok => ?_) (fun w hT => ?_)
  · match xs, hl with
    | [x], _ =>
      have := VRel.sc_inv (hv 0 _ _ rfl rfl)
      rw [this]
  · refine .tup _ [.int .i32 (Lib.decodeGo s).1, .int .i64 (Lib.decodeGo s).2] rfl (fun i v u h1 h2 => ?_)
    match i with
    | 0 => cases h1; cases h2; exact .t _ _ (.sc _ rfl)
    | 1 => cases h1; cases h2; exact .t _ _ (.sc _ rfl)
    | i + 2 => cases h1
  · exact Tryd.utf8_DecodeRuneInString s w (hT 0 1 (by kernel_rfl) (by kernel_rfl))
theorem fc_validS (s : ByteArray) (hs : s.size ≤ 9223372036854775807) : FC Tryd.prog 65 [VS s] (app emp []) (VB (Lib.validD s.data.toList)) (app emp []) := by
  refine FC.ofTab (us := [.string s]) (v := .bool (Lib.validD s.data.toList)) (fun st m w ok xs hl hv => ?_) (fun st m w ok => .t _ _ (.sc _ rfl)) (fun w hT => ?_)
  · match xs, hl with
    | [x], _ =>
      have := VRel.sc_inv (hv 0 _ _ rfl rfl)
      rw [this]
  · exact Any.utf8_ValidString Tryd.laysValid s w hs (hT 0 1 (by kernel_rfl) (by kernel_rfl))
end Go.Ch
end
section
set_option linter.unusedVariables false
set_option linter.unusedSimpArgs false
set_option maxRecDepth 100000
set_option maxHeartbeats 4000000
open Go Go.Proofs Go.Ab
namespace Go.Ch
theorem fc_text (s : ByteArray) : FC Tryd.prog 79 [VS s] (app emp []) (VB (textG s)) (app emp []) := by
 refine .go Tryd.f79 ?_
 refine .loop (α := ByteArray) [.r []] 8 (fun u => ([(0, VS u)], [])) (fun u => textG s = textG u) (fun u => u.size) (s : ByteArray) ?_ ?_
 ·
  rfl
 rintro u I1 ih1
 replace I1 : textG s = textG u := I1
 refine .br [.r []] (!(seq u ({ data := #[] }))) (fun h1 => ?_) (fun h1 => ?_)
 ·
  (try simp only [Bool.not_eq_true', Bool.not_eq_false'] at h1)
  rw [seq_mt, decide_eq_false_iff_not] at h1
  have hu : 0 < u.size := by omega
  have hw := decW_bd hu
  have hr := decR_bd u
  refine .br [.r [(1, X (Xc0 (fc_decG u) X0))], .r [(4, Xv 1 ((decR u) == 65533) X0), (5, X (Xk ((decR u) == 65533))), (8, Xv 1 (!(((decR u) == 65533) && ((decW u : Int) == 1))) X0), (9, X (Xk' (((decR u) == 65533) && ((decW u : Int) == 1)))), (12, Xv 1 (!((((decR u) == 65533) && ((decW u : Int) == 1)) || ((decR u) == 10))) (Xn (decR u))), (13, Xv 1 (!((((decR u) == 65533) && ((decW u : Int) == 1)) || ((decR u) == 10))) (Xc0 (fc_char (decR u)) X0)), (14, Xv 1 (!((((decR u) == 65533) && ((decW u : Int) == 1)) || ((decR u) == 10))) X0), (15, X (Xk' ((((decR u) == 65533) && ((decW u : Int) == 1)) || ((decR u) == 10))))]] (((((decR u) == 65533) && ((decW u : Int) == 1)) || ((decR u) == 10)) || !(decide (CharP (decR u)))) (fun h3 => ?_) (fun h3 => ?_)
  ·
   (try simp only [decide_eq_true_eq, decide_eq_false_iff_not, Int.not_lt, Int.not_le, Bool.not_eq_true', Bool.not_eq_false', Bool.and_eq_true, Bool.and_eq_false_iff, Bool.or_eq_true, Bool.or_eq_false_iff, beq_iff_eq, beq_eq_false_iff_ne, ne_eq] at h3)
   have hb : badT u := by rcases h3 with (h | h) | h; (exact .inl ⟨h.1, by omega⟩); (exact .inr (.inl h)); (exact .inr (.inr h))
   have e1 : ((textG s) : Bool) = false := by
    rw [I1, textG_bad hu hb]
   exact .finE [.r []] [] (fun z0 => (VB z0, [])) (false : Bool) ((textG s) : Bool) e1
  ·
   (try simp only [decide_eq_true_eq, decide_eq_false_iff_not, Int.not_lt, Int.not_le, Bool.not_eq_true', Bool.not_eq_false', Bool.and_eq_true, Bool.and_eq_false_iff, Bool.or_eq_true, Bool.or_eq_false_iff, beq_iff_eq, beq_eq_false_iff_ne, ne_eq] at h3)
   have hb : ¬ badT u := by rintro (q | q | q); (rcases h3.1.1 with h | h; (exact h q.1); (exact h (by omega))); (exact h3.1.2 q); (exact q h3.2)
   refine .back [.r [(2, X (Xa (Xc ((0:Int) ≤ (decW u : Int))) (Xa (Xc (((decW u : Int) : Int) ≤ (u.size : Int))) (Xc (((u.size : Int) : Int) ≤ (u.size : Int))))))]] [] (ih1 ((u.extract (((decW u : Int) : Int)).toNat (((u.size : Int) : Int)).toNat) : ByteArray) ?_ ?_)
   ·
    rw [I1, textG_go hu hb]
    rfl
   ·
    show (u.extract (decW u) u.size).size < u.size
    rw [ByteArray.size_extract]; omega
 ·
  (try simp only [Bool.not_eq_true', Bool.not_eq_false'] at h1)
  have e2 : ((textG s) : Bool) = true := by
   rw [seq_mt, decide_eq_true_eq] at h1
   rw [I1, textG_end (by omega)]
  exact .finE [.r []] [] (fun z0 => (VB z0, [])) (true : Bool) ((textG s) : Bool) e2

theorem fc_cellText (s : ByteArray) (hs : s.size ≤ 9223372036854775807) : FC Tryd.prog 37 [VS s] (app emp []) (VB (textG s)) (app emp []) := by
 refine .go Tryd.f37 ?_
 refine .br [.r [], .r [(1, X (Xc0 (fc_validS s (by assumption)) X0))]] (!(Lib.validD (s).data.toList)) (fun h1 => ?_) (fun h1 => ?_)
 ·
  (try simp only [Bool.not_eq_true', Bool.not_eq_false'] at h1)
  have e1 : ((textG s) : Bool) = false := by
   rw [text_valid _ s rfl (by assumption)]
  exact .finE [.r []] [] (fun z0 => (VB z0, [])) (false : Bool) ((textG s) : Bool) e1
 ·
  (try simp only [Bool.not_eq_true', Bool.not_eq_false'] at h1)
  refine .loop (α := Nat) [.r []] 48 (fun p => ([(9, .hdl 40)], [(40, .siter s p)])) (fun p => CtI s p) (fun p => s.size - p) (0 : Nat) ?_ ?_
  ·
   exact CtI.start (by assumption)
  rintro p I4 ih4
  replace I4 : CtI s p := I4
  by_cases hp : p < s.size
  ·
   obtain ⟨n1, n2, n3, n4, n5, n6⟩ := I4.next hp
   refine .br [.r [(0, X (Xnx s p))], .t, .r [], .r [(4, Xv 1 (!(((Utf8.decode s p).1 : Int) == 10)) (Xn ((Utf8.decode s p).1 : Int))), (5, Xv 1 (!(((Utf8.decode s p).1 : Int) == 10)) (Xc0 (fc_charR ((Utf8.decode s p).1 : Int)) X0)), (6, Xv 1 (!(((Utf8.decode s p).1 : Int) == 10)) X0), (7, X (Xk' (((Utf8.decode s p).1 : Int) == 10)))]] ((((Utf8.decode s p).1 : Int) == 10) || !(decide (CharP ((Utf8.decode s p).1 : Int)))) (fun h6 => ?_) (fun h6 => ?_)
   ·
    (try simp only [decide_eq_true_eq, decide_eq_false_iff_not, Int.not_lt, Int.not_le, Bool.not_eq_true', Bool.not_eq_false', Bool.or_eq_true, Bool.or_eq_false_iff, beq_iff_eq, beq_eq_false_iff_ne, ne_eq] at h6)
    have e2 : ((textG s) : Bool) = false := by
     exact n5 (by first | exact h6 | (simpa using h6))
    exact .finE [.r []] [] (fun z0 => (VB z0, [])) (false : Bool) ((textG s) : Bool) e2
   ·
    (try simp only [decide_eq_true_eq, decide_eq_false_iff_not, Int.not_lt, Int.not_le, Bool.not_eq_true', Bool.not_eq_false', Bool.or_eq_true, Bool.or_eq_false_iff, beq_iff_eq, beq_eq_false_iff_ne, ne_eq] at h6)
    refine .back [] [(40, 40)] (ih4 ((p + (Utf8.decode s p).2) : Nat) ?_ ?_)
    ·
     exact n6 (by first | exact h6.1 | (simpa using h6.1)) (by first | exact h6.2 | (simpa using h6.2))
    ·
     ((try dsimp only); omega)
  ·
   have e3 : ((textG s) : Bool) = true := by
    exact I4.done hp
   exact .finE [.r [(0, X (Xov s p))], .f, .r []] [] (fun z0 => (VB z0, [])) (true : Bool) ((textG s) : Bool) e3
end Go.Ch
end
section
set_option linter.unusedVariables false
set_option linter.unusedSimpArgs false
set_option maxRecDepth 100000
set_option maxHeartbeats 4000000
open Go Go.Proofs Go.Ab
namespace Go.Ch
theorem fc_cells (l : List Cell) (m n : Int) (o : Bool) : FC Tryd.prog 58 [VL 5 cellT l, VI m, VI n, VB o] (app emp []) (VI (cellsE l m n o 0)) (app emp []) := by
 refine .go Tryd.f58 ?_
 refine .len 0 (fun hl0 => ?_)
 refine .loop (α := Nat) [.r [], .r [(1, X (Xl cellT l))]] 32 (fun i => ([(0, VL 5 cellT l), (1, VI m), (2, VI n), (3, VB o), (12, VL 5 cellT l), (13, VI (l.length : Int)), (14, VI (i : Int))], [])) (fun i => i ≤ l.length ∧ cellsE l m n o 0 = cellsE l m n o i) (fun i => l.length - i) (0 : Nat) ?_ ?_
 ·
  exact ⟨by omega, rfl⟩
 rintro i I2 ih2
 try dsimp only at I2
 refine .br [.r []] (decide ((i : Int) < (l.length : Int))) (fun h2 => ?_) (fun h2 => ?_)
 ·
  (try simp only [decide_eq_true_eq, decide_eq_false_iff_not, Int.not_lt, Int.not_le] at h2)
  have hx : cellsE l m n o i = _ := cellsE.eq_1 l m n o i
  rw [if_pos (by omega)] at hx
  unfold cellE at hx
  refine .br [.r [(1, X (Xi cellT l (i : Int)))], .r [(5, Xv 1 (!(decide ((((l.getD i default)).row) < 0))) X0), (7, Xv 2 (!(decide ((((l.getD i default)).row) < 0))) X0), (8, X (Xk' (decide ((((l.getD i default)).row) < 0)))), (11, Xv 1 (!(decide ((((l.getD i default)).row) < 0) || decide ((((l.getD i default)).row) ≥ m))) X0), (12, Xv 1 (!(decide ((((l.getD i default)).row) < 0) || decide ((((l.getD i default)).row) ≥ m))) X0), (13, X (Xk' (decide ((((l.getD i default)).row) < 0) || decide ((((l.getD i default)).row) ≥ m)))), (16, Xv 1 (!((decide ((((l.getD i default)).row) < 0) || decide ((((l.getD i default)).row) ≥ m)) || decide ((((l.getD i default)).col) < 0))) X0), (18, Xv 2 (!((decide ((((l.getD i default)).row) < 0) || decide ((((l.getD i default)).row) ≥ m)) || decide ((((l.getD i default)).col) < 0))) X0), (19, X (Xk' ((decide ((((l.getD i default)).row) < 0) || decide ((((l.getD i default)).row) ≥ m)) || decide ((((l.getD i default)).col) < 0))))]] (((decide ((((l.getD i default)).row) < 0) || decide ((((l.getD i default)).row) ≥ m)) || decide ((((l.getD i default)).col) < 0)) || decide ((((l.getD i default)).col) ≥ n)) (fun h4 => ?_) (fun h4 => ?_)
  ·
   (try simp only [decide_eq_true_eq, decide_eq_false_iff_not, Int.not_lt, Int.not_le, ge_iff_le, Bool.or_eq_true, Bool.or_eq_false_iff] at h4)
   have e1 : ((cellsE l m n o 0) : Int) = 2 := by
    first | (rw [I2.2, hx]; ((repeat' split) <;> first | rfl | omega | (simp_all; done) | (simp_all; omega))) | (rw [I2.2, cellsE, if_neg (by omega)])
   exact .finE [.r []] [] (fun z0 => (VI z0, [])) (2 : Int) ((cellsE l m n o 0) : Int) e1
  ·
   (try simp only [decide_eq_true_eq, decide_eq_false_iff_not, Int.not_lt, Int.not_le, ge_iff_le, Bool.or_eq_true, Bool.or_eq_false_iff] at h4)
   refine .br [.r [(5, Xv 1 (!(decide ((((l.getD i default)).ref) < 0))) X0), (6, Xv 1 (!(decide ((((l.getD i default)).ref) < 0))) X0), (7, X (Xk' (decide ((((l.getD i default)).ref) < 0))))]] (decide ((((l.getD i default)).ref) < 0) || decide ((((l.getD i default)).ref) > 1073741824)) (fun h6 => ?_) (fun h6 => ?_)
   ·
    (try simp only [decide_eq_true_eq, decide_eq_false_iff_not, Int.not_lt, Int.not_le, gt_iff_lt, Bool.or_eq_true, Bool.or_eq_false_iff] at h6)
    have e2 : ((cellsE l m n o 0) : Int) = 2 := by
     first | (rw [I2.2, hx]; ((repeat' split) <;> first | rfl | omega | (simp_all; done) | (simp_all; omega))) | (rw [I2.2, cellsE, if_neg (by omega)])
    exact .finE [.r []] [] (fun z0 => (VI z0, [])) (2 : Int) ((cellsE l m n o 0) : Int) e2
   ·
    (try simp only [decide_eq_true_eq, decide_eq_false_iff_not, Int.not_lt, Int.not_le, gt_iff_lt, Bool.or_eq_true, Bool.or_eq_false_iff] at h6)
    refine .br [.r [(2, X (Xc0 (fc_text (((l.getD i default)).text)) X0))]] (!(textG (((l.getD i default)).text))) (fun h8 => ?_) (fun h8 => ?_)
    ·
     (try simp only [Bool.not_eq_true', Bool.not_eq_false'] at h8)
     have e3 : ((cellsE l m n o 0) : Int) = 23 := by
      first | (rw [I2.2, hx]; ((repeat' split) <;> first | rfl | omega | (simp_all; done) | (simp_all; omega))) | (rw [I2.2, cellsE, if_neg (by omega)])
     exact .finE [.r []] [] (fun z0 => (VI z0, [])) (23 : Int) ((cellsE l m n o 0) : Int) e3
    ·
     (try simp only [Bool.not_eq_true', Bool.not_eq_false'] at h8)
     refine .br [.r [(2, X (Xc0 (fc_acheck (((l.getD i default)).attrs)) X0))], .r []] ((chkA false (((l.getD i default)).attrs) 0) != 0) (fun h11 => ?_) (fun h11 => ?_)
     ·
      (try simp only [bne_iff_ne, bne_eq_false_iff_eq, ne_eq] at h11)
      have e4 : ((cellsE l m n o 0) : Int) = (chkA false (((l.getD i default)).attrs) 0) := by
       first | (rw [I2.2, hx]; ((repeat' split) <;> first | rfl | omega | (simp_all; done) | (simp_all; omega))) | (rw [I2.2, cellsE, if_neg (by omega)])
      exact .finE [.r []] [] (fun z0 => (VI z0, [])) ((chkA false (((l.getD i default)).attrs) 0) : Int) ((cellsE l m n o 0) : Int) e4
     ·
      (try simp only [bne_iff_ne, bne_eq_false_iff_eq, ne_eq] at h11)
      refine .br [.r [(1, X (Xc0 (fc_empty ((l.getD i default))) X0)), (4, Xv 1 (emptyC ((l.getD i default))) X0), (5, X (Xk (emptyC ((l.getD i default)))))]] ((emptyC ((l.getD i default))) && !o) (fun h13 => ?_) (fun h13 => ?_)
      ·
       (try simp only [Bool.not_eq_true', Bool.not_eq_false', Bool.and_eq_true, Bool.and_eq_false_iff] at h13)
       have e5 : ((cellsE l m n o 0) : Int) = 4 := by
        first | (rw [I2.2, hx]; ((repeat' split) <;> first | rfl | omega | (simp_all; done) | (simp_all; omega))) | (rw [I2.2, cellsE, if_neg (by omega)])
       exact .finE [.r []] [] (fun z0 => (VI z0, [])) (4 : Int) ((cellsE l m n o 0) : Int) e5
      ·
       (try simp only [Bool.not_eq_true', Bool.not_eq_false', Bool.and_eq_true, Bool.and_eq_false_iff] at h13)
       refine .br [.r [(5, Xv 1 (decide ((i : Int) > 0)) (Xn ((i : Int) - 1))), (6, Xv 2 (decide ((i : Int) > 0)) (Xi' cellT l ((i : Int) - 1) (i - 1))), (7, Xv 1 (decide ((i : Int) > 0)) X0), (9, Xv 2 (decide ((i : Int) > 0)) (Xc0 (fc_order ((l.getD (i - 1) default)) ((l.getD i default))) X0)), (10, Xv 1 (decide ((i : Int) > 0)) X0), (11, X (Xk (decide ((i : Int) > 0))))]] (decide ((i : Int) > 0) && decide ((ordC ((l.getD (i - 1) default)) ((l.getD i default))) ≥ 0)) (fun h15 => ?_) (fun h15 => ?_)
       ·
        (try simp only [decide_eq_true_eq, decide_eq_false_iff_not, Int.not_lt, Int.not_le, gt_iff_lt, ge_iff_le, Bool.and_eq_true, Bool.and_eq_false_iff, Bool.not_eq_true', Bool.not_eq_false'] at h15)
        have e6 : ((cellsE l m n o 0) : Int) = 5 := by
         first | (rw [I2.2, hx]; ((repeat' split) <;> first | rfl | omega | (simp_all; done) | (simp_all; omega))) | (rw [I2.2, cellsE, if_neg (by omega)])
        exact .finE [.r []] [] (fun z0 => (VI z0, [])) (5 : Int) ((cellsE l m n o 0) : Int) e6
       ·
        (try simp only [decide_eq_true_eq, decide_eq_false_iff_not, Int.not_lt, Int.not_le, gt_iff_lt, ge_iff_le, Bool.and_eq_true, Bool.and_eq_false_iff, Bool.not_eq_true', Bool.not_eq_false'] at h15)
        refine .back [.r [(0, X (Xn ((i : Int) + 1)))]] [] (ih2 ((i + 1) : Nat) ?_ ?_)
        ·
         refine ⟨by omega, ?_⟩
         rw [I2.2, hx]
         ((repeat' split) <;> first | rfl | omega | (simp_all; done) | (simp_all; omega))
        ·
         ((try dsimp only); omega)
 ·
  (try simp only [decide_eq_true_eq, decide_eq_false_iff_not, Int.not_lt, Int.not_le] at h2)
  have e7 : ((cellsE l m n o 0) : Int) = 0 := by
   first | (rw [I2.2, hx]; ((repeat' split) <;> first | rfl | omega | (simp_all; done) | (simp_all; omega))) | (rw [I2.2, cellsE, if_neg (by omega)])
  exact .finE [.r []] [] (fun z0 => (VI z0, [])) (0 : Int) ((cellsE l m n o 0) : Int) e7

theorem fc_cellsE (l : List Cell) (m n : Int) (o : Bool) (hz : SzC l) (hm : 0 ≤ m ∧ m ≤ 1000000000000) (hn : 0 ≤ n ∧ n ≤ 1000000000000) : FC Tryd.prog 18 [VL 5 cellT l, VI m, VI n, VB o] (app emp []) (VI (cellsE l m n o 0)) (app emp []) := by
 refine .go Tryd.f18 ?_
 refine .len 0 (fun hl0 => ?_)
 refine .loop (α := Nat) [.r [], .r [(1, X (Xl cellT l))]] 32 (fun i => ([(0, VL 5 cellT l), (1, VI m), (2, VI n), (3, VB o), (13, VI (l.length : Int)), (14, VI (i : Int))], [])) (fun i => i ≤ l.length ∧ cellsE l m n o 0 = cellsE l m n o i) (fun i => l.length - i) (0 : Nat) ?_ ?_
 ·
  exact ⟨by omega, rfl⟩
 rintro i I2 ih2
 try dsimp only at I2
 refine .br [.r []] (decide ((i : Int) < (l.length : Int))) (fun h2 => ?_) (fun h2 => ?_)
 ·
  (try simp only [decide_eq_true_eq, decide_eq_false_iff_not, Int.not_lt, Int.not_le] at h2)
  have hx : cellsE l m n o i = _ := cellsE.eq_1 l m n o i
  rw [if_pos (by omega)] at hx
  unfold cellE at hx
  obtain ⟨z1, z2⟩ := hz.at_ (i := i) (by omega)
  have z3 := errA_eq false (l.getD i default).attrs _ 0 rfl
  have hog : ∀ a b : Cell, (0 ≤ ordC a b) = (b.row < a.row ∨ (b.row = a.row ∧ b.col ≤ a.col)) := fun a b => propext ordC_ge
  simp only [hog] at hx
  rw [← z3] at hx
  refine .br [.r [], .r [(2, X (Xi cellT l (i : Int)))], .r [(3, X (Xn (m - 1))), (4, X (Xc0 (fc_in (((l.getD i default)).row) 0 (m - 1)) X0)), (8, Xv 1 (!(!(decide (0 ≤ (((l.getD i default)).row) ∧ (((l.getD i default)).row) ≤ (m - 1))))) X0), (10, Xv 1 (!(!(decide (0 ≤ (((l.getD i default)).row) ∧ (((l.getD i default)).row) ≤ (m - 1))))) (Xn (n - 1))), (11, Xv 2 (!(!(decide (0 ≤ (((l.getD i default)).row) ∧ (((l.getD i default)).row) ≤ (m - 1))))) (Xc0 (fc_in (((l.getD i default)).col) 0 (n - 1)) X0)), (12, Xv 1 (!(!(decide (0 ≤ (((l.getD i default)).row) ∧ (((l.getD i default)).row) ≤ (m - 1))))) X0), (13, X (Xk' (!(decide (0 ≤ (((l.getD i default)).row) ∧ (((l.getD i default)).row) ≤ (m - 1)))))), (16, Xv 1 (!(!(decide (0 ≤ (((l.getD i default)).row) ∧ (((l.getD i default)).row) ≤ (m - 1))) || !(decide (0 ≤ (((l.getD i default)).col) ∧ (((l.getD i default)).col) ≤ (n - 1))))) X0), (17, Xv 1 (!(!(decide (0 ≤ (((l.getD i default)).row) ∧ (((l.getD i default)).row) ≤ (m - 1))) || !(decide (0 ≤ (((l.getD i default)).col) ∧ (((l.getD i default)).col) ≤ (n - 1))))) (Xc0 (fc_in (((l.getD i default)).ref) 0 1073741824) X0)), (18, Xv 1 (!(!(decide (0 ≤ (((l.getD i default)).row) ∧ (((l.getD i default)).row) ≤ (m - 1))) || !(decide (0 ≤ (((l.getD i default)).col) ∧ (((l.getD i default)).col) ≤ (n - 1))))) X0), (19, X (Xk' (!(decide (0 ≤ (((l.getD i default)).row) ∧ (((l.getD i default)).row) ≤ (m - 1))) || !(decide (0 ≤ (((l.getD i default)).col) ∧ (((l.getD i default)).col) ≤ (n - 1))))))]] ((!(decide (0 ≤ (((l.getD i default)).row) ∧ (((l.getD i default)).row) ≤ (m - 1))) || !(decide (0 ≤ (((l.getD i default)).col) ∧ (((l.getD i default)).col) ≤ (n - 1)))) || !(decide (0 ≤ (((l.getD i default)).ref) ∧ (((l.getD i default)).ref) ≤ 1073741824))) (fun h5 => ?_) (fun h5 => ?_)
  ·
   (try simp only [decide_eq_true_eq, decide_eq_false_iff_not, Int.not_lt, Int.not_le, Bool.not_eq_true', Bool.not_eq_false', Bool.or_eq_true, Bool.or_eq_false_iff] at h5)
   have e1 : ((cellsE l m n o 0) : Int) = 2 := by
    first | (rw [I2.2, hx]; ((repeat' split) <;> first | rfl | omega | (simp_all; done) | (simp_all; omega))) | (rw [I2.2, cellsE, if_neg (by omega)])
   exact .finE [.r []] [] (fun z0 => (VI z0, [])) (2 : Int) ((cellsE l m n o 0) : Int) e1
  ·
   (try simp only [decide_eq_true_eq, decide_eq_false_iff_not, Int.not_lt, Int.not_le, Bool.not_eq_true', Bool.not_eq_false', Bool.or_eq_true, Bool.or_eq_false_iff] at h5)
   refine .br [.r [(2, X (Xc0 (fc_cellText (((l.getD i default)).text) (by assumption)) X0))]] (!(textG (((l.getD i default)).text))) (fun h7 => ?_) (fun h7 => ?_)
   ·
    (try simp only [Bool.not_eq_true', Bool.not_eq_false'] at h7)
    have e2 : ((cellsE l m n o 0) : Int) = 23 := by
     first | (rw [I2.2, hx]; ((repeat' split) <;> first | rfl | omega | (simp_all; done) | (simp_all; omega))) | (rw [I2.2, cellsE, if_neg (by omega)])
    exact .finE [.r []] [] (fun z0 => (VI z0, [])) (23 : Int) ((cellsE l m n o 0) : Int) e2
   ·
    (try simp only [Bool.not_eq_true', Bool.not_eq_false'] at h7)
    refine .br [.r [(2, X (Xc0 (fc_attrsError (((l.getD i default)).attrs) false (by assumption)) X0))], .r []] ((errA false (((l.getD i default)).attrs) 0) != 0) (fun h10 => ?_) (fun h10 => ?_)
    ·
     (try simp only [bne_iff_ne, bne_eq_false_iff_eq, ne_eq] at h10)
     have e3 : ((cellsE l m n o 0) : Int) = (errA false (((l.getD i default)).attrs) 0) := by
      first | (rw [I2.2, hx]; ((repeat' split) <;> first | rfl | omega | (simp_all; done) | (simp_all; omega))) | (rw [I2.2, cellsE, if_neg (by omega)])
     exact .finE [.r []] [] (fun z0 => (VI z0, [])) ((errA false (((l.getD i default)).attrs) 0) : Int) ((cellsE l m n o 0) : Int) e3
    ·
     (try simp only [bne_iff_ne, bne_eq_false_iff_eq, ne_eq] at h10)
     refine .br [.r [(4, Xv 1 (!o) (Xc0 (fc_emptyR ((l.getD i default))) X0)), (5, X (Xk (!o)))]] (!o && (emptyC ((l.getD i default)))) (fun h12 => ?_) (fun h12 => ?_)
     ·
      (try simp only [Bool.not_eq_true', Bool.not_eq_false', Bool.and_eq_true, Bool.and_eq_false_iff] at h12)
      have e4 : ((cellsE l m n o 0) : Int) = 4 := by
       first | (rw [I2.2, hx]; ((repeat' split) <;> first | rfl | omega | (simp_all; done) | (simp_all; omega))) | (rw [I2.2, cellsE, if_neg (by omega)])
      exact .finE [.r []] [] (fun z0 => (VI z0, [])) (4 : Int) ((cellsE l m n o 0) : Int) e4
     ·
      (try simp only [Bool.not_eq_true', Bool.not_eq_false', Bool.and_eq_true, Bool.and_eq_false_iff] at h12)
      refine .br [.r [(4, Xv 1 (decide ((i : Int) > 0)) X0), (7, Xv 1 (decide ((i : Int) > 0)) (Xn ((i : Int) - 1))), (8, Xv 2 (decide ((i : Int) > 0)) (Xi' cellT l ((i : Int) - 1) (i - 1))), (9, Xv 1 (decide ((i : Int) > 0)) X0), (10, Xv 1 (decide ((i : Int) > 0)) X0), (11, Xv 2 (decide ((i : Int) > 0)) X0), (12, Xv 1 (decide ((i : Int) > 0)) X0), (14, Xv 1 ((decide ((i : Int) > 0)) && !(decide ((((l.getD i default)).row) < (((l.getD (i - 1) default)).row)))) X0), (17, Xv 1 ((decide ((i : Int) > 0)) && !(decide ((((l.getD i default)).row) < (((l.getD (i - 1) default)).row)))) (Xn ((i : Int) - 1))), (18, Xv 2 ((decide ((i : Int) > 0)) && !(decide ((((l.getD i default)).row) < (((l.getD (i - 1) default)).row)))) (Xi' cellT l ((i : Int) - 1) (i - 1))), (19, Xv 1 ((decide ((i : Int) > 0)) && !(decide ((((l.getD i default)).row) < (((l.getD (i - 1) default)).row)))) X0), (20, Xv 1 ((decide ((i : Int) > 0)) && !(decide ((((l.getD i default)).row) < (((l.getD (i - 1) default)).row)))) X0), (21, Xv 2 ((decide ((i : Int) > 0)) && !(decide ((((l.getD i default)).row) < (((l.getD (i - 1) default)).row)))) X0), (22, Xv 1 ((decide ((i : Int) > 0)) && !(decide ((((l.getD i default)).row) < (((l.getD (i - 1) default)).row)))) X0), (24, Xv 1 (((decide ((i : Int) > 0)) && !(decide ((((l.getD i default)).row) < (((l.getD (i - 1) default)).row)))) && ((((l.getD i default)).row) == (((l.getD (i - 1) default)).row))) X0), (27, Xv 1 (((decide ((i : Int) > 0)) && !(decide ((((l.getD i default)).row) < (((l.getD (i - 1) default)).row)))) && ((((l.getD i default)).row) == (((l.getD (i - 1) default)).row))) (Xn ((i : Int) - 1))), (28, Xv 2 (((decide ((i : Int) > 0)) && !(decide ((((l.getD i default)).row) < (((l.getD (i - 1) default)).row)))) && ((((l.getD i default)).row) == (((l.getD (i - 1) default)).row))) (Xi' cellT l ((i : Int) - 1) (i - 1))), (29, Xv 1 (((decide ((i : Int) > 0)) && !(decide ((((l.getD i default)).row) < (((l.getD (i - 1) default)).row)))) && ((((l.getD i default)).row) == (((l.getD (i - 1) default)).row))) X0), (30, Xv 1 (((decide ((i : Int) > 0)) && !(decide ((((l.getD i default)).row) < (((l.getD (i - 1) default)).row)))) && ((((l.getD i default)).row) == (((l.getD (i - 1) default)).row))) X0), (31, Xv 2 (((decide ((i : Int) > 0)) && !(decide ((((l.getD i default)).row) < (((l.getD (i - 1) default)).row)))) && ((((l.getD i default)).row) == (((l.getD (i - 1) default)).row))) X0), (32, Xka ((decide ((i : Int) > 0)) && !(decide ((((l.getD i default)).row) < (((l.getD (i - 1) default)).row)))) ((((l.getD i default)).row) == (((l.getD (i - 1) default)).row))), (33, Xko (decide ((i : Int) > 0)) (decide ((((l.getD i default)).row) < (((l.getD (i - 1) default)).row)))), (34, X (Xk (decide ((i : Int) > 0))))]] (decide ((i : Int) > 0) && (decide ((((l.getD i default)).row) < (((l.getD (i - 1) default)).row)) || (((((l.getD i default)).row) == (((l.getD (i - 1) default)).row)) && decide ((((l.getD i default)).col) ≤ (((l.getD (i - 1) default)).col))))) (fun h14 => ?_) (fun h14 => ?_)
      ·
       (try simp only [decide_eq_true_eq, decide_eq_false_iff_not, Int.not_lt, Int.not_le, gt_iff_lt, Bool.and_eq_true, Bool.and_eq_false_iff, Bool.not_eq_true', Bool.not_eq_false', Bool.or_eq_true, Bool.or_eq_false_iff, beq_iff_eq, beq_eq_false_iff_ne, ne_eq] at h14)
       have e5 : ((cellsE l m n o 0) : Int) = 5 := by
        first | (rw [I2.2, hx]; ((repeat' split) <;> first | rfl | omega | (simp_all; done) | (simp_all; omega))) | (rw [I2.2, cellsE, if_neg (by omega)])
       exact .finE [.r []] [] (fun z0 => (VI z0, [])) (5 : Int) ((cellsE l m n o 0) : Int) e5
      ·
       (try simp only [decide_eq_true_eq, decide_eq_false_iff_not, Int.not_lt, Int.not_le, gt_iff_lt, Bool.and_eq_true, Bool.and_eq_false_iff, Bool.not_eq_true', Bool.not_eq_false', Bool.or_eq_true, Bool.or_eq_false_iff, beq_iff_eq, beq_eq_false_iff_ne, ne_eq] at h14)
       refine .back [.r [(0, X (Xn ((i : Int) + 1)))]] [] (ih2 ((i + 1) : Nat) ?_ ?_)
       ·
        refine ⟨by omega, ?_⟩
        rw [I2.2, hx]
        ((repeat' split) <;> first | rfl | omega | (simp_all; done) | (simp_all; omega))
       ·
        ((try dsimp only); omega)
 ·
  (try simp only [decide_eq_true_eq, decide_eq_false_iff_not, Int.not_lt, Int.not_le] at h2)
  have e6 : ((cellsE l m n o 0) : Int) = 0 := by
   first | (rw [I2.2, hx]; ((repeat' split) <;> first | rfl | omega | (simp_all; done) | (simp_all; omega))) | (rw [I2.2, cellsE, if_neg (by omega)])
  exact .finE [.r []] [] (fun z0 => (VI z0, [])) (0 : Int) ((cellsE l m n o 0) : Int) e6
end Go.Ch
end
section
set_option linter.unusedVariables false
set_option linter.unusedSimpArgs false
set_option maxRecDepth 100000
set_option maxHeartbeats 4000000
open Go Go.Proofs Go.Ab
namespace Go.Ch
theorem fc_chk1 (q : Rect) (a b c d : Int) (hq : RB q) (hr : RB ⟨a, b, c, d⟩) : FC Tryd.prog 71 [.t (rectT q), .ptr 0 0] (app emp [(0, .box [VI a, VI b, VI c, VI d])]) (VB (meetB q ⟨a, b, c, d⟩)) (app emp [(0, .box [VI a, VI b, VI c, VI d])]) := by
 refine .go Tryd.f71 ?_
 have e1 : ((meetB q ⟨a, b, c, d⟩) : Bool) = (meetB q ({ row := a, col := b, h := c, w := d } : Rect)) := by
  rfl
 exact .finE [.r [], .r [(2, X (Xc0 (fc_meets q ({ row := a, col := b, h := c, w := d } : Rect) (by assumption) (by assumption)) X0))]] [(0, 0)] (fun z0 => (VB z0, [(0, .box [VI a, VI b, VI c, VI d])])) ((meetB q ({ row := a, col := b, h := c, w := d } : Rect)) : Bool) ((meetB q ⟨a, b, c, d⟩) : Bool) e1

theorem fc_raw1 (q : Rect) (a b c d : Int) (hq : RB q) (hr : RB ⟨a, b, c, d⟩) : FC Tryd.prog 51 [.t (rectT q), .ptr 0 0] (app emp [(0, .box [VI a, VI b, VI c, VI d])]) (VB (meetB q ⟨a, b, c, d⟩)) (app emp [(0, .box [VI a, VI b, VI c, VI d])]) := by
 refine .go Tryd.f51 ?_
 have e1 : ((meetB q ⟨a, b, c, d⟩) : Bool) = (meetB q ({ row := a, col := b, h := c, w := d } : Rect)) := by
  rfl
 exact .finE [.r [], .r [(2, X (Xc0 (fc_meets q ({ row := a, col := b, h := c, w := d } : Rect) (by assumption) (by assumption)) X0))]] [(0, 0)] (fun z0 => (VB z0, [(0, .box [VI a, VI b, VI c, VI d])])) ((meetB q ({ row := a, col := b, h := c, w := d } : Rect)) : Bool) ((meetB q ⟨a, b, c, d⟩) : Bool) e1

theorem fc_idxF_chk (l : List Rect) (a b c d : Int) (hl : AllRB l) (hr : RB ⟨a, b, c, d⟩) : FC Tryd.prog 75 [VL 4 rectT l, .fn 71 [.ptr 0 0]] (app emp [(0, .box [VI a, VI b, VI c, VI d])]) (VI (idxF (fun q => meetB q ⟨a, b, c, d⟩) l 0)) (app emp [(0, .box [VI a, VI b, VI c, VI d])]) := by
 refine .go Tryd.f75 ?_
 refine .len 0 (fun hl0 => ?_)
 refine .loop (α := Nat) [.r [], .r [(1, X (Xl rectT l))]] 33 (fun i => ([(0, VL 4 rectT l), (1, .fn 71 [.ptr 0 0]), (7, VI (l.length : Int)), (8, VI (i : Int))], [(0, .box [VI a, VI b, VI c, VI d])])) (fun i => i ≤ l.length ∧ idxF (fun q => meetB q ⟨a, b, c, d⟩) l 0 = idxF (fun q => meetB q ⟨a, b, c, d⟩) l i) (fun i => l.length - i) (0 : Nat) ?_ ?_
 ·
  exact ⟨by omega, rfl⟩
 rintro i I2 ih2
 try dsimp only at I2
 refine .br [.r []] (decide ((i : Int) < (l.length : Int))) (fun h2 => ?_) (fun h2 => ?_)
 ·
  (try simp only [decide_eq_true_eq, decide_eq_false_iff_not, Int.not_lt, Int.not_le] at h2)
  have hm := hl _ (getDX_mem (l := l) (i := i) (by omega))
  refine .br [.r [], .r [(3, X (Xi rectT l (i : Int))), (5, X (Xc3 97 [(0, 0)] (fc_chk1 ((l.getD i default)) a b c d (by assumption) (by assumption)) X0))]] (meetB ((l.getD i default)) ⟨a, b, c, d⟩) (fun h4 => ?_) (fun h4 => ?_)
  ·
   have e1 : ((idxF (fun q => meetB q ⟨a, b, c, d⟩) l 0) : Int) = (i : Int) := by
    rw [I2.2, idxF, if_pos (by omega), if_pos h4]
   exact .finE [.r []] [(0, 0)] (fun z0 => (VI z0, [(0, .box [VI a, VI b, VI c, VI d])])) ((i : Int) : Int) ((idxF (fun q => meetB q ⟨a, b, c, d⟩) l 0) : Int) e1
  ·
   refine .back [.r [(0, X (Xn ((i : Int) + 1)))]] [(0, 0)] (ih2 ((i + 1) : Nat) ?_ ?_)
   ·
    refine ⟨by omega, ?_⟩
    rw [I2.2, idxF, if_pos (by omega), if_neg (by rw [h4]; decide)]
   ·
    ((try dsimp only); omega)
 ·
  (try simp only [decide_eq_true_eq, decide_eq_false_iff_not, Int.not_lt, Int.not_le] at h2)
  have e2 : ((idxF (fun q => meetB q ⟨a, b, c, d⟩) l 0) : Int) = -1 := by
   rw [I2.2, idxF, if_neg (by omega)]
  exact .finE [.r []] [(0, 0)] (fun z0 => (VI z0, [(0, .box [VI a, VI b, VI c, VI d])])) (-1 : Int) ((idxF (fun q => meetB q ⟨a, b, c, d⟩) l 0) : Int) e2

theorem fc_anyF (l : List Rect) (a b c d : Int) (hl : AllRB l) (hr : RB ⟨a, b, c, d⟩) : FC Tryd.prog 70 [VL 4 rectT l, .fn 71 [.ptr 0 0]] (app emp [(0, .box [VI a, VI b, VI c, VI d])]) (VB (anyM l ⟨a, b, c, d⟩)) (app emp [(0, .box [VI a, VI b, VI c, VI d])]) := by
 refine .go Tryd.f70 ?_
 refine .len 0 (fun hl0 => ?_)
 have e1 : ((anyM l ⟨a, b, c, d⟩) : Bool) = decide ((idxF (fun q => meetB q ⟨a, b, c, d⟩) l 0) ≥ 0) := by
  unfold anyM; rw [Bool.eq_iff_iff, decide_eq_true_eq, ge_iff_le, idxF_any]
 exact .finE [.r [], .r [(2, X (Xc3 25 [(0, 0)] (fc_idxF_chk l a b c d (by assumption) (by assumption)) X0))]] [(0, 0)] (fun z0 => (VB z0, [(0, .box [VI a, VI b, VI c, VI d])])) (decide ((idxF (fun q => meetB q ⟨a, b, c, d⟩) l 0) ≥ 0) : Bool) ((anyM l ⟨a, b, c, d⟩) : Bool) e1

end Go.Ch
end
section
set_option linter.unusedVariables false
set_option linter.unusedSimpArgs false
set_option maxRecDepth 100000
set_option maxHeartbeats 4000000
open Go Go.Proofs Go.Ab
namespace Go.Ch
theorem fc_gcheck (x : Grid) (hl : x.merges.length ≤ 100000000000) : FC Tryd.prog 44 [.t (gridT x)] (app emp []) (VI (gridE x)) (app emp []) := by
 refine .go Tryd.f44 ?_
 refine .br [.r [], .r [(5, Xv 1 (!(decide (x.rows < 0))) X0), (6, Xv 1 (!(decide (x.rows < 0))) X0), (7, X (Xk' (decide (x.rows < 0)))), (10, Xv 1 (!(decide (x.rows < 0) || decide (x.rows > 2147483647))) X0), (11, Xv 1 (!(decide (x.rows < 0) || decide (x.rows > 2147483647))) X0), (12, X (Xk' (decide (x.rows < 0) || decide (x.rows > 2147483647)))), (15, Xv 1 (!((decide (x.rows < 0) || decide (x.rows > 2147483647)) || decide (x.cols < 0))) X0), (16, Xv 1 (!((decide (x.rows < 0) || decide (x.rows > 2147483647)) || decide (x.cols < 0))) X0), (17, X (Xk' ((decide (x.rows < 0) || decide (x.rows > 2147483647)) || decide (x.cols < 0))))]] (((decide (x.rows < 0) || decide (x.rows > 2147483647)) || decide (x.cols < 0)) || decide (x.cols > 2147483647)) (fun h1 => ?_) (fun h1 => ?_)
 ·
  (try simp only [decide_eq_true_eq, decide_eq_false_iff_not, Int.not_lt, Int.not_le, gt_iff_lt, Bool.or_eq_true, Bool.or_eq_false_iff] at h1)
  have e1 : ((gridE x) : Int) = 2 := by
   unfold gridE; rw [if_pos (by omega)]
  exact .finE [.r []] [] (fun z0 => (VI z0, [])) (2 : Int) ((gridE x) : Int) e1
 ·
  (try simp only [decide_eq_true_eq, decide_eq_false_iff_not, Int.not_lt, Int.not_le, gt_iff_lt, Bool.or_eq_true, Bool.or_eq_false_iff] at h1)
  refine .br [.r [(6, X (Xc0 (fc_cells x.cells x.rows x.cols false) X0))], .r []] ((cellsE x.cells x.rows x.cols false 0) != 0) (fun h4 => ?_) (fun h4 => ?_)
  ·
   (try simp only [bne_iff_ne, bne_eq_false_iff_eq, ne_eq] at h4)
   have e2 : ((gridE x) : Int) = (cellsE x.cells x.rows x.cols false 0) := by
    unfold gridE; rw [if_neg (by omega), if_pos (by omega)]
   exact .finE [.r []] [] (fun z0 => (VI z0, [])) ((cellsE x.cells x.rows x.cols false 0) : Int) ((gridE x) : Int) e2
  ·
   (try simp only [bne_iff_ne, bne_eq_false_iff_eq, ne_eq] at h4)
   refine .loop (α := Nat) [.r [(2, X (Xl rectT x.merges))]] 272 (fun i => ([(1, .ptr 0 0), (35, VL 4 rectT x.merges), (36, VI (x.merges.length : Int)), (37, VI (i : Int))], [(0, .box [VI x.rows, VI x.cols, VL 5 cellT x.cells, VL 4 rectT x.merges])])) (fun i => i ≤ x.merges.length ∧ mergE x.merges x.rows x.cols 0 = mergE x.merges x.rows x.cols i ∧ InsTo x.merges x.rows x.cols i) (fun i => x.merges.length - i) (0 : Nat) ?_ ?_
   ·
    exact ⟨by omega, rfl, fun k hk => absurd hk (by omega)⟩
   rintro i I7 ih7
   try dsimp only at I7
   refine .br [.r []] (decide ((i : Int) < (x.merges.length : Int))) (fun h7 => ?_) (fun h7 => ?_)
   ·
    (try simp only [decide_eq_true_eq, decide_eq_false_iff_not, Int.not_lt, Int.not_le] at h7)
    have hx : mergE x.merges x.rows x.cols i = _ := mergE.eq_1 x.merges x.rows x.cols i
    rw [if_pos (by omega)] at hx
    refine .br [.r [(1, X (Xi rectT x.merges (i : Int)))], .r [(5, X (Xc0 (fc_inside ((x.merges.getD i default)) x.rows x.cols (by omega)) X0))]] (!(insB ((x.merges.getD i default)) x.rows x.cols)) (fun h9 => ?_) (fun h9 => ?_)
    ·
     (try simp only [Bool.not_eq_true', Bool.not_eq_false'] at h9)
     rw [if_pos h9] at hx
     have e3 : ((gridE x) : Int) = 2 := by
      unfold gridE; rw [if_neg (by omega), if_neg (by omega), I7.2.1, hx]
      
     exact .finE [.r []] [] (fun z0 => (VI z0, [])) (2 : Int) ((gridE x) : Int) e3
    ·
     (try simp only [Bool.not_eq_true', Bool.not_eq_false'] at h9)
     rw [if_neg (by rw [h9]; decide)] at hx
     refine .br [.r [(5, Xv 1 ((((x.merges.getD i default)).h) == 1) X0), (6, Xv 1 ((((x.merges.getD i default)).h) == 1) X0), (7, X (Xk ((((x.merges.getD i default)).h) == 1)))]] (((((x.merges.getD i default)).h) == 1) && ((((x.merges.getD i default)).w) == 1)) (fun h11 => ?_) (fun h11 => ?_)
     ·
      (try simp only [Bool.and_eq_true, Bool.and_eq_false_iff, Bool.not_eq_true', Bool.not_eq_false', beq_iff_eq, beq_eq_false_iff_ne, ne_eq] at h11)
      rw [if_pos (by omega)] at hx
      have e4 : ((gridE x) : Int) = 4 := by
       unfold gridE; rw [if_neg (by omega), if_neg (by omega), I7.2.1, hx]
       
      exact .finE [.r []] [] (fun z0 => (VI z0, [])) (4 : Int) ((gridE x) : Int) e4
     ·
      (try simp only [Bool.and_eq_true, Bool.and_eq_false_iff, Bool.not_eq_true', Bool.not_eq_false', beq_iff_eq, beq_eq_false_iff_ne, ne_eq] at h11)
      rw [if_neg (by omega)] at hx
      refine .br [.r [(4, Xv 1 (decide ((i : Int) > 0)) X0), (6, Xv 1 (decide ((i : Int) > 0)) (Xn ((i : Int) - 1))), (7, Xv 2 (decide ((i : Int) > 0)) (Xi' rectT x.merges ((i : Int) - 1) (i - 1))), (8, Xv 1 (decide ((i : Int) > 0)) X0), (10, Xv 2 (decide ((i : Int) > 0)) (Xc0 (fc_before ((x.merges.getD (i - 1) default)) ((x.merges.getD i default))) X0)), (11, Xv 1 (decide ((i : Int) > 0)) X0), (12, X (Xk (decide ((i : Int) > 0))))]] (decide ((i : Int) > 0) && !(befB ((x.merges.getD (i - 1) default)) ((x.merges.getD i default)))) (fun h13 => ?_) (fun h13 => ?_)
      ·
       (try simp only [decide_eq_true_eq, decide_eq_false_iff_not, Int.not_lt, Int.not_le, gt_iff_lt, Bool.not_eq_true', Bool.not_eq_false', Bool.and_eq_true, Bool.and_eq_false_iff] at h13)
       rw [if_pos ⟨by omega, h13.2⟩] at hx
       have e5 : ((gridE x) : Int) = 5 := by
        unfold gridE; rw [if_neg (by omega), if_neg (by omega), I7.2.1, hx]
        
       exact .finE [.r []] [] (fun z0 => (VI z0, [])) (5 : Int) ((gridE x) : Int) e5
      ·
       (try simp only [decide_eq_true_eq, decide_eq_false_iff_not, Int.not_lt, Int.not_le, gt_iff_lt, Bool.not_eq_true', Bool.not_eq_false', Bool.and_eq_true, Bool.and_eq_false_iff] at h13)
       rw [if_neg (fun q => by have q1 := q.1; rcases h13 with h | h; (omega); (rw [q.2] at h; cases h))] at hx
       have hall := I7.2.2.all (by omega) (by omega) (by omega)
       have hrb := RB_ins h9 (by omega) (by omega)
       refine .br [.r [(3, X (Xst rectT 4 x.merges (i : Int))), (5, X (Xc3 616 [(0, 304)] (fc_anyF (x.merges.take i) (((x.merges.getD i default)).row) (((x.merges.getD i default)).col) (((x.merges.getD i default)).h) (((x.merges.getD i default)).w) (by assumption) (by assumption)) X0))]] (anyM (x.merges.take i) ⟨(((x.merges.getD i default)).row), (((x.merges.getD i default)).col), (((x.merges.getD i default)).h), (((x.merges.getD i default)).w)⟩) (fun h15 => ?_) (fun h15 => ?_)
       ·
        rw [if_pos h15] at hx
        have e6 : ((gridE x) : Int) = 21 := by
         unfold gridE; rw [if_neg (by omega), if_neg (by omega), I7.2.1, hx]
         
        exact .finE [.r []] [] (fun z0 => (VI z0, [])) (21 : Int) ((gridE x) : Int) e6
       ·
        rw [if_neg (by rw [h15]; decide)] at hx
        refine .back [.r [(0, X (Xn ((i : Int) + 1)))]] [(0, 0)] (ih7 ((i + 1) : Nat) ?_ ?_)
        ·
         exact ⟨by omega, by rw [I7.2.1, hx], I7.2.2.succ h9⟩
        ·
         ((try dsimp only); omega)
   ·
    (try simp only [decide_eq_true_eq, decide_eq_false_iff_not, Int.not_lt, Int.not_le] at h7)
    have e7 : ((gridE x) : Int) = 0 := by
     unfold gridE; rw [if_neg (by omega), if_neg (by omega), I7.2.1, mergE, if_neg (by omega)]
    exact .finE [.r []] [] (fun z0 => (VI z0, [])) (0 : Int) ((gridE x) : Int) e7

theorem fc_gridError (x : Grid) (hl : x.merges.length ≤ 100000000000) (hz : SzC x.cells) : FC Tryd.prog 6 [.t (gridT x)] (app emp []) (VI (gridE x)) (app emp []) := by
 refine .go Tryd.f6 ?_
 refine .br [.r [], .r [(2, X (Xc0 (fc_in x.rows 0 2147483647) X0)), (6, Xv 1 (!(!(decide (0 ≤ x.rows ∧ x.rows ≤ 2147483647)))) X0), (7, Xv 1 (!(!(decide (0 ≤ x.rows ∧ x.rows ≤ 2147483647)))) (Xc0 (fc_in x.cols 0 2147483647) X0)), (8, Xv 1 (!(!(decide (0 ≤ x.rows ∧ x.rows ≤ 2147483647)))) X0), (9, X (Xk' (!(decide (0 ≤ x.rows ∧ x.rows ≤ 2147483647)))))]] (!(decide (0 ≤ x.rows ∧ x.rows ≤ 2147483647)) || !(decide (0 ≤ x.cols ∧ x.cols ≤ 2147483647))) (fun h1 => ?_) (fun h1 => ?_)
 ·
  (try simp only [decide_eq_true_eq, decide_eq_false_iff_not, Int.not_lt, Int.not_le, Bool.not_eq_true', Bool.not_eq_false', Bool.or_eq_true, Bool.or_eq_false_iff] at h1)
  have e1 : ((gridE x) : Int) = 2 := by
   unfold gridE; rw [if_pos (by omega)]
  exact .finE [.r []] [] (fun z0 => (VI z0, [])) (2 : Int) ((gridE x) : Int) e1
 ·
  (try simp only [decide_eq_true_eq, decide_eq_false_iff_not, Int.not_lt, Int.not_le, Bool.not_eq_true', Bool.not_eq_false', Bool.or_eq_true, Bool.or_eq_false_iff] at h1)
  refine .br [.r [(6, X (Xc0 (fc_cellsE x.cells x.rows x.cols false (by assumption) (by omega) (by omega)) X0))], .r []] ((cellsE x.cells x.rows x.cols false 0) != 0) (fun h4 => ?_) (fun h4 => ?_)
  ·
   (try simp only [bne_iff_ne, bne_eq_false_iff_eq, ne_eq] at h4)
   have e2 : ((gridE x) : Int) = (cellsE x.cells x.rows x.cols false 0) := by
    unfold gridE; rw [if_neg (by omega), if_pos (by omega)]
   exact .finE [.r []] [] (fun z0 => (VI z0, [])) ((cellsE x.cells x.rows x.cols false 0) : Int) ((gridE x) : Int) e2
  ·
   (try simp only [bne_iff_ne, bne_eq_false_iff_eq, ne_eq] at h4)
   refine .loop (α := Nat) [.r [(2, X (Xl rectT x.merges))]] 208 (fun i => ([(1, .ptr 0 0), (29, VI (x.merges.length : Int)), (30, VI (i : Int))], [(0, .box [VI x.rows, VI x.cols, VL 5 cellT x.cells, VL 4 rectT x.merges])])) (fun i => i ≤ x.merges.length ∧ mergE x.merges x.rows x.cols 0 = mergE x.merges x.rows x.cols i ∧ InsTo x.merges x.rows x.cols i) (fun i => x.merges.length - i) (0 : Nat) ?_ ?_
   ·
    exact ⟨by omega, rfl, fun k hk => absurd hk (by omega)⟩
   rintro i I7 ih7
   try dsimp only at I7
   refine .br [.r []] (decide ((i : Int) < (x.merges.length : Int))) (fun h7 => ?_) (fun h7 => ?_)
   ·
    (try simp only [decide_eq_true_eq, decide_eq_false_iff_not, Int.not_lt, Int.not_le] at h7)
    have hx : mergE x.merges x.rows x.cols i = _ := mergE.eq_1 x.merges x.rows x.cols i
    rw [if_pos (by omega)] at hx
    have hsh : ∀ q r : Rect, insB q x.rows x.cols = true → insB r x.rows x.cols = true → shareB r q = meetB q r := fun q r a b => by (have u := insB_iff.1 a; have v := insB_iff.1 b; rw [share_eq (by omega) (by omega) (by omega) (by omega), meetB_comm])
    refine .br [.r [], .r [(3, X (Xi rectT x.merges (i : Int)))], .r [(5, X (Xc0 (fc_lies ((x.merges.getD i default)) x.rows x.cols (by omega)) X0))]] (!(insB ((x.merges.getD i default)) x.rows x.cols)) (fun h10 => ?_) (fun h10 => ?_)
    ·
     (try simp only [Bool.not_eq_true', Bool.not_eq_false'] at h10)
     rw [if_pos h10] at hx
     have e3 : ((gridE x) : Int) = 2 := by
      unfold gridE; rw [if_neg (by omega), if_neg (by omega), I7.2.1, hx]
      
     exact .finE [.r []] [] (fun z0 => (VI z0, [])) (2 : Int) ((gridE x) : Int) e3
    ·
     (try simp only [Bool.not_eq_true', Bool.not_eq_false'] at h10)
     rw [if_neg (by rw [h10]; decide)] at hx
     refine .br [.r [(5, Xv 1 ((((x.merges.getD i default)).h) == 1) X0), (6, Xv 1 ((((x.merges.getD i default)).h) == 1) X0), (7, X (Xk ((((x.merges.getD i default)).h) == 1)))]] (((((x.merges.getD i default)).h) == 1) && ((((x.merges.getD i default)).w) == 1)) (fun h12 => ?_) (fun h12 => ?_)
     ·
      (try simp only [Bool.and_eq_true, Bool.and_eq_false_iff, Bool.not_eq_true', Bool.not_eq_false', beq_iff_eq, beq_eq_false_iff_ne, ne_eq] at h12)
      rw [if_pos (by omega)] at hx
      have e4 : ((gridE x) : Int) = 4 := by
       unfold gridE; rw [if_neg (by omega), if_neg (by omega), I7.2.1, hx]
       
      exact .finE [.r []] [] (fun z0 => (VI z0, [])) (4 : Int) ((gridE x) : Int) e4
     ·
      (try simp only [Bool.and_eq_true, Bool.and_eq_false_iff, Bool.not_eq_true', Bool.not_eq_false', beq_iff_eq, beq_eq_false_iff_ne, ne_eq] at h12)
      rw [if_neg (by omega)] at hx
      refine .br [.r [(4, Xv 1 (decide ((i : Int) > 0)) X0), (6, Xv 1 (decide ((i : Int) > 0)) X0), (8, Xv 1 (decide ((i : Int) > 0)) (Xn ((i : Int) - 1))), (9, Xv 2 (decide ((i : Int) > 0)) (Xi' rectT x.merges ((i : Int) - 1) (i - 1))), (10, Xv 1 (decide ((i : Int) > 0)) X0), (11, Xv 1 (decide ((i : Int) > 0)) X0), (12, Xv 2 (decide ((i : Int) > 0)) X0), (13, Xv 1 (decide ((i : Int) > 0)) X0), (15, Xv 1 ((decide ((i : Int) > 0)) && !(decide ((((x.merges.getD i default)).row) < (((x.merges.getD (i - 1) default)).row)))) X0), (17, Xv 1 ((decide ((i : Int) > 0)) && !(decide ((((x.merges.getD i default)).row) < (((x.merges.getD (i - 1) default)).row)))) X0), (19, Xv 1 ((decide ((i : Int) > 0)) && !(decide ((((x.merges.getD i default)).row) < (((x.merges.getD (i - 1) default)).row)))) (Xn ((i : Int) - 1))), (20, Xv 2 ((decide ((i : Int) > 0)) && !(decide ((((x.merges.getD i default)).row) < (((x.merges.getD (i - 1) default)).row)))) (Xi' rectT x.merges ((i : Int) - 1) (i - 1))), (21, Xv 1 ((decide ((i : Int) > 0)) && !(decide ((((x.merges.getD i default)).row) < (((x.merges.getD (i - 1) default)).row)))) X0), (22, Xv 1 ((decide ((i : Int) > 0)) && !(decide ((((x.merges.getD i default)).row) < (((x.merges.getD (i - 1) default)).row)))) X0), (23, Xv 2 ((decide ((i : Int) > 0)) && !(decide ((((x.merges.getD i default)).row) < (((x.merges.getD (i - 1) default)).row)))) X0), (24, Xv 1 ((decide ((i : Int) > 0)) && !(decide ((((x.merges.getD i default)).row) < (((x.merges.getD (i - 1) default)).row)))) X0), (26, Xv 1 (((decide ((i : Int) > 0)) && !(decide ((((x.merges.getD i default)).row) < (((x.merges.getD (i - 1) default)).row)))) && ((((x.merges.getD i default)).row) == (((x.merges.getD (i - 1) default)).row))) X0), (28, Xv 1 (((decide ((i : Int) > 0)) && !(decide ((((x.merges.getD i default)).row) < (((x.merges.getD (i - 1) default)).row)))) && ((((x.merges.getD i default)).row) == (((x.merges.getD (i - 1) default)).row))) X0), (30, Xv 1 (((decide ((i : Int) > 0)) && !(decide ((((x.merges.getD i default)).row) < (((x.merges.getD (i - 1) default)).row)))) && ((((x.merges.getD i default)).row) == (((x.merges.getD (i - 1) default)).row))) (Xn ((i : Int) - 1))), (31, Xv 2 (((decide ((i : Int) > 0)) && !(decide ((((x.merges.getD i default)).row) < (((x.merges.getD (i - 1) default)).row)))) && ((((x.merges.getD i default)).row) == (((x.merges.getD (i - 1) default)).row))) (Xi' rectT x.merges ((i : Int) - 1) (i - 1))), (32, Xv 1 (((decide ((i : Int) > 0)) && !(decide ((((x.merges.getD i default)).row) < (((x.merges.getD (i - 1) default)).row)))) && ((((x.merges.getD i default)).row) == (((x.merges.getD (i - 1) default)).row))) X0), (33, Xv 1 (((decide ((i : Int) > 0)) && !(decide ((((x.merges.getD i default)).row) < (((x.merges.getD (i - 1) default)).row)))) && ((((x.merges.getD i default)).row) == (((x.merges.getD (i - 1) default)).row))) X0), (34, Xv 2 (((decide ((i : Int) > 0)) && !(decide ((((x.merges.getD i default)).row) < (((x.merges.getD (i - 1) default)).row)))) && ((((x.merges.getD i default)).row) == (((x.merges.getD (i - 1) default)).row))) X0), (35, Xka ((decide ((i : Int) > 0)) && !(decide ((((x.merges.getD i default)).row) < (((x.merges.getD (i - 1) default)).row)))) ((((x.merges.getD i default)).row) == (((x.merges.getD (i - 1) default)).row))), (36, Xko (decide ((i : Int) > 0)) (decide ((((x.merges.getD i default)).row) < (((x.merges.getD (i - 1) default)).row)))), (37, X (Xk (decide ((i : Int) > 0))))]] (decide ((i : Int) > 0) && (decide ((((x.merges.getD i default)).row) < (((x.merges.getD (i - 1) default)).row)) || (((((x.merges.getD i default)).row) == (((x.merges.getD (i - 1) default)).row)) && decide ((((x.merges.getD i default)).col) ≤ (((x.merges.getD (i - 1) default)).col))))) (fun h14 => ?_) (fun h14 => ?_)
      ·
       (try simp only [decide_eq_true_eq, decide_eq_false_iff_not, Int.not_lt, Int.not_le, gt_iff_lt, Bool.and_eq_true, Bool.and_eq_false_iff, Bool.not_eq_true', Bool.not_eq_false', Bool.or_eq_true, Bool.or_eq_false_iff, beq_iff_eq, beq_eq_false_iff_ne, ne_eq] at h14)
       rw [if_pos ⟨by omega, bef_f.2 h14.2⟩] at hx
       have e5 : ((gridE x) : Int) = 5 := by
        unfold gridE; rw [if_neg (by omega), if_neg (by omega), I7.2.1, hx]
        
       exact .finE [.r []] [] (fun z0 => (VI z0, [])) (5 : Int) ((gridE x) : Int) e5
      ·
       (try simp only [decide_eq_true_eq, decide_eq_false_iff_not, Int.not_lt, Int.not_le, gt_iff_lt, Bool.and_eq_true, Bool.and_eq_false_iff, Bool.not_eq_true', Bool.not_eq_false', Bool.or_eq_true, Bool.or_eq_false_iff, beq_iff_eq, beq_eq_false_iff_ne, ne_eq] at h14)
       rw [if_neg (fun q => by have q1 := q.1; have q2 := bef_f.1 q.2; omega)] at hx
       have hrb := RB_ins h10 (by omega) (by omega)
       refine .loop (α := Nat) [.r []] 728 (fun j => ([(1, .ptr 0 0), (5, .ptr 272 0), (29, VI (x.merges.length : Int)), (30, VI (i : Int)), (91, VI (i : Int)), (92, VI (j : Int))], [(0, .box [VI x.rows, VI x.cols, VL 5 cellT x.cells, VL 4 rectT x.merges]), (272, .box [VI (((x.merges.getD i default)).row), VI (((x.merges.getD i default)).col), VI (((x.merges.getD i default)).h), VI (((x.merges.getD i default)).w)])])) (fun j => j ≤ i ∧ ∀ k, k < j → meetB (x.merges.getD k default) (x.merges.getD i default) = false) (fun j => i - j) (0 : Nat) ?_ ?_
       ·
        exact ⟨by omega, fun k hk => absurd hk (by omega)⟩
       rintro j I17 ih17
       try dsimp only at I17
       refine .br [.r []] (decide ((j : Int) < (i : Int))) (fun h17 => ?_) (fun h17 => ?_)
       ·
        (try simp only [decide_eq_true_eq, decide_eq_false_iff_not, Int.not_lt, Int.not_le] at h17)
        have hk := I7.2.2 j (by omega)
        have hrk := RB_ins hk (by omega) (by omega)
        have hse := hsh _ _ hk h10
        refine .br [.r [], .r [(4, X (Xi rectT x.merges (j : Int))), (6, X (Xc0 (fc_share ((x.merges.getD i default)) ((x.merges.getD j default)) (by assumption) (by assumption)) X0))]] (shareB ((x.merges.getD i default)) ((x.merges.getD j default))) (fun h19 => ?_) (fun h19 => ?_)
        ·
         rw [if_pos (anyM_take.2 ⟨j, by omega, by omega, by rw [← hse]; exact h19⟩)] at hx
         have e6 : ((gridE x) : Int) = 21 := by
          unfold gridE; rw [if_neg (by omega), if_neg (by omega), I7.2.1, hx]
          
         exact .finE [.r []] [] (fun z0 => (VI z0, [])) (21 : Int) ((gridE x) : Int) e6
        ·
         refine .back [.r [(0, X (Xn ((j : Int) + 1)))]] [(0, 0), (272, 272)] (ih17 ((j + 1) : Nat) ?_ ?_)
         ·
          refine ⟨by omega, fun k hk => ?_⟩
          by_cases e : k = j
          · rw [e, ← hse]; exact h19
          · exact I17.2 k (by omega)
         ·
          ((try dsimp only); omega)
       ·
        (try simp only [decide_eq_true_eq, decide_eq_false_iff_not, Int.not_lt, Int.not_le] at h17)
        rw [if_neg (fun q => by obtain ⟨k, k1, k2, k3⟩ := anyM_take.1 q; rw [I17.2 k (by omega)] at k3; cases k3)] at hx
        refine .back [.r [(0, X (Xn ((i : Int) + 1)))]] [(0, 0)] (ih7 ((i + 1) : Nat) ?_ ?_)
        ·
         exact ⟨by omega, by rw [I7.2.1, hx], I7.2.2.succ h10⟩
        ·
         ((try dsimp only); omega)
   ·
    (try simp only [decide_eq_true_eq, decide_eq_false_iff_not, Int.not_lt, Int.not_le] at h7)
    have e7 : ((gridE x) : Int) = 0 := by
     unfold gridE; rw [if_neg (by omega), if_neg (by omega), I7.2.1, mergE, if_neg (by omega)]
    exact .finE [.r []] [] (fun z0 => (VI z0, [])) (0 : Int) ((gridE x) : Int) e7
end Go.Ch
end
section
set_option linter.unusedVariables false
namespace Go.Ch
open Go Go.Ab

def insQE (l : List Rect) (m n : Int) (i : Nat) : Int := if i < l.length then (if insB (l.getD i default) m n = false then 2 else insQE l m n (i + 1)) else 0
termination_by l.length - i
def mgE (l : List Rect) (m n : Int) (i : Nat) : Int := if i < l.length then (if insB (l.getD i default) m n = false then 2 else if (l.getD i default).h = 1 ∧ (l.getD i default).w = 1 then 4 else mgE l m n (i + 1)) else 0
termination_by l.length - i
def celF (l : List Cell) (m n : Int) (i : Nat) : Int := if i < l.length then (if m ≤ (l.getD i default).row ∨ n ≤ (l.getD i default).col then 2 else celF l m n (i + 1)) else 0
termination_by l.length - i
theorem insQE_all {l : List Rect} {m n : Int} : ∀ (k i : Nat), l.length - i = k → insQE l m n i = 0 → ∀ j, i ≤ j → j < l.length → insB (l.getD j default) m n = true
  | 0, i, h, _, j, h1, h2 => by omega
  | k + 1, i, h, h0, j, h1, h2 => by
    rw [insQE, if_pos (by omega)] at h0
    split at h0
    · cases h0
    · rename_i hb
      by_cases e : i = j
      · rw [← e]; simpa using hb
      · exact insQE_all k (i + 1) (by omega) h0 j (by omega) h2
theorem mgE_all {l : List Rect} {m n : Int} : ∀ (k i : Nat), l.length - i = k → mgE l m n i = 0 → ∀ j, i ≤ j → j < l.length → insB (l.getD j default) m n = true ∧ ¬ ((l.getD j default).h = 1 ∧ (l.getD j default).w = 1)
  | 0, i, h, _, j, h1, h2 => by omega
  | k + 1, i, h, h0, j, h1, h2 => by
    rw [mgE, if_pos (by omega)] at h0
    split at h0
    · cases h0
    · rename_i hb
      split at h0
      · cases h0
      · rename_i hc
        by_cases e : i = j
        · rw [← e]; exact ⟨by simpa using hb, hc⟩
        · exact mgE_all k (i + 1) (by omega) h0 j (by omega) h2
theorem celF_all {l : List Cell} {m n : Int} : ∀ (k i : Nat), l.length - i = k → celF l m n i = 0 → ∀ j, i ≤ j → j < l.length → (l.getD j default).row < m ∧ (l.getD j default).col < n
  | 0, i, h, _, j, h1, h2 => by omega
  | k + 1, i, h, h0, j, h1, h2 => by
    rw [celF, if_pos (by omega)] at h0
    split at h0
    · cases h0
    · rename_i hb
      by_cases e : i = j
      · rw [← e]; omega
      · exact celF_all k (i + 1) (by omega) h0 j (by omega) h2
theorem mem_getDX {α : Type} [Inhabited α] {l : List α} {x : α} (h : x ∈ l) : ∃ j, j < l.length ∧ l.getD j default = x := by
  obtain ⟨j, hj, e⟩ := List.mem_iff_getElem.1 h
  exact ⟨j, hj, by rw [List.getD_eq_getElem?_getD, List.getElem?_eq_getElem hj]; exact e⟩
structure EdOk (e : GEd) : Prop where
  okr : Valid e.rows
  okc : Valid e.cols
  cells : cellsE e.cells 2147483647 2147483647 true 0 = 0
  split : ∀ r ∈ e.split, insB r 2147483647 2147483647 = true
  merge : ∀ r ∈ e.merge, insB r 2147483647 2147483647 = true ∧ ¬ (r.h = 1 ∧ r.w = 1)
def edE (e : GEd) : Int :=
  if ¬ checkX e.rows = 0 then checkX e.rows else if ¬ checkX e.cols = 0 then checkX e.cols
  else if ¬ cellsE e.cells 2147483647 2147483647 true 0 = 0 then cellsE e.cells 2147483647 2147483647 true 0
  else if ¬ insQE e.split 2147483647 2147483647 0 = 0 then insQE e.split 2147483647 2147483647 0 else mgE e.merge 2147483647 2147483647 0
theorem edE_ok {e : GEd} (h : edE e = 0) : EdOk e := by
  unfold edE at h
  split at h
  · omega
  · split at h
    · omega
    · split at h
      · omega
      · split at h
        · omega
        · refine ⟨check_iff.1 (by omega), check_iff.1 (by omega), by omega, fun r hr => ?_, fun r hr => ?_⟩
          · obtain ⟨j, hj, rfl⟩ := mem_getDX hr
            exact insQE_all _ 0 rfl (by omega) j (by omega) hj
          · obtain ⟨j, hj, rfl⟩ := mem_getDX hr
            exact mgE_all _ 0 rfl h j (by omega) hj
/-- The size of an axis afterwards. -/
def nwS (n : Int) (a : List AxStep) : Int := if 0 < a.length then newI a else n
structure FitOk (g : Grid) (e : GEd) : Prop where
  rows : 0 < e.rows.length → oldI e.rows = g.rows
  cols : 0 < e.cols.length → oldI e.cols = g.cols
  cells : ∀ c ∈ e.cells, c.row < nwS g.rows e.rows ∧ c.col < nwS g.cols e.cols
  split : ∀ r ∈ e.split, insB r (nwS g.rows e.rows) (nwS g.cols e.cols) = true
  merge : ∀ r ∈ e.merge, insB r (nwS g.rows e.rows) (nwS g.cols e.cols) = true
def fitE (g : Grid) (e : GEd) : Int :=
  if 0 < e.rows.length ∧ ¬ oldI e.rows = g.rows then 14 else if 0 < e.cols.length ∧ ¬ oldI e.cols = g.cols then 14
  else if ¬ celF e.cells (nwS g.rows e.rows) (nwS g.cols e.cols) 0 = 0 then celF e.cells (nwS g.rows e.rows) (nwS g.cols e.cols) 0
  else if ¬ insQE e.split (nwS g.rows e.rows) (nwS g.cols e.cols) 0 = 0 then insQE e.split (nwS g.rows e.rows) (nwS g.cols e.cols) 0
  else insQE e.merge (nwS g.rows e.rows) (nwS g.cols e.cols) 0
theorem fitE_ok {g : Grid} {e : GEd} (h : fitE g e = 0) : FitOk g e := by
  unfold fitE at h
  split at h
  · omega
  · split at h
    · omega
    · split at h
      · omega
      · split at h
        · omega
        · refine ⟨fun q => by omega, fun q => by omega, fun c hc => ?_, fun r hr => ?_, fun r hr => ?_⟩
          · obtain ⟨j, hj, rfl⟩ := mem_getDX hc
            exact celF_all _ 0 rfl (by omega) j (by omega) hj
          · obtain ⟨j, hj, rfl⟩ := mem_getDX hr
            exact insQE_all _ 0 rfl (by omega) j (by omega) hj
          · obtain ⟨j, hj, rfl⟩ := mem_getDX hr
            exact insQE_all _ 0 rfl h j (by omega) hj
theorem newI_bd {l : List AxStep} (h : Valid l) : 0 ≤ newI l ∧ newI l ≤ 2147483647 ∧ 0 ≤ oldI l ∧ oldI l ≤ 2147483647 := by
  have := h.2.1; have := h.2.2
  unfold newI oldI; omega
theorem nwS_bd {n : Int} {a : List AxStep} (h : Valid a) (hn : 0 ≤ n ∧ n ≤ 2147483647) : 0 ≤ nwS n a ∧ nwS n a ≤ 2147483647 := by
  have := newI_bd h
  unfold nwS; split <;> omega
end Go.Ch
end
