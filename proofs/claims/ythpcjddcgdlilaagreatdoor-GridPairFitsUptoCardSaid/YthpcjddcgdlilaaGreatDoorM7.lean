/- Parts of the proof: ChGrid5, GridText, GridPlain3, TryzShelf, GridTab, ChGrid6, ChGrid7, ChGrid8, ChGrid9, GridPlain4, ChGrid10, ChGrid11, GridPlain5, ChGrid12, GridSort0, GridSort, GridPlain6. -/
import Derived.Test.YthpcjddcgdlilaaGreatDoorM1
import Derived.Test.YthpcjddcgdlilaaGreatDoorM2
import Derived.Test.YthpcjddcgdlilaaGreatDoorM3
import Derived.Test.YthpcjddcgdlilaaGreatDoorM4
import Derived.Test.YthpcjddcgdlilaaGreatDoorM5
import Derived.Test.YthpcjddcgdlilaaGreatDoorM6
import Derived.Shelf.Unicode.DecodeSlow
import Derived.Lib.TrimUEq
import Derived.Lib.QuoteLoop
import Derived.Lib.ValidLaws
import Derived.Lib.ValidAsc
import Derived.Shelf.Small.Bits
import Derived.Shelf.Small.Wraps
import Derived.Shelf.Strconv.Itoa0
import Derived.Shelf.Unicode.Decode
import Derived.Shelf.Unicode.DecodeAny
import Derived.Ground.Names2Prog
import Derived.Shelf.Slices.SearchI
import Derived.Ground.SlsfProg
import Derived.Shelf.SlGeneric
import Derived.Shelf.SlSortCmp.WholeK
import Derived.Test.YthpcjddcgdlilaaGreatDoorProg
import Derived.Shelf.Unicode.ValidAny
import Derived.WalkKit
import Derived.WalkMore
import Derived.Handy
import Derived.StillTailTactics
import Derived.Shelf.SlSortCmp.NoneTotal
section
set_option linter.unusedVariables false
set_option linter.unusedSimpArgs false
set_option maxRecDepth 100000
set_option maxHeartbeats 4000000
open Go Go.Proofs Go.Ab
namespace Go.Ch
theorem fc_cloneS (l : List AxStep) (h : l.length ≤ 1000000000000) : FC Tryz.prog 67 [VL 2 stepT l] (app emp []) (VL 2 stepT l) (app emp []) := by
 refine .go Tryz.f67 ?_
 refine .len 0 (fun hl0 => ?_)
 refine .mid [.r []] ?_
 by_cases hn : l = []
 ·
  refine .any [.r []] ?_ ?_
  ·
   have e1 : (l : List AxStep) = [] := by
    simp [hn]
   exact .finE [.r [], .le (.nL 2 2)] [] (fun z0 => (VL 2 stepT z0, [])) ([] : List AxStep) (l : List AxStep) e1
  ·
   have e2 : (l : List AxStep) = ([] ++ l) := by
    simp [hn]
   exact .finE [.r [(2, X (Xap 2 stepT 24 [] l))], .le (.fr 2 [((([] ++ l).length) : Nat) = (List.map stepT ([] ++ l)).length] ⟨lm, trivial⟩)] [] (fun z0 => (VL 2 stepT z0, [])) (([] ++ l) : List AxStep) (l : List AxStep) e2
 ·
  have e3 : (l : List AxStep) = ([] ++ l) := by
   (first | omega | with_reducible exact fun h => h | (intro hq; rw [hq]; done) | (intro hq; rw [hq]; rfl) | (simp only [List.length_map]; done) | (simp only [List.length_map]; omega) | (simp; omega) | (simp; done))
  exact .finE [.r [(1, X (Xnn stepT l))], .f, .r [(2, X (Xap 2 stepT 24 [] l))], .le (.fr 2 [((([] ++ l).length) : Nat) = (List.map stepT ([] ++ l)).length] ⟨lm, trivial⟩)] [] (fun z0 => (VL 2 stepT z0, [])) (([] ++ l) : List AxStep) (l : List AxStep) e3

theorem fc_pairAxis (a b : List AxStep) (ha : a.length ≤ 1000000000000) (hb : b.length ≤ 1000000000000) (hp : 0 < a.length → 0 < b.length → PairOk a b) : FC Tryz.prog 34 [VL 2 stepT a, VL 2 stepT b] (app emp []) (.tup [VL 2 stepT (pA a b), VL 2 stepT (pB a b), VI 0]) (app emp []) := by
 refine .go Tryz.f34 ?_
 refine .len 0 (fun hl0 => ?_)
 refine .len 1 (fun hl1 => ?_)
 refine .br [.r [], .r [(1, X (Xl stepT a)), (5, Xv 1 (!((a.length : Int) == 0)) (Xl stepT b)), (6, Xv 1 (!((a.length : Int) == 0)) X0), (7, X (Xk' ((a.length : Int) == 0)))]] (((a.length : Int) == 0) || ((b.length : Int) == 0)) (fun h1 => ?_) (fun h1 => ?_)
 ·
  (try simp only [Bool.or_eq_true, Bool.or_eq_false_iff, beq_iff_eq, beq_eq_false_iff_ne, ne_eq] at h1)
  have e1 : ((pA a b) : List AxStep) = a := by
   (first | unfold pA | unfold pB)
   (first | rw [if_pos (by omega)] | rw [if_neg (by omega)])
  have e2 : ((pB a b) : List AxStep) = b := by
   (first | unfold pA | unfold pB)
   (first | rw [if_pos (by omega)] | rw [if_neg (by omega)])
  exact .finE [.r [(1, X (Xc1 96 (fc_cloneS a (by omega)) X0)), (3, X (Xc1 112 (fc_cloneS b (by omega)) X0))]] [] (fun (z0, z1) => (.tup [VL 2 stepT z0, VL 2 stepT z1, VI 0], [])) ((a : List AxStep), (b : List AxStep)) (((pA a b) : List AxStep), ((pB a b) : List AxStep)) (pr e1 e2)
 ·
  (try simp only [Bool.or_eq_true, Bool.or_eq_false_iff, beq_iff_eq, beq_eq_false_iff_ne, ne_eq] at h1)
  obtain ⟨p1, p2, p3, p4, p5⟩ := hp (by omega) (by omega)
  have e3 : ((pA a b) : List AxStep) = (pairX1 a b) := by
   (first | unfold pA | unfold pB)
   (first | rw [if_pos (by omega)] | rw [if_neg (by omega)])
  have e4 : ((pB a b) : List AxStep) = (pairX2 a b) := by
   (first | unfold pA | unfold pB)
   (first | rw [if_pos (by omega)] | rw [if_neg (by omega)])
  exact .finE [.r [(2, X (Xc1 104 (fc_axPair a b (by assumption) (by assumption) (by assumption) (by assumption) (by assumption)) X0))]] [] (fun (z0, z1) => (.tup [VL 2 stepT z0, VL 2 stepT z1, VI 0], [])) (((pairX1 a b) : List AxStep), ((pairX2 a b) : List AxStep)) (((pA a b) : List AxStep), ((pB a b) : List AxStep)) (pr e3 e4)

theorem fc_emptyR (c : Cell) : FC Tryz.prog 45 [.t (cellT c)] (app emp []) (VB (emptyC c)) (app emp []) := by
 refine .go Tryz.f45 ?_
 have e1 : ((emptyC c) : Bool) = ((seq c.text ({ data := #[] }) && (c.ref == 0)) && ((c.attrs.length : Int) == 0)) := by
  rfl
 exact .finE [.r [], .r [(5, Xv 1 (seq c.text ({ data := #[] })) X0), (6, Xv 1 (seq c.text ({ data := #[] })) X0), (7, X (Xk (seq c.text ({ data := #[] })))), (10, Xv 1 (seq c.text ({ data := #[] }) && (c.ref == 0)) X0), (11, Xv 1 (seq c.text ({ data := #[] }) && (c.ref == 0)) (Xl attrT c.attrs)), (12, Xv 1 (seq c.text ({ data := #[] }) && (c.ref == 0)) X0), (13, X (Xk (seq c.text ({ data := #[] }) && (c.ref == 0))))]] [] (fun z0 => (VB z0, [])) (((seq c.text ({ data := #[] }) && (c.ref == 0)) && ((c.attrs.length : Int) == 0)) : Bool) ((emptyC c) : Bool) e1

theorem fc_sameCellR (a b : Cell) : FC Tryz.prog 41 [.t (cellT a), .t (cellT b)] (app emp []) (VB (sameC a b)) (app emp []) := by
 refine .go Tryz.f41 ?_
 have e1 : ((sameC a b) : Bool) = (((((a.row == b.row) && (a.col == b.col)) && seq a.text b.text) && (a.ref == b.ref)) && (sameL a.attrs b.attrs)) := by
  rfl
 exact .finE [.r [], .r [(7, Xv 1 (a.row == b.row) X0), (9, Xv 1 (a.row == b.row) X0), (10, Xv 2 (a.row == b.row) X0), (11, X (Xk (a.row == b.row))), (14, Xv 1 ((a.row == b.row) && (a.col == b.col)) X0), (16, Xv 1 ((a.row == b.row) && (a.col == b.col)) X0), (17, Xv 2 ((a.row == b.row) && (a.col == b.col)) X0), (18, X (Xk ((a.row == b.row) && (a.col == b.col)))), (21, Xv 1 (((a.row == b.row) && (a.col == b.col)) && seq a.text b.text) X0), (23, Xv 1 (((a.row == b.row) && (a.col == b.col)) && seq a.text b.text) X0), (24, Xv 2 (((a.row == b.row) && (a.col == b.col)) && seq a.text b.text) X0), (25, X (Xk (((a.row == b.row) && (a.col == b.col)) && seq a.text b.text))), (28, Xv 1 ((((a.row == b.row) && (a.col == b.col)) && seq a.text b.text) && (a.ref == b.ref)) X0), (30, Xv 1 ((((a.row == b.row) && (a.col == b.col)) && seq a.text b.text) && (a.ref == b.ref)) X0), (31, Xv 2 ((((a.row == b.row) && (a.col == b.col)) && seq a.text b.text) && (a.ref == b.ref)) (Xc0 (fc_sameAttrs a.attrs b.attrs) X0)), (32, X (Xk ((((a.row == b.row) && (a.col == b.col)) && seq a.text b.text) && (a.ref == b.ref))))]] [] (fun z0 => (VB z0, [])) ((((((a.row == b.row) && (a.col == b.col)) && seq a.text b.text) && (a.ref == b.ref)) && (sameL a.attrs b.attrs)) : Bool) ((sameC a b) : Bool) e1

theorem fc_sameCells (a b : List Cell) : FC Tryz.prog 17 [VL 5 cellT a, VL 5 cellT b] (app emp []) (VB (sameCs a b)) (app emp []) := by
 refine .go Tryz.f17 ?_
 refine .len 0 (fun hl0 => ?_)
 refine .len 1 (fun hl1 => ?_)
 refine .br [.r [], .r [(1, X (Xl cellT a)), (3, X (Xl cellT b))]] ((a.length : Int) != (b.length : Int)) (fun h1 => ?_) (fun h1 => ?_)
 ·
  (try simp only [bne_iff_ne, bne_eq_false_iff_eq, ne_eq] at h1)
  have e1 : ((sameCs a b) : Bool) = false := by
   unfold sameCs; rw [if_neg (by omega)]
  exact .finE [.r []] [] (fun z0 => (VB z0, [])) (false : Bool) ((sameCs a b) : Bool) e1
 ·
  (try simp only [bne_iff_ne, bne_eq_false_iff_eq, ne_eq] at h1)
  refine .loop (α := Nat) [.r [(1, X (Xl cellT a))]] 72 (fun i => ([(0, VL 5 cellT a), (1, VL 5 cellT b), (12, VI (a.length : Int)), (13, VI (i : Int))], [])) (fun i => i ≤ a.length ∧ sameCells a b 0 = sameCells a b i) (fun i => a.length - i) (0 : Nat) ?_ ?_
  ·
   exact ⟨by omega, rfl⟩
  rintro i I4 ih4
  try dsimp only at I4
  refine .br [.r []] (decide ((i : Int) < (a.length : Int))) (fun h4 => ?_) (fun h4 => ?_)
  ·
   (try simp only [decide_eq_true_eq, decide_eq_false_iff_not, Int.not_lt, Int.not_le] at h4)
   refine .br [.r [], .r [(2, X (Xi cellT a (i : Int))), (6, X (Xi cellT b (i : Int))), (8, X (Xc0 (fc_sameCellR ((a.getD i default)) ((b.getD i default))) X0))]] (!(sameC ((a.getD i default)) ((b.getD i default)))) (fun h6 => ?_) (fun h6 => ?_)
   ·
    (try simp only [Bool.not_eq_true', Bool.not_eq_false'] at h6)
    have e2 : ((sameCs a b) : Bool) = false := by
     unfold sameCs; rw [if_pos (by omega), I4.2, sameCells, if_pos (by omega), if_neg]
     rw [h6]; decide
    exact .finE [.r []] [] (fun z0 => (VB z0, [])) (false : Bool) ((sameCs a b) : Bool) e2
   ·
    (try simp only [Bool.not_eq_true', Bool.not_eq_false'] at h6)
    refine .back [.r [(0, X (Xn ((i : Int) + 1)))]] [] (ih4 ((i + 1) : Nat) ?_ ?_)
    ·
     refine ⟨by omega, ?_⟩
     rw [I4.2, sameCells, if_pos (by omega), if_pos]
     exact h6
    ·
     ((try dsimp only); omega)
  ·
   (try simp only [decide_eq_true_eq, decide_eq_false_iff_not, Int.not_lt, Int.not_le] at h4)
   have e3 : ((sameCs a b) : Bool) = true := by
    unfold sameCs; rw [if_pos (by omega), I4.2, sameCells, if_neg (by omega)]
   exact .finE [.r []] [] (fun z0 => (VB z0, [])) (true : Bool) ((sameCs a b) : Bool) e3

theorem fc_lies (r : Rect) (m n : Int) (hb : 0 ≤ m ∧ m ≤ 1000000000000 ∧ 0 ≤ n ∧ n ≤ 1000000000000) : FC Tryz.prog 21 [.t (rectT r), VI m, VI n] (app emp []) (VB (insB r m n)) (app emp []) := by
 refine .go Tryz.f21 ?_
 have e1 : ((insB r m n) : Bool) = ((((decide (0 ≤ r.row ∧ r.row ≤ (m - 1))) && (decide (0 ≤ r.col ∧ r.col ≤ (n - 1)))) && (decide (1 ≤ r.h ∧ r.h ≤ (m - r.row)))) && (decide (1 ≤ r.w ∧ r.w ≤ (n - r.col)))) := by
  rw [lies_eq (by omega) (by omega)]; rw [Bool.eq_iff_iff]; simp; try omega
 exact .finE [.r [], .r [(3, X (Xn (m - 1))), (4, X (Xc0 (fc_in r.row 0 (m - 1)) X0)), (7, Xv 1 (decide (0 ≤ r.row ∧ r.row ≤ (m - 1))) X0), (9, Xv 1 (decide (0 ≤ r.row ∧ r.row ≤ (m - 1))) (Xn (n - 1))), (10, Xv 2 (decide (0 ≤ r.row ∧ r.row ≤ (m - 1))) (Xc0 (fc_in r.col 0 (n - 1)) X0)), (11, X (Xk (decide (0 ≤ r.row ∧ r.row ≤ (m - 1))))), (14, Xv 1 ((decide (0 ≤ r.row ∧ r.row ≤ (m - 1))) && (decide (0 ≤ r.col ∧ r.col ≤ (n - 1)))) X0), (17, Xv 1 ((decide (0 ≤ r.row ∧ r.row ≤ (m - 1))) && (decide (0 ≤ r.col ∧ r.col ≤ (n - 1)))) X0), (18, Xv 2 ((decide (0 ≤ r.row ∧ r.row ≤ (m - 1))) && (decide (0 ≤ r.col ∧ r.col ≤ (n - 1)))) (Xn (m - r.row))), (19, Xv 2 ((decide (0 ≤ r.row ∧ r.row ≤ (m - 1))) && (decide (0 ≤ r.col ∧ r.col ≤ (n - 1)))) (Xc0 (fc_in r.h 1 (m - r.row)) X0)), (20, X (Xk ((decide (0 ≤ r.row ∧ r.row ≤ (m - 1))) && (decide (0 ≤ r.col ∧ r.col ≤ (n - 1)))))), (23, Xv 1 (((decide (0 ≤ r.row ∧ r.row ≤ (m - 1))) && (decide (0 ≤ r.col ∧ r.col ≤ (n - 1)))) && (decide (1 ≤ r.h ∧ r.h ≤ (m - r.row)))) X0), (26, Xv 1 (((decide (0 ≤ r.row ∧ r.row ≤ (m - 1))) && (decide (0 ≤ r.col ∧ r.col ≤ (n - 1)))) && (decide (1 ≤ r.h ∧ r.h ≤ (m - r.row)))) X0), (27, Xv 2 (((decide (0 ≤ r.row ∧ r.row ≤ (m - 1))) && (decide (0 ≤ r.col ∧ r.col ≤ (n - 1)))) && (decide (1 ≤ r.h ∧ r.h ≤ (m - r.row)))) (Xn (n - r.col))), (28, Xv 2 (((decide (0 ≤ r.row ∧ r.row ≤ (m - 1))) && (decide (0 ≤ r.col ∧ r.col ≤ (n - 1)))) && (decide (1 ≤ r.h ∧ r.h ≤ (m - r.row)))) (Xc0 (fc_in r.w 1 (n - r.col)) X0)), (29, X (Xk (((decide (0 ≤ r.row ∧ r.row ≤ (m - 1))) && (decide (0 ≤ r.col ∧ r.col ≤ (n - 1)))) && (decide (1 ≤ r.h ∧ r.h ≤ (m - r.row))))))]] [] (fun z0 => (VB z0, [])) (((((decide (0 ≤ r.row ∧ r.row ≤ (m - 1))) && (decide (0 ≤ r.col ∧ r.col ≤ (n - 1)))) && (decide (1 ≤ r.h ∧ r.h ≤ (m - r.row)))) && (decide (1 ≤ r.w ∧ r.w ≤ (n - r.col)))) : Bool) ((insB r m n) : Bool) e1

theorem fc_share (a b : Rect) (ha : RB a) (hb : RB b) : FC Tryz.prog 22 [.t (rectT a), .t (rectT b)] (app emp []) (VB (shareB a b)) (app emp []) := by
 refine .go Tryz.f22 ?_
 unfold RB at ha hb
 have e1 : ((shareB a b) : Bool) = (decide ((max a.row b.row) < (min (a.row + a.h) (b.row + b.h))) && decide ((max a.col b.col) < (min (a.col + a.w) (b.col + b.w)))) := by
  rfl
 exact .finE [.r [], .r [(4, X (Xmax a.row b.row)), (9, X (Xmax a.col b.col))], .r [(5, X (Xn (a.row + a.h))), (10, X (Xn (b.row + b.h))), (11, X (Xmin (a.row + a.h) (b.row + b.h))), (16, Xv 1 (decide ((max a.row b.row) < (min (a.row + a.h) (b.row + b.h)))) X0), (18, Xv 1 (decide ((max a.row b.row) < (min (a.row + a.h) (b.row + b.h)))) X0), (19, Xv 2 (decide ((max a.row b.row) < (min (a.row + a.h) (b.row + b.h)))) (Xn (a.col + a.w))), (21, Xv 1 (decide ((max a.row b.row) < (min (a.row + a.h) (b.row + b.h)))) X0), (23, Xv 1 (decide ((max a.row b.row) < (min (a.row + a.h) (b.row + b.h)))) X0), (24, Xv 2 (decide ((max a.row b.row) < (min (a.row + a.h) (b.row + b.h)))) (Xn (b.col + b.w))), (25, Xv 2 (decide ((max a.row b.row) < (min (a.row + a.h) (b.row + b.h)))) (Xmin (a.col + a.w) (b.col + b.w))), (26, Xv 2 (decide ((max a.row b.row) < (min (a.row + a.h) (b.row + b.h)))) X0), (27, X (Xk (decide ((max a.row b.row) < (min (a.row + a.h) (b.row + b.h))))))]] [] (fun z0 => (VB z0, [])) ((decide ((max a.row b.row) < (min (a.row + a.h) (b.row + b.h))) && decide ((max a.col b.col) < (min (a.col + a.w) (b.col + b.w)))) : Bool) ((shareB a b) : Bool) e1
end Go.Ch
end
section
set_option linter.unusedVariables false
set_option linter.unusedSimpArgs false
namespace Go.Ch
open Go Go.Ab

def decR (u : ByteArray) : Int := ((Lib.decodeGo u).1 : Int)
def decW (u : ByteArray) : Nat := (Lib.decodeGo u).2
theorem decW_bd {u : ByteArray} (h : 0 < u.size) : 1 ≤ decW u ∧ decW u ≤ u.size := by
  unfold decW Lib.decodeGo
  rw [if_neg (by omega)]
  have hl : u.data.toList.length = u.size := by rw [Array.length_toList]; rfl
  rw [Lib.decode_N]
  have h1 := Lib.decodeN_ge1 (u.data.toList.length - 0) (u.data.toList.getD 0 0).toNat (u.data.toList.getD (0 + 1) 0).toNat (u.data.toList.getD (0 + 2) 0).toNat (u.data.toList.getD (0 + 3) 0).toNat
  have h2 := Lib.decodeN_width_le (u.data.toList.length - 0) (u.data.toList.getD 0 0).toNat (u.data.toList.getD (0 + 1) 0).toNat (u.data.toList.getD (0 + 2) 0).toNat (u.data.toList.getD (0 + 3) 0).toNat (by omega)
  omega
theorem decR_bd (u : ByteArray) : 0 ≤ decR u ∧ decR u ≤ 1114111 := by
  unfold decR Lib.decodeGo
  split
  · decide
  · have := Lib.rune_le u 0; omega
def badT (u : ByteArray) : Prop := (decR u = 65533 ∧ decW u = 1) ∨ decR u = 10 ∨ ¬ CharP (decR u)
instance (u : ByteArray) : Decidable (badT u) := by unfold badT CharP; infer_instance
/-- A string that can be the text of a cell. -/
def textG (u : ByteArray) : Bool := if h : 0 < u.size then (if badT u then false else textG (u.extract (decW u) u.size)) else true
termination_by u.size
decreasing_by
  have := decW_bd h
  rw [ByteArray.size_extract]
  omega
theorem textG_bad {u : ByteArray} (h : 0 < u.size) (hb : badT u) : textG u = false := by rw [textG, dif_pos h, if_pos hb]
theorem textG_go {u : ByteArray} (h : 0 < u.size) (hb : ¬ badT u) : textG u = textG (u.extract (decW u) u.size) := by
  conv => lhs; rw [textG]
  rw [dif_pos h, if_neg hb]
theorem textG_end {u : ByteArray} (h : ¬ 0 < u.size) : textG u = true := by rw [textG, dif_neg h]
theorem u_len (u : ByteArray) : u.data.toList.length = u.size := by rw [Array.length_toList]; rfl
theorem decL_eq {u : ByteArray} (h : 0 < u.size) : Lib.decodeL u.data.toList = Lib.decodeGo u := by
  unfold Lib.decodeL Lib.decodeGo
  rw [if_neg (by omega)]
theorem valid_at {u : ByteArray} (h : 0 < u.size) : Lib.validD u.data.toList = if decR u = 65533 ∧ decW u = 1 then false else Lib.validD (u.extract (decW u) u.size).data.toList := by
  have hne : u.data.toList ≠ [] := by
    intro e
    have := u_len u
    rw [e] at this
    simp at this; omega
  rw [Lib.validD_step _ hne, decL_eq h, Lib.ext_list]
  unfold decR decW
  have : ((Lib.decodeGo u).1 = 65533 ∧ (Lib.decodeGo u).2 = 1) ↔ (((Lib.decodeGo u).1 : Int) = 65533 ∧ (Lib.decodeGo u).2 = 1) := by omega
  simp only [this]
theorem text_valid : ∀ (n : Nat) (u : ByteArray), u.size = n → Lib.validD u.data.toList = false → textG u = false := by
  intro n
  induction n using Nat.strongRecOn with
  | ind n ih =>
    intro u hn hv
    by_cases h : 0 < u.size
    · rw [valid_at h] at hv
      split at hv
      · rename_i hb
        exact textG_bad h (.inl hb)
      · by_cases hb : badT u
        · exact textG_bad h hb
        · rw [textG_go h hb]
          have := decW_bd h
          exact ih (u.extract (decW u) u.size).size (by rw [ByteArray.size_extract]; omega) _ rfl hv
    · exfalso
      have : u.data.toList = [] := List.length_eq_zero_iff.1 (by rw [u_len]; omega)
      rw [this, Lib.validD_nil] at hv
      cases hv
/-- The rest of a string, from a place on. -/
def tailG (u : ByteArray) (p : Nat) : ByteArray := u.extract p u.size
theorem tailG_size (u : ByteArray) (p : Nat) (h : p ≤ u.size) : (tailG u p).size = u.size - p := by unfold tailG; rw [ByteArray.size_extract]; omega
theorem dec_tail {u : ByteArray} {p : Nat} (h : p < u.size) : Utf8.decode u p = Lib.decodeGo (tailG u p) := by
  have hx : (tailG u p).data.toList = u.data.toList.drop p := Lib.ext_list u p
  have hsz : (tailG u p).size ≠ 0 := by rw [tailG_size u p (by omega)]; omega
  unfold Lib.decodeGo
  rw [if_neg hsz, ← Lib.decodeL_drop u p, ← hx]
  rfl
theorem tail_tail (u : ByteArray) (p w : Nat) (h : p ≤ u.size) : (tailG u p).extract w (tailG u p).size = tailG u (p + w) := by
  unfold tailG
  apply ByteArray.ext
  simp only [ByteArray.data_extract, ByteArray.size_extract]
  rw [Array.extract_extract]
  congr 1 <;> omega
theorem tail0 (u : ByteArray) : tailG u 0 = u := by
  unfold tailG
  exact ByteArray.extract_zero_size
/-- What the loop over the characters keeps. -/
structure CtI (u : ByteArray) (p : Nat) : Prop where
  le : p ≤ u.size
  val : Lib.validD (tailG u p).data.toList = true
  eq : textG u = textG (tailG u p)
theorem CtI.start {u : ByteArray} (h : Lib.validD u.data.toList = true) : CtI u 0 := ⟨Nat.zero_le _, by rw [tail0]; exact h, by rw [tail0]⟩
theorem CtI.done {u : ByteArray} {p : Nat} (h : CtI u p) (hp : ¬ p < u.size) : textG u = true := by
  rw [h.eq]; exact textG_end (by rw [tailG_size u p h.le]; omega)
theorem CtI.next {u : ByteArray} {p : Nat} (h : CtI u p) (hp : p < u.size) : p < p + (Utf8.decode u p).2 ∧ p + (Utf8.decode u p).2 ≤ u.size ∧ 0 ≤ ((Utf8.decode u p).1 : Int) ∧ ((Utf8.decode u p).1 : Int) ≤ 1114111 ∧
    (((Utf8.decode u p).1 : Int) = 10 ∨ ¬ CharP ((Utf8.decode u p).1 : Int) → textG u = false) ∧ (¬ ((Utf8.decode u p).1 : Int) = 10 → CharP ((Utf8.decode u p).1 : Int) → CtI u (p + (Utf8.decode u p).2)) := by
  have hs := tailG_size u p h.le
  have h0 : 0 < (tailG u p).size := by omega
  rw [dec_tail hp]
  have hw := decW_bd h0
  have hr := decR_bd (tailG u p)
  have hv := h.val
  rw [valid_at h0] at hv
  split at hv
  · cases hv
  · rename_i hb
    have e1 : ((Lib.decodeGo (tailG u p)).1 : Int) = decR (tailG u p) := rfl
    have e2 : (Lib.decodeGo (tailG u p)).2 = decW (tailG u p) := rfl
    rw [e1, e2]
    refine ⟨by omega, by omega, hr.1, hr.2, fun q => ?_, fun q1 q2 => ?_⟩
    · rw [h.eq]; exact textG_bad h0 (.inr q)
    · have hn : ¬ badT (tailG u p) := fun q => by
        rcases q with q | q | q
        · exact hb q
        · exact q1 q
        · exact q q2
      refine ⟨by omega, ?_, ?_⟩
      · rw [← tail_tail u p _ h.le]; exact hv
      · rw [← tail_tail u p _ h.le, h.eq, textG_go h0 hn]
end Go.Ch
end
section
set_option linter.unusedVariables false
namespace Go.Ch
open Go Go.Ab

theorem ordC_def (a b : Cell) : ordC a b = if a.row < b.row then -1 else if a.row > b.row then 1 else if a.col < b.col then -1 else if a.col > b.col then 1 else 0 := by
  unfold ordC
  simp only [orL]
  unfold cmpI
  by_cases h1 : a.row < b.row
  · rw [if_pos h1, if_pos (by decide), if_pos h1]
  · rw [if_neg h1, if_neg h1]
    by_cases h2 : a.row > b.row
    · rw [if_pos h2, if_pos (by decide), if_pos h2]
    · rw [if_neg h2, if_neg (by decide), if_neg h2]
      by_cases h3 : a.col < b.col
      · rw [if_pos h3, if_pos (by decide)]
      · rw [if_neg h3]
        by_cases h4 : a.col > b.col
        · rw [if_pos h4, if_pos (by decide)]
        · rw [if_neg h4, if_neg (by decide)]
theorem ordC_lt {a b : Cell} : ordC a b < 0 ↔ a.row < b.row ∨ (a.row = b.row ∧ a.col < b.col) := by
  rw [ordC_def]; repeat' split
  all_goals omega
theorem ordC_ge {a b : Cell} : 0 ≤ ordC a b ↔ b.row < a.row ∨ (b.row = a.row ∧ b.col ≤ a.col) := by
  rw [ordC_def]; repeat' split
  all_goals omega
theorem ordC_eq {a b : Cell} : ordC a b = 0 ↔ a.row = b.row ∧ a.col = b.col := by
  rw [ordC_def]; repeat' split
  all_goals omega
def cellE (c : Cell) (m n : Int) (none : Bool) : Int :=
  if c.row < 0 ∨ m ≤ c.row ∨ c.col < 0 ∨ n ≤ c.col then 2
  else if c.ref < 0 ∨ 1073741824 < c.ref then 2
  else if textG c.text = false then 23
  else if ¬ chkA false c.attrs 0 = 0 then chkA false c.attrs 0
  else if emptyC c = true ∧ none = false then 4 else 0
def cellsE (l : List Cell) (m n : Int) (none : Bool) (i : Nat) : Int :=
  if i < l.length then
    (if ¬ cellE (l.getD i default) m n none = 0 then cellE (l.getD i default) m n none
     else if 0 < i ∧ 0 ≤ ordC (l.getD (i - 1) default) (l.getD i default) then 5 else cellsE l m n none (i + 1))
  else 0
termination_by l.length - i
/-- Strings and lists of a cell are of a size that there can be. -/
def SzC (l : List Cell) : Prop := ∀ c ∈ l, c.text.size ≤ 9223372036854775807 ∧ Szd c.attrs
theorem SzC.at_ {l : List Cell} (h : SzC l) {i : Nat} (hi : i < l.length) : (l.getD i default).text.size ≤ 9223372036854775807 ∧ Szd (l.getD i default).attrs := h _ (getDX_mem hi)
/-! ### Rectangles -/
def anyM (l : List Rect) (r : Rect) : Bool := l.any (fun q => meetB q r)
def mergE (l : List Rect) (m n : Int) (i : Nat) : Int :=
  if i < l.length then
    (if insB (l.getD i default) m n = false then 2
     else if (l.getD i default).h = 1 ∧ (l.getD i default).w = 1 then 4
     else if 0 < i ∧ befB (l.getD (i - 1) default) (l.getD i default) = false then 5
     else if anyM (l.take i) (l.getD i default) = true then 21
     else mergE l m n (i + 1))
  else 0
termination_by l.length - i
def gridE (g : Grid) : Int :=
  if g.rows < 0 ∨ 2147483647 < g.rows ∨ g.cols < 0 ∨ 2147483647 < g.cols then 2
  else if ¬ cellsE g.cells g.rows g.cols false 0 = 0 then cellsE g.cells g.rows g.cols false 0
  else mergE g.merges g.rows g.cols 0
/-- The index of the first element with a property. -/
def idxF {α : Type} [Inhabited α] (p : α → Bool) (l : List α) (i : Nat) : Int := if i < l.length then (if p (l.getD i default) = true then (i : Int) else idxF p l (i + 1)) else -1
termination_by l.length - i
theorem idxF_ge {α : Type} [Inhabited α] (p : α → Bool) {l : List α} : ∀ (n i : Nat), l.length - i = n → (0 ≤ idxF p l i ↔ (l.drop i).any p = true)
  | 0, i, h => by rw [idxF, if_neg (by omega), List.drop_eq_nil_of_le (by omega)]; simp
  | n + 1, i, h => by
    have hi : i < l.length := by omega
    rw [idxF, if_pos hi, drop_succD hi, List.any_cons]
    by_cases hp : p (l.getD i default) = true
    · rw [if_pos hp, hp]; simp
    · rw [if_neg hp, idxF_ge p n (i + 1) (by omega)]
      simp only [Bool.not_eq_true] at hp
      rw [hp, Bool.false_or]
theorem idxF_any {α : Type} [Inhabited α] (p : α → Bool) (l : List α) : (0 ≤ idxF p l 0) = ((l.any p) = true) := propext (by rw [idxF_ge p _ 0 rfl, List.drop_zero])
def AllRB (l : List Rect) : Prop := ∀ q ∈ l, RB q
theorem insB_iff {r : Rect} {m n : Int} : insB r m n = true ↔ 0 ≤ r.row ∧ 0 ≤ r.col ∧ 1 ≤ r.h ∧ 1 ≤ r.w ∧ r.row < m ∧ r.col < n ∧ r.h ≤ m - r.row ∧ r.w ≤ n - r.col := by
  unfold insB; rw [decide_eq_true_eq]
theorem RB_ins {r : Rect} {m n : Int} (h : insB r m n = true) (hm : m ≤ 1000000000000) (hn : n ≤ 1000000000000) : RB r := by
  have := insB_iff.1 h
  unfold RB; omega
theorem befB_iff {a b : Rect} : befB a b = true ↔ a.row < b.row ∨ (a.row = b.row ∧ a.col < b.col) := by unfold befB; rw [decide_eq_true_eq]
theorem bef_f {a b : Rect} : befB a b = false ↔ b.row < a.row ∨ (b.row = a.row ∧ b.col ≤ a.col) := by unfold befB; rw [decide_eq_false_iff_not]; omega
theorem meetB_iff {a b : Rect} : meetB a b = true ↔ a.row < b.row + b.h ∧ b.row < a.row + a.h ∧ a.col < b.col + b.w ∧ b.col < a.col + a.w := by unfold meetB; rw [decide_eq_true_eq]
theorem meetB_comm (a b : Rect) : meetB a b = meetB b a := by
  rw [Bool.eq_iff_iff, meetB_iff, meetB_iff]; omega
/-- All of the first rectangles lie within. -/
def InsTo (l : List Rect) (m n : Int) (i : Nat) : Prop := ∀ k, k < i → insB (l.getD k default) m n = true
theorem InsTo.all {l : List Rect} {m n : Int} {i : Nat} (h : InsTo l m n i) (hi : i ≤ l.length) (hm : m ≤ 1000000000000) (hn : n ≤ 1000000000000) : AllRB (l.take i) := fun q hq => by
  obtain ⟨k, hk, rfl⟩ := List.mem_iff_getElem.1 hq
  have h2 : k < i := by rw [List.length_take] at hk; omega
  have := RB_ins (h k h2) hm hn
  rw [List.getElem_take]
  rwa [List.getD_eq_getElem?_getD, List.getElem?_eq_getElem (by omega)] at this
theorem InsTo.succ {l : List Rect} {m n : Int} {i : Nat} (h : InsTo l m n i) (h2 : insB (l.getD i default) m n = true) : InsTo l m n (i + 1) := fun k hk => by
  by_cases e : k = i
  · rw [e]; exact h2
  · exact h k (by omega)
theorem anyM_take {l : List Rect} {r : Rect} {i : Nat} : anyM (l.take i) r = true ↔ ∃ k, k < i ∧ k < l.length ∧ meetB (l.getD k default) r = true := by
  unfold anyM
  rw [List.any_eq_true]
  constructor
  · rintro ⟨q, hq, hm⟩
    obtain ⟨k, hk, rfl⟩ := List.mem_iff_getElem.1 hq
    rw [List.length_take] at hk
    rw [List.getElem_take] at hm
    refine ⟨k, by omega, by omega, ?_⟩
    rwa [List.getD_eq_getElem?_getD, List.getElem?_eq_getElem (by omega)]
  · rintro ⟨k, h1, h2, hm⟩
    refine ⟨l.getD k default, ?_, hm⟩
    have : (l.take i).getD k default ∈ l.take i := getDX_mem (by rw [List.length_take]; omega)
    rwa [List.getD_eq_getElem?_getD, List.getElem?_take_of_lt h1, ← List.getD_eq_getElem?_getD] at this
end Go.Ch
end
section
namespace Go.Proofs
open Go.Shelf
def Tryz.lays128_ren : Go.Shelf.Ren := ⟨fun | 128 => 105 | n => n, fun | 51 => 150 | 3 => 3 | 4 => 4 | 46 => 128 | 5 => 5 | 9 => 9 | n => n, fun | n => n⟩
def Tryz.lays125_ren : Go.Shelf.Ren := ⟨fun | 125 => 86 | 128 => 105 | 129 => 106 | n => n, fun | 46 => 128 | 3 => 3 | 51 => 150 | 53 => 152 | 4 => 4 | 5 => 5 | 9 => 9 | n => n, fun | n => n⟩
def Tryz.lays215_ren : Go.Shelf.Ren := ⟨fun | 215 => 87 | n => n, fun | 3 => 3 | 4 => 4 | n => n, fun | n => n⟩
def Tryz.lays122_ren : Go.Shelf.Ren := ⟨fun | 122 => 62 | 215 => 87 | n => n, fun | 3 => 3 | 4 => 4 | n => n, fun | n => n⟩
def Tryz.lays129_ren : Go.Shelf.Ren := ⟨fun | 129 => 106 | n => n, fun | 53 => 152 | 3 => 3 | 4 => 4 | 46 => 128 | 5 => 5 | 9 => 9 | n => n, fun | n => n⟩
def Tryz.lays197_ren : Go.Shelf.Ren := ⟨fun | 197 => 108 | 260 => 116 | n => n, fun | 9 => 9 | 21 => 21 | 3 => 3 | 4 => 4 | 5 => 5 | 105 => 153 | 119 => 138 | 0 => 0 | 46 => 128 | 139 => 141 | 138 => 140 | n => n, fun | 3 => 0 | 4 => 1 | n => n⟩
theorem Tryz.lays197 : Go.Proofs.Lays.n197 Tryz.prog Tryz.lays197_ren := {
  mixed := by kernel_rfl
  f197 := Tryz.func108.trans (congrArg some (by kernel_rfl))
  f260 := Tryz.func116.trans (congrArg some (by kernel_rfl))
  t0 := Tryz.underlying0
  a0 := Tryz.isAgg0
  z0 := Tryz.sizeOf0
  v0 := Tryz.zeroValue0
  t3 := Tryz.underlying3
  a3 := Tryz.isAgg3
  z3 := Tryz.sizeOf3
  v3 := Tryz.zeroValue3
  t4 := Tryz.underlying4
  a4 := Tryz.isAgg4
  z4 := Tryz.sizeOf4
  v4 := Tryz.zeroValue4
  t5 := Tryz.underlying5
  a5 := Tryz.isAgg5
  z5 := Tryz.sizeOf5
  v5 := Tryz.zeroValue5
  t9 := Tryz.underlying9
  a9 := Tryz.isAgg9
  z9 := Tryz.sizeOf9
  v9 := Tryz.zeroValue9
  t21 := Tryz.underlying21
  a21 := Tryz.isAgg21
  z21 := Tryz.sizeOf21
  v21 := Tryz.zeroValue21
  t46 := Tryz.underlying128
  a46 := Tryz.isAgg128
  z46 := Tryz.sizeOf128
  v46 := Tryz.zeroValue128
  t105 := Tryz.underlying153
  a105 := Tryz.isAgg153
  z105 := Tryz.sizeOf153
  v105 := Tryz.zeroValue153
  t119 := Tryz.underlying138
  a119 := Tryz.isAgg138
  z119 := Tryz.sizeOf138
  t138 := Tryz.underlying140
  a138 := Tryz.isAgg140
  z138 := Tryz.sizeOf140
  v138 := Tryz.zeroValue140
  t139 := Tryz.underlying141
  a139 := Tryz.isAgg141
  z139 := Tryz.sizeOf141
  v139 := Tryz.zeroValue141
  g3 := by kernel_rfl
  g4 := by kernel_rfl }
def Tryz.lays260_ren : Go.Shelf.Ren := ⟨fun | 260 => 116 | n => n, fun | 9 => 9 | 21 => 21 | 3 => 3 | 4 => 4 | 5 => 5 | 119 => 138 | 0 => 0 | 46 => 128 | 139 => 141 | 138 => 140 | n => n, fun | 3 => 0 | 4 => 1 | n => n⟩
theorem Tryz.lays260 : Go.Proofs.Lays.n260 Tryz.prog Tryz.lays260_ren := {
  mixed := by kernel_rfl
  f260 := Tryz.func116.trans (congrArg some (by kernel_rfl))
  t0 := Tryz.underlying0
  a0 := Tryz.isAgg0
  z0 := Tryz.sizeOf0
  v0 := Tryz.zeroValue0
  t3 := Tryz.underlying3
  a3 := Tryz.isAgg3
  z3 := Tryz.sizeOf3
  v3 := Tryz.zeroValue3
  t4 := Tryz.underlying4
  a4 := Tryz.isAgg4
  z4 := Tryz.sizeOf4
  v4 := Tryz.zeroValue4
  t5 := Tryz.underlying5
  a5 := Tryz.isAgg5
  z5 := Tryz.sizeOf5
  v5 := Tryz.zeroValue5
  t9 := Tryz.underlying9
  a9 := Tryz.isAgg9
  z9 := Tryz.sizeOf9
  v9 := Tryz.zeroValue9
  t21 := Tryz.underlying21
  a21 := Tryz.isAgg21
  z21 := Tryz.sizeOf21
  v21 := Tryz.zeroValue21
  t46 := Tryz.underlying128
  a46 := Tryz.isAgg128
  z46 := Tryz.sizeOf128
  v46 := Tryz.zeroValue128
  t119 := Tryz.underlying138
  a119 := Tryz.isAgg138
  z119 := Tryz.sizeOf138
  t138 := Tryz.underlying140
  a138 := Tryz.isAgg140
  z138 := Tryz.sizeOf140
  v138 := Tryz.zeroValue140
  t139 := Tryz.underlying141
  a139 := Tryz.isAgg141
  z139 := Tryz.sizeOf141
  v139 := Tryz.zeroValue141
  g3 := by kernel_rfl
  g4 := by kernel_rfl }
open Go.RowKit Go.Lib in
/-- **unicode/utf8.DecodeRuneInString AT EVERY STRING.** (LAID: no walk: one application.) -/
theorem Tryz.utf8_DecodeRuneInString (s : ByteArray) (w : World) (hT : Lib.Utf8Tabs 0 1 w) :
    Calls Tryz.prog 108 #[.string s] w fun e w' => e = .returned (.tuple #[.int .i32 (Lib.decodeGo s).1, .int .i64 (Lib.decodeGo s).2]) ∧ Below w.heap.size w w' := Any.utf8_DecodeRuneInString Tryz.lays197 s w hT
def Tryz.laysNm237_ren : Go.Shelf.Ren := ⟨fun | 37 => 87 | n => n, fun | 3 => 3 | 4 => 4 | n => n, fun | n => n⟩
theorem Tryz.laysNm237 : Go.Proofs.Lays2.n37 Tryz.prog Tryz.laysNm237_ren := {
  mixed := by kernel_rfl
  f37 := Tryz.func87.trans (congrArg some (by kernel_rfl))
  t3 := Tryz.underlying3
  a3 := Tryz.isAgg3
  z3 := Tryz.sizeOf3
  v3 := Tryz.zeroValue3
  t4 := Tryz.underlying4
  a4 := Tryz.isAgg4
  z4 := Tryz.sizeOf4
  v4 := Tryz.zeroValue4 }
open Go.RowKit Go.Lib in
/-- cmp.isNaN[int]: 'x != x': false. (LAID: no walk: one application.) -/
theorem Tryz.cmp_isNaN_int2 (x : Int) (w : World) :
    Calls Tryz.prog 87 #[.int .i64 x] w fun e w' => e = .returned (.bool false) ∧ w' = w := Any.cmp_isNaN_int2 Tryz.laysNm237 x w
def Tryz.laysValid_ren : Go.Shelf.Ren := ⟨fun | 196 => 74 | 259 => 96 | n => n, fun | 9 => 9 | 4 => 4 | 3 => 3 | 5 => 5 | 12 => 12 | 119 => 138 | 0 => 0 | 46 => 128 | 139 => 141 | 138 => 140 | 53 => 152 | n => n, fun | 3 => 0 | 4 => 1 | n => n⟩
theorem Tryz.laysValid : Go.Proofs.Lays.n196 Tryz.prog Tryz.laysValid_ren := {
  mixed := by kernel_rfl
  f196 := Tryz.func74.trans (congrArg some (by kernel_rfl))
  f259 := Tryz.func96.trans (congrArg some (by kernel_rfl))
  t0 := Tryz.underlying0
  a0 := Tryz.isAgg0
  z0 := Tryz.sizeOf0
  v0 := Tryz.zeroValue0
  t3 := Tryz.underlying3
  a3 := Tryz.isAgg3
  z3 := Tryz.sizeOf3
  v3 := Tryz.zeroValue3
  t4 := Tryz.underlying4
  a4 := Tryz.isAgg4
  z4 := Tryz.sizeOf4
  v4 := Tryz.zeroValue4
  t5 := Tryz.underlying5
  a5 := Tryz.isAgg5
  z5 := Tryz.sizeOf5
  v5 := Tryz.zeroValue5
  t9 := Tryz.underlying9
  a9 := Tryz.isAgg9
  z9 := Tryz.sizeOf9
  v9 := Tryz.zeroValue9
  t12 := Tryz.underlying12
  a12 := Tryz.isAgg12
  z12 := Tryz.sizeOf12
  v12 := Tryz.zeroValue12
  t46 := Tryz.underlying128
  a46 := Tryz.isAgg128
  z46 := Tryz.sizeOf128
  v46 := Tryz.zeroValue128
  t53 := Tryz.underlying152
  a53 := Tryz.isAgg152
  z53 := Tryz.sizeOf152
  v53 := Tryz.zeroValue152
  t119 := Tryz.underlying138
  a119 := Tryz.isAgg138
  z119 := Tryz.sizeOf138
  t138 := Tryz.underlying140
  a138 := Tryz.isAgg140
  z138 := Tryz.sizeOf140
  v138 := Tryz.zeroValue140
  t139 := Tryz.underlying141
  a139 := Tryz.isAgg141
  z139 := Tryz.sizeOf141
  v139 := Tryz.zeroValue141
  g3 := by kernel_rfl
  g4 := by kernel_rfl }
def Tryz.sortQ_ren : Go.Shelf.Ren := ⟨fun | 6 => 59 | 15 => 86 | 14 => 85 | 28 => 105 | 29 => 106 | 20 => 97 | 21 => 98 | 22 => 99 | 23 => 100 | 24 => 101 | 25 => 102 | 26 => 103 | 27 => 104 | 46 => 111 | 47 => 112 | 48 => 113 | 49 => 114 | 50 => 115 | 57 => 119 | n => n, fun | 22 => 23 | 24 => 46 | 25 => 105 | 3 => 3 | 39 => 128 | 0 => 0 | 53 => 150 | 55 => 152 | 4 => 4 | 46 => 144 | 45 => 143 | 50 => 80 | 5 => 5 | 9 => 9 | 66 => 155 | 70 => 159 | 76 => 161 | 77 => 61 | n => n, fun | n => n⟩
theorem Tryz.sortQ : Go.Proofs.SlLaysF0.n6 Tryz.prog Tryz.sortQ_ren := {
  mixed := by kernel_rfl
  f6 := ⟨Tryz.f59.name, by decide, Tryz.func59.trans (congrArg some (by kernel_rfl))⟩
  f14 := ⟨Tryz.f85.name, by decide, Tryz.func85.trans (congrArg some (by kernel_rfl))⟩
  f15 := Tryz.func86.trans (congrArg some (by kernel_rfl))
  f20 := ⟨Tryz.f97.name, by decide, Tryz.func97.trans (congrArg some (by kernel_rfl))⟩
  f21 := ⟨Tryz.f98.name, by decide, Tryz.func98.trans (congrArg some (by kernel_rfl))⟩
  f22 := ⟨Tryz.f99.name, by decide, Tryz.func99.trans (congrArg some (by kernel_rfl))⟩
  f23 := ⟨Tryz.f100.name, by decide, Tryz.func100.trans (congrArg some (by kernel_rfl))⟩
  f24 := ⟨Tryz.f101.name, by decide, Tryz.func101.trans (congrArg some (by kernel_rfl))⟩
  f25 := ⟨Tryz.f102.name, by decide, Tryz.func102.trans (congrArg some (by kernel_rfl))⟩
  f26 := ⟨Tryz.f103.name, by decide, Tryz.func103.trans (congrArg some (by kernel_rfl))⟩
  f27 := ⟨Tryz.f104.name, by decide, Tryz.func104.trans (congrArg some (by kernel_rfl))⟩
  f28 := Tryz.func105.trans (congrArg some (by kernel_rfl))
  f29 := Tryz.func106.trans (congrArg some (by kernel_rfl))
  f46 := ⟨Tryz.f111.name, by decide, Tryz.func111.trans (congrArg some (by kernel_rfl))⟩
  f47 := Tryz.func112.trans (congrArg some (by kernel_rfl))
  f48 := Tryz.func113.trans (congrArg some (by kernel_rfl))
  f49 := ⟨Tryz.f114.name, by decide, Tryz.func114.trans (congrArg some (by kernel_rfl))⟩
  f50 := ⟨Tryz.f115.name, by decide, Tryz.func115.trans (congrArg some (by kernel_rfl))⟩
  f57 := ⟨Tryz.f119.name, by decide, Tryz.func119.trans (congrArg some (by kernel_rfl))⟩
  t0 := Tryz.underlying0
  a0 := Tryz.isAgg0
  z0 := Tryz.sizeOf0
  v0 := Tryz.zeroValue0
  t3 := Tryz.underlying3
  a3 := Tryz.isAgg3
  z3 := Tryz.sizeOf3
  v3 := Tryz.zeroValue3
  t4 := Tryz.underlying4
  a4 := Tryz.isAgg4
  z4 := Tryz.sizeOf4
  v4 := Tryz.zeroValue4
  t5 := Tryz.underlying5
  a5 := Tryz.isAgg5
  z5 := Tryz.sizeOf5
  v5 := Tryz.zeroValue5
  t9 := Tryz.underlying9
  a9 := Tryz.isAgg9
  z9 := Tryz.sizeOf9
  v9 := Tryz.zeroValue9
  t22 := Tryz.underlying23
  a22 := Tryz.isAgg23
  z22 := Tryz.sizeOf23
  v22 := Tryz.zeroValue23
  t25 := Tryz.underlying105
  a25 := Tryz.isAgg105
  z25 := Tryz.sizeOf105
  v25 := Tryz.zeroValue105
  t39 := Tryz.underlying128
  a39 := Tryz.isAgg128
  z39 := Tryz.sizeOf128
  v39 := Tryz.zeroValue128
  t45 := Tryz.underlying143
  a45 := Tryz.isAgg143
  z45 := Tryz.sizeOf143
  v45 := Tryz.zeroValue143
  t46 := Tryz.underlying144
  a46 := Tryz.isAgg144
  z46 := Tryz.sizeOf144
  v46 := Tryz.zeroValue144
  t50 := Tryz.underlying80
  a50 := Tryz.isAgg80
  z50 := Tryz.sizeOf80
  v50 := Tryz.zeroValue80
  t53 := Tryz.underlying150
  a53 := Tryz.isAgg150
  z53 := Tryz.sizeOf150
  v53 := Tryz.zeroValue150
  t55 := Tryz.underlying152
  a55 := Tryz.isAgg152
  z55 := Tryz.sizeOf152
  v55 := Tryz.zeroValue152
  t66 := Tryz.underlying155
  a66 := Tryz.isAgg155
  z66 := Tryz.sizeOf155
  v66 := Tryz.zeroValue155
  t70 := Tryz.underlying159
  a70 := Tryz.isAgg159
  z70 := Tryz.sizeOf159
  v70 := Tryz.zeroValue159
  t76 := Tryz.underlying161
  a76 := Tryz.isAgg161
  z76 := Tryz.sizeOf161
  v76 := Tryz.zeroValue161
  t77 := Tryz.underlying61
  a77 := Tryz.isAgg61
  z77 := Tryz.sizeOf61
  v77 := Tryz.zeroValue61 }
end Go.Proofs
end
section
set_option linter.unusedVariables false
set_option linter.unusedSimpArgs false
set_option maxRecDepth 100000
set_option maxHeartbeats 4000000
open Go Go.Proofs Go.Ab
namespace Go.Ch
theorem fc_decG (s : ByteArray) : FC Tryz.prog 108 [VS s] (app emp []) (.tup [.t (.sc (.int .i32 (decR s))), VI (decW s : Int)]) (app emp []) := by
  refine FC.ofTab (us := [.string s]) (v := .tuple #[.int .i32 (Lib.decodeGo s).1, .int .i64 (Lib.decodeGo s).2]) (fun st m w ok xs hl hv => ?_) (fun st m w ok => ?_) (fun w hT => ?_)
  · match xs, hl with
    | [x], _ =>
      have := VRel.sc_inv (hv 0 _ _ rfl rfl)
      rw [this]
  · refine .tup _ [.int .i32 (Lib.decodeGo s).1, .int .i64 (Lib.decodeGo s).2] rfl (fun i v u h1 h2 => ?_)
    match i with
    | 0 => cases h1; cases h2; exact .t _ _ (.sc _ rfl)
    | 1 => cases h1; cases h2; exact .t _ _ (.sc _ rfl)
    | i + 2 => cases h1
  · exact Tryz.utf8_DecodeRuneInString s w (hT 0 1 (by kernel_rfl) (by kernel_rfl))
theorem fc_validS (s : ByteArray) (hs : s.size ≤ 9223372036854775807) : FC Tryz.prog 74 [VS s] (app emp []) (VB (Lib.validD s.data.toList)) (app emp []) := by
  refine FC.ofTab (us := [.string s]) (v := .bool (Lib.validD s.data.toList)) (fun st m w ok xs hl hv => ?_) (fun st m w ok => .t _ _ (.sc _ rfl)) (fun w hT => ?_)
  · match xs, hl with
    | [x], _ =>
      have := VRel.sc_inv (hv 0 _ _ rfl rfl)
      rw [this]
  · exact Any.utf8_ValidString Tryz.laysValid s w hs (hT 0 1 (by kernel_rfl) (by kernel_rfl))
end Go.Ch
end
section
set_option linter.unusedVariables false
set_option linter.unusedSimpArgs false
set_option maxRecDepth 100000
set_option maxHeartbeats 4000000
open Go Go.Proofs Go.Ab
namespace Go.Ch
theorem fc_text (s : ByteArray) : FC Tryz.prog 90 [VS s] (app emp []) (VB (textG s)) (app emp []) := by
 refine .go Tryz.f90 ?_
 refine .loop (α := ByteArray) [.r []] 8 (fun u => ([(0, VS u)], [])) (fun u => textG s = textG u) (fun u => u.size) (s : ByteArray) ?_ ?_
 ·
  rfl
 rintro u I1 ih1
 replace I1 : textG s = textG u := I1
 refine .br [.r []] (!(seq u ({ data := #[] }))) (fun h1 => ?_) (fun h1 => ?_)
 ·
  (try simp only [Bool.not_eq_true', Bool.not_eq_false'] at h1)
  rw [seq_mt, decide_eq_false_iff_not] at h1
  have hu : 0 < u.size := by omega
  have hw := decW_bd hu
  have hr := decR_bd u
  refine .br [.r [(1, X (Xc0 (fc_decG u) X0))], .r [(4, Xv 1 ((decR u) == 65533) X0), (5, X (Xk ((decR u) == 65533))), (8, Xv 1 (!(((decR u) == 65533) && ((decW u : Int) == 1))) X0), (9, X (Xk' (((decR u) == 65533) && ((decW u : Int) == 1)))), (12, Xv 1 (!((((decR u) == 65533) && ((decW u : Int) == 1)) || ((decR u) == 10))) (Xn (decR u))), (13, Xv 1 (!((((decR u) == 65533) && ((decW u : Int) == 1)) || ((decR u) == 10))) (Xc0 (fc_char (decR u)) X0)), (14, Xv 1 (!((((decR u) == 65533) && ((decW u : Int) == 1)) || ((decR u) == 10))) X0), (15, X (Xk' ((((decR u) == 65533) && ((decW u : Int) == 1)) || ((decR u) == 10))))]] (((((decR u) == 65533) && ((decW u : Int) == 1)) || ((decR u) == 10)) || !(decide (CharP (decR u)))) (fun h3 => ?_) (fun h3 => ?_)
  ·
   (try simp only [decide_eq_true_eq, decide_eq_false_iff_not, Int.not_lt, Int.not_le, Bool.not_eq_true', Bool.not_eq_false', Bool.and_eq_true, Bool.and_eq_false_iff, Bool.or_eq_true, Bool.or_eq_false_iff, beq_iff_eq, beq_eq_false_iff_ne, ne_eq] at h3)
   have hb : badT u := by rcases h3 with (h | h) | h; (exact .inl ⟨h.1, by omega⟩); (exact .inr (.inl h)); (exact .inr (.inr h))
   have e1 : ((textG s) : Bool) = false := by
    rw [I1, textG_bad hu hb]
   exact .finE [.r []] [] (fun z0 => (VB z0, [])) (false : Bool) ((textG s) : Bool) e1
  ·
   (try simp only [decide_eq_true_eq, decide_eq_false_iff_not, Int.not_lt, Int.not_le, Bool.not_eq_true', Bool.not_eq_false', Bool.and_eq_true, Bool.and_eq_false_iff, Bool.or_eq_true, Bool.or_eq_false_iff, beq_iff_eq, beq_eq_false_iff_ne, ne_eq] at h3)
   have hb : ¬ badT u := by rintro (q | q | q); (rcases h3.1.1 with h | h; (exact h q.1); (exact h (by omega))); (exact h3.1.2 q); (exact q h3.2)
   refine .back [.r [(2, X (Xa (Xc ((0:Int) ≤ (decW u : Int))) (Xa (Xc (((decW u : Int) : Int) ≤ (u.size : Int))) (Xc (((u.size : Int) : Int) ≤ (u.size : Int))))))]] [] (ih1 ((u.extract (((decW u : Int) : Int)).toNat (((u.size : Int) : Int)).toNat) : ByteArray) ?_ ?_)
   ·
    rw [I1, textG_go hu hb]
    rfl
   ·
    show (u.extract (decW u) u.size).size < u.size
    rw [ByteArray.size_extract]; omega
 ·
  (try simp only [Bool.not_eq_true', Bool.not_eq_false'] at h1)
  have e2 : ((textG s) : Bool) = true := by
   rw [seq_mt, decide_eq_true_eq] at h1
   rw [I1, textG_end (by omega)]
  exact .finE [.r []] [] (fun z0 => (VB z0, [])) (true : Bool) ((textG s) : Bool) e2

theorem fc_cellText (s : ByteArray) (hs : s.size ≤ 9223372036854775807) : FC Tryz.prog 43 [VS s] (app emp []) (VB (textG s)) (app emp []) := by
 refine .go Tryz.f43 ?_
 refine .br [.r [], .r [(1, X (Xc0 (fc_validS s (by assumption)) X0))]] (!(Lib.validD (s).data.toList)) (fun h1 => ?_) (fun h1 => ?_)
 ·
  (try simp only [Bool.not_eq_true', Bool.not_eq_false'] at h1)
  have e1 : ((textG s) : Bool) = false := by
   rw [text_valid _ s rfl (by assumption)]
  exact .finE [.r []] [] (fun z0 => (VB z0, [])) (false : Bool) ((textG s) : Bool) e1
 ·
  (try simp only [Bool.not_eq_true', Bool.not_eq_false'] at h1)
  refine .loop (α := Nat) [.r []] 48 (fun p => ([(9, .hdl 40)], [(40, .siter s p)])) (fun p => CtI s p) (fun p => s.size - p) (0 : Nat) ?_ ?_
  ·
   exact CtI.start (by assumption)
  rintro p I4 ih4
  replace I4 : CtI s p := I4
  by_cases hp : p < s.size
  ·
   obtain ⟨n1, n2, n3, n4, n5, n6⟩ := I4.next hp
   refine .br [.r [(0, X (Xnx s p))], .t, .r [], .r [(4, Xv 1 (!(((Utf8.decode s p).1 : Int) == 10)) (Xn ((Utf8.decode s p).1 : Int))), (5, Xv 1 (!(((Utf8.decode s p).1 : Int) == 10)) (Xc0 (fc_charR ((Utf8.decode s p).1 : Int)) X0)), (6, Xv 1 (!(((Utf8.decode s p).1 : Int) == 10)) X0), (7, X (Xk' (((Utf8.decode s p).1 : Int) == 10)))]] ((((Utf8.decode s p).1 : Int) == 10) || !(decide (CharP ((Utf8.decode s p).1 : Int)))) (fun h6 => ?_) (fun h6 => ?_)
   ·
    (try simp only [decide_eq_true_eq, decide_eq_false_iff_not, Int.not_lt, Int.not_le, Bool.not_eq_true', Bool.not_eq_false', Bool.or_eq_true, Bool.or_eq_false_iff, beq_iff_eq, beq_eq_false_iff_ne, ne_eq] at h6)
    have e2 : ((textG s) : Bool) = false := by
     exact n5 (by first | exact h6 | (simpa using h6))
    exact .finE [.r []] [] (fun z0 => (VB z0, [])) (false : Bool) ((textG s) : Bool) e2
   ·
    (try simp only [decide_eq_true_eq, decide_eq_false_iff_not, Int.not_lt, Int.not_le, Bool.not_eq_true', Bool.not_eq_false', Bool.or_eq_true, Bool.or_eq_false_iff, beq_iff_eq, beq_eq_false_iff_ne, ne_eq] at h6)
    refine .back [] [(40, 40)] (ih4 ((p + (Utf8.decode s p).2) : Nat) ?_ ?_)
    ·
     exact n6 (by first | exact h6.1 | (simpa using h6.1)) (by first | exact h6.2 | (simpa using h6.2))
    ·
     ((try dsimp only); omega)
  ·
   have e3 : ((textG s) : Bool) = true := by
    exact I4.done hp
   exact .finE [.r [(0, X (Xov s p))], .f, .r []] [] (fun z0 => (VB z0, [])) (true : Bool) ((textG s) : Bool) e3
end Go.Ch
end
section
set_option linter.unusedVariables false
set_option linter.unusedSimpArgs false
set_option maxRecDepth 100000
set_option maxHeartbeats 4000000
open Go Go.Proofs Go.Ab
namespace Go.Ch
theorem fc_cells (l : List Cell) (m n : Int) (o : Bool) : FC Tryz.prog 66 [VL 5 cellT l, VI m, VI n, VB o] (app emp []) (VI (cellsE l m n o 0)) (app emp []) := by
 refine .go Tryz.f66 ?_
 refine .len 0 (fun hl0 => ?_)
 refine .loop (α := Nat) [.r [], .r [(1, X (Xl cellT l))]] 32 (fun i => ([(0, VL 5 cellT l), (1, VI m), (2, VI n), (3, VB o), (12, VL 5 cellT l), (13, VI (l.length : Int)), (14, VI (i : Int))], [])) (fun i => i ≤ l.length ∧ cellsE l m n o 0 = cellsE l m n o i) (fun i => l.length - i) (0 : Nat) ?_ ?_
 ·
  exact ⟨by omega, rfl⟩
 rintro i I2 ih2
 try dsimp only at I2
 refine .br [.r []] (decide ((i : Int) < (l.length : Int))) (fun h2 => ?_) (fun h2 => ?_)
 ·
  (try simp only [decide_eq_true_eq, decide_eq_false_iff_not, Int.not_lt, Int.not_le] at h2)
  have hx : cellsE l m n o i = _ := cellsE.eq_1 l m n o i
  rw [if_pos (by omega)] at hx
  unfold cellE at hx
  refine .br [.r [(1, X (Xi cellT l (i : Int)))], .r [(5, Xv 1 (!(decide ((((l.getD i default)).row) < 0))) X0), (7, Xv 2 (!(decide ((((l.getD i default)).row) < 0))) X0), (8, X (Xk' (decide ((((l.getD i default)).row) < 0)))), (11, Xv 1 (!(decide ((((l.getD i default)).row) < 0) || decide ((((l.getD i default)).row) ≥ m))) X0), (12, Xv 1 (!(decide ((((l.getD i default)).row) < 0) || decide ((((l.getD i default)).row) ≥ m))) X0), (13, X (Xk' (decide ((((l.getD i default)).row) < 0) || decide ((((l.getD i default)).row) ≥ m)))), (16, Xv 1 (!((decide ((((l.getD i default)).row) < 0) || decide ((((l.getD i default)).row) ≥ m)) || decide ((((l.getD i default)).col) < 0))) X0), (18, Xv 2 (!((decide ((((l.getD i default)).row) < 0) || decide ((((l.getD i default)).row) ≥ m)) || decide ((((l.getD i default)).col) < 0))) X0), (19, X (Xk' ((decide ((((l.getD i default)).row) < 0) || decide ((((l.getD i default)).row) ≥ m)) || decide ((((l.getD i default)).col) < 0))))]] (((decide ((((l.getD i default)).row) < 0) || decide ((((l.getD i default)).row) ≥ m)) || decide ((((l.getD i default)).col) < 0)) || decide ((((l.getD i default)).col) ≥ n)) (fun h4 => ?_) (fun h4 => ?_)
  ·
   (try simp only [decide_eq_true_eq, decide_eq_false_iff_not, Int.not_lt, Int.not_le, ge_iff_le, Bool.or_eq_true, Bool.or_eq_false_iff] at h4)
   have e1 : ((cellsE l m n o 0) : Int) = 2 := by
    first | (rw [I2.2, hx]; ((repeat' split) <;> first | rfl | omega | (simp_all; done) | (simp_all; omega))) | (rw [I2.2, cellsE, if_neg (by omega)])
   exact .finE [.r []] [] (fun z0 => (VI z0, [])) (2 : Int) ((cellsE l m n o 0) : Int) e1
  ·
   (try simp only [decide_eq_true_eq, decide_eq_false_iff_not, Int.not_lt, Int.not_le, ge_iff_le, Bool.or_eq_true, Bool.or_eq_false_iff] at h4)
   refine .br [.r [(5, Xv 1 (!(decide ((((l.getD i default)).ref) < 0))) X0), (6, Xv 1 (!(decide ((((l.getD i default)).ref) < 0))) X0), (7, X (Xk' (decide ((((l.getD i default)).ref) < 0))))]] (decide ((((l.getD i default)).ref) < 0) || decide ((((l.getD i default)).ref) > 1073741824)) (fun h6 => ?_) (fun h6 => ?_)
   ·
    (try simp only [decide_eq_true_eq, decide_eq_false_iff_not, Int.not_lt, Int.not_le, gt_iff_lt, Bool.or_eq_true, Bool.or_eq_false_iff] at h6)
    have e2 : ((cellsE l m n o 0) : Int) = 2 := by
     first | (rw [I2.2, hx]; ((repeat' split) <;> first | rfl | omega | (simp_all; done) | (simp_all; omega))) | (rw [I2.2, cellsE, if_neg (by omega)])
    exact .finE [.r []] [] (fun z0 => (VI z0, [])) (2 : Int) ((cellsE l m n o 0) : Int) e2
   ·
    (try simp only [decide_eq_true_eq, decide_eq_false_iff_not, Int.not_lt, Int.not_le, gt_iff_lt, Bool.or_eq_true, Bool.or_eq_false_iff] at h6)
    refine .br [.r [(2, X (Xc0 (fc_text (((l.getD i default)).text)) X0))]] (!(textG (((l.getD i default)).text))) (fun h8 => ?_) (fun h8 => ?_)
    ·
     (try simp only [Bool.not_eq_true', Bool.not_eq_false'] at h8)
     have e3 : ((cellsE l m n o 0) : Int) = 23 := by
      first | (rw [I2.2, hx]; ((repeat' split) <;> first | rfl | omega | (simp_all; done) | (simp_all; omega))) | (rw [I2.2, cellsE, if_neg (by omega)])
     exact .finE [.r []] [] (fun z0 => (VI z0, [])) (23 : Int) ((cellsE l m n o 0) : Int) e3
    ·
     (try simp only [Bool.not_eq_true', Bool.not_eq_false'] at h8)
     refine .br [.r [(2, X (Xc0 (fc_acheck (((l.getD i default)).attrs)) X0))], .r []] ((chkA false (((l.getD i default)).attrs) 0) != 0) (fun h11 => ?_) (fun h11 => ?_)
     ·
      (try simp only [bne_iff_ne, bne_eq_false_iff_eq, ne_eq] at h11)
      have e4 : ((cellsE l m n o 0) : Int) = (chkA false (((l.getD i default)).attrs) 0) := by
       first | (rw [I2.2, hx]; ((repeat' split) <;> first | rfl | omega | (simp_all; done) | (simp_all; omega))) | (rw [I2.2, cellsE, if_neg (by omega)])
      exact .finE [.r []] [] (fun z0 => (VI z0, [])) ((chkA false (((l.getD i default)).attrs) 0) : Int) ((cellsE l m n o 0) : Int) e4
     ·
      (try simp only [bne_iff_ne, bne_eq_false_iff_eq, ne_eq] at h11)
      refine .br [.r [(1, X (Xc0 (fc_empty ((l.getD i default))) X0)), (4, Xv 1 (emptyC ((l.getD i default))) X0), (5, X (Xk (emptyC ((l.getD i default)))))]] ((emptyC ((l.getD i default))) && !o) (fun h13 => ?_) (fun h13 => ?_)
      ·
       (try simp only [Bool.not_eq_true', Bool.not_eq_false', Bool.and_eq_true, Bool.and_eq_false_iff] at h13)
       have e5 : ((cellsE l m n o 0) : Int) = 4 := by
        first | (rw [I2.2, hx]; ((repeat' split) <;> first | rfl | omega | (simp_all; done) | (simp_all; omega))) | (rw [I2.2, cellsE, if_neg (by omega)])
       exact .finE [.r []] [] (fun z0 => (VI z0, [])) (4 : Int) ((cellsE l m n o 0) : Int) e5
      ·
       (try simp only [Bool.not_eq_true', Bool.not_eq_false', Bool.and_eq_true, Bool.and_eq_false_iff] at h13)
       refine .br [.r [(5, Xv 1 (decide ((i : Int) > 0)) (Xn ((i : Int) - 1))), (6, Xv 2 (decide ((i : Int) > 0)) (Xi' cellT l ((i : Int) - 1) (i - 1))), (7, Xv 1 (decide ((i : Int) > 0)) X0), (9, Xv 2 (decide ((i : Int) > 0)) (Xc0 (fc_order ((l.getD (i - 1) default)) ((l.getD i default))) X0)), (10, Xv 1 (decide ((i : Int) > 0)) X0), (11, X (Xk (decide ((i : Int) > 0))))]] (decide ((i : Int) > 0) && decide ((ordC ((l.getD (i - 1) default)) ((l.getD i default))) ≥ 0)) (fun h15 => ?_) (fun h15 => ?_)
       ·
        (try simp only [decide_eq_true_eq, decide_eq_false_iff_not, Int.not_lt, Int.not_le, gt_iff_lt, ge_iff_le, Bool.and_eq_true, Bool.and_eq_false_iff, Bool.not_eq_true', Bool.not_eq_false'] at h15)
        have e6 : ((cellsE l m n o 0) : Int) = 5 := by
         first | (rw [I2.2, hx]; ((repeat' split) <;> first | rfl | omega | (simp_all; done) | (simp_all; omega))) | (rw [I2.2, cellsE, if_neg (by omega)])
        exact .finE [.r []] [] (fun z0 => (VI z0, [])) (5 : Int) ((cellsE l m n o 0) : Int) e6
       ·
        (try simp only [decide_eq_true_eq, decide_eq_false_iff_not, Int.not_lt, Int.not_le, gt_iff_lt, ge_iff_le, Bool.and_eq_true, Bool.and_eq_false_iff, Bool.not_eq_true', Bool.not_eq_false'] at h15)
        refine .back [.r [(0, X (Xn ((i : Int) + 1)))]] [] (ih2 ((i + 1) : Nat) ?_ ?_)
        ·
         refine ⟨by omega, ?_⟩
         rw [I2.2, hx]
         ((repeat' split) <;> first | rfl | omega | (simp_all; done) | (simp_all; omega))
        ·
         ((try dsimp only); omega)
 ·
  (try simp only [decide_eq_true_eq, decide_eq_false_iff_not, Int.not_lt, Int.not_le] at h2)
  have e7 : ((cellsE l m n o 0) : Int) = 0 := by
   first | (rw [I2.2, hx]; ((repeat' split) <;> first | rfl | omega | (simp_all; done) | (simp_all; omega))) | (rw [I2.2, cellsE, if_neg (by omega)])
  exact .finE [.r []] [] (fun z0 => (VI z0, [])) (0 : Int) ((cellsE l m n o 0) : Int) e7

theorem fc_cellsE (l : List Cell) (m n : Int) (o : Bool) (hz : SzC l) (hm : 0 ≤ m ∧ m ≤ 1000000000000) (hn : 0 ≤ n ∧ n ≤ 1000000000000) : FC Tryz.prog 20 [VL 5 cellT l, VI m, VI n, VB o] (app emp []) (VI (cellsE l m n o 0)) (app emp []) := by
 refine .go Tryz.f20 ?_
 refine .len 0 (fun hl0 => ?_)
 refine .loop (α := Nat) [.r [], .r [(1, X (Xl cellT l))]] 32 (fun i => ([(0, VL 5 cellT l), (1, VI m), (2, VI n), (3, VB o), (13, VI (l.length : Int)), (14, VI (i : Int))], [])) (fun i => i ≤ l.length ∧ cellsE l m n o 0 = cellsE l m n o i) (fun i => l.length - i) (0 : Nat) ?_ ?_
 ·
  exact ⟨by omega, rfl⟩
 rintro i I2 ih2
 try dsimp only at I2
 refine .br [.r []] (decide ((i : Int) < (l.length : Int))) (fun h2 => ?_) (fun h2 => ?_)
 ·
  (try simp only [decide_eq_true_eq, decide_eq_false_iff_not, Int.not_lt, Int.not_le] at h2)
  have hx : cellsE l m n o i = _ := cellsE.eq_1 l m n o i
  rw [if_pos (by omega)] at hx
  unfold cellE at hx
  obtain ⟨z1, z2⟩ := hz.at_ (i := i) (by omega)
  have z3 := errA_eq false (l.getD i default).attrs _ 0 rfl
  have hog : ∀ a b : Cell, (0 ≤ ordC a b) = (b.row < a.row ∨ (b.row = a.row ∧ b.col ≤ a.col)) := fun a b => propext ordC_ge
  simp only [hog] at hx
  rw [← z3] at hx
  refine .br [.r [], .r [(2, X (Xi cellT l (i : Int)))], .r [(3, X (Xn (m - 1))), (4, X (Xc0 (fc_in (((l.getD i default)).row) 0 (m - 1)) X0)), (8, Xv 1 (!(!(decide (0 ≤ (((l.getD i default)).row) ∧ (((l.getD i default)).row) ≤ (m - 1))))) X0), (10, Xv 1 (!(!(decide (0 ≤ (((l.getD i default)).row) ∧ (((l.getD i default)).row) ≤ (m - 1))))) (Xn (n - 1))), (11, Xv 2 (!(!(decide (0 ≤ (((l.getD i default)).row) ∧ (((l.getD i default)).row) ≤ (m - 1))))) (Xc0 (fc_in (((l.getD i default)).col) 0 (n - 1)) X0)), (12, Xv 1 (!(!(decide (0 ≤ (((l.getD i default)).row) ∧ (((l.getD i default)).row) ≤ (m - 1))))) X0), (13, X (Xk' (!(decide (0 ≤ (((l.getD i default)).row) ∧ (((l.getD i default)).row) ≤ (m - 1)))))), (16, Xv 1 (!(!(decide (0 ≤ (((l.getD i default)).row) ∧ (((l.getD i default)).row) ≤ (m - 1))) || !(decide (0 ≤ (((l.getD i default)).col) ∧ (((l.getD i default)).col) ≤ (n - 1))))) X0), (17, Xv 1 (!(!(decide (0 ≤ (((l.getD i default)).row) ∧ (((l.getD i default)).row) ≤ (m - 1))) || !(decide (0 ≤ (((l.getD i default)).col) ∧ (((l.getD i default)).col) ≤ (n - 1))))) (Xc0 (fc_in (((l.getD i default)).ref) 0 1073741824) X0)), (18, Xv 1 (!(!(decide (0 ≤ (((l.getD i default)).row) ∧ (((l.getD i default)).row) ≤ (m - 1))) || !(decide (0 ≤ (((l.getD i default)).col) ∧ (((l.getD i default)).col) ≤ (n - 1))))) X0), (19, X (Xk' (!(decide (0 ≤ (((l.getD i default)).row) ∧ (((l.getD i default)).row) ≤ (m - 1))) || !(decide (0 ≤ (((l.getD i default)).col) ∧ (((l.getD i default)).col) ≤ (n - 1))))))]] ((!(decide (0 ≤ (((l.getD i default)).row) ∧ (((l.getD i default)).row) ≤ (m - 1))) || !(decide (0 ≤ (((l.getD i default)).col) ∧ (((l.getD i default)).col) ≤ (n - 1)))) || !(decide (0 ≤ (((l.getD i default)).ref) ∧ (((l.getD i default)).ref) ≤ 1073741824))) (fun h5 => ?_) (fun h5 => ?_)
  ·
   (try simp only [decide_eq_true_eq, decide_eq_false_iff_not, Int.not_lt, Int.not_le, Bool.not_eq_true', Bool.not_eq_false', Bool.or_eq_true, Bool.or_eq_false_iff] at h5)
   have e1 : ((cellsE l m n o 0) : Int) = 2 := by
    first | (rw [I2.2, hx]; ((repeat' split) <;> first | rfl | omega | (simp_all; done) | (simp_all; omega))) | (rw [I2.2, cellsE, if_neg (by omega)])
   exact .finE [.r []] [] (fun z0 => (VI z0, [])) (2 : Int) ((cellsE l m n o 0) : Int) e1
  ·
   (try simp only [decide_eq_true_eq, decide_eq_false_iff_not, Int.not_lt, Int.not_le, Bool.not_eq_true', Bool.not_eq_false', Bool.or_eq_true, Bool.or_eq_false_iff] at h5)
   refine .br [.r [(2, X (Xc0 (fc_cellText (((l.getD i default)).text) (by assumption)) X0))]] (!(textG (((l.getD i default)).text))) (fun h7 => ?_) (fun h7 => ?_)
   ·
    (try simp only [Bool.not_eq_true', Bool.not_eq_false'] at h7)
    have e2 : ((cellsE l m n o 0) : Int) = 23 := by
     first | (rw [I2.2, hx]; ((repeat' split) <;> first | rfl | omega | (simp_all; done) | (simp_all; omega))) | (rw [I2.2, cellsE, if_neg (by omega)])
    exact .finE [.r []] [] (fun z0 => (VI z0, [])) (23 : Int) ((cellsE l m n o 0) : Int) e2
   ·
    (try simp only [Bool.not_eq_true', Bool.not_eq_false'] at h7)
    refine .br [.r [(2, X (Xc0 (fc_attrsError (((l.getD i default)).attrs) false (by assumption)) X0))], .r []] ((errA false (((l.getD i default)).attrs) 0) != 0) (fun h10 => ?_) (fun h10 => ?_)
    ·
     (try simp only [bne_iff_ne, bne_eq_false_iff_eq, ne_eq] at h10)
     have e3 : ((cellsE l m n o 0) : Int) = (errA false (((l.getD i default)).attrs) 0) := by
      first | (rw [I2.2, hx]; ((repeat' split) <;> first | rfl | omega | (simp_all; done) | (simp_all; omega))) | (rw [I2.2, cellsE, if_neg (by omega)])
     exact .finE [.r []] [] (fun z0 => (VI z0, [])) ((errA false (((l.getD i default)).attrs) 0) : Int) ((cellsE l m n o 0) : Int) e3
    ·
     (try simp only [bne_iff_ne, bne_eq_false_iff_eq, ne_eq] at h10)
     refine .br [.r [(4, Xv 1 (!o) (Xc0 (fc_emptyR ((l.getD i default))) X0)), (5, X (Xk (!o)))]] (!o && (emptyC ((l.getD i default)))) (fun h12 => ?_) (fun h12 => ?_)
     ·
      (try simp only [Bool.not_eq_true', Bool.not_eq_false', Bool.and_eq_true, Bool.and_eq_false_iff] at h12)
      have e4 : ((cellsE l m n o 0) : Int) = 4 := by
       first | (rw [I2.2, hx]; ((repeat' split) <;> first | rfl | omega | (simp_all; done) | (simp_all; omega))) | (rw [I2.2, cellsE, if_neg (by omega)])
      exact .finE [.r []] [] (fun z0 => (VI z0, [])) (4 : Int) ((cellsE l m n o 0) : Int) e4
     ·
      (try simp only [Bool.not_eq_true', Bool.not_eq_false', Bool.and_eq_true, Bool.and_eq_false_iff] at h12)
      refine .br [.r [(4, Xv 1 (decide ((i : Int) > 0)) X0), (7, Xv 1 (decide ((i : Int) > 0)) (Xn ((i : Int) - 1))), (8, Xv 2 (decide ((i : Int) > 0)) (Xi' cellT l ((i : Int) - 1) (i - 1))), (9, Xv 1 (decide ((i : Int) > 0)) X0), (10, Xv 1 (decide ((i : Int) > 0)) X0), (11, Xv 2 (decide ((i : Int) > 0)) X0), (12, Xv 1 (decide ((i : Int) > 0)) X0), (14, Xv 1 ((decide ((i : Int) > 0)) && !(decide ((((l.getD i default)).row) < (((l.getD (i - 1) default)).row)))) X0), (17, Xv 1 ((decide ((i : Int) > 0)) && !(decide ((((l.getD i default)).row) < (((l.getD (i - 1) default)).row)))) (Xn ((i : Int) - 1))), (18, Xv 2 ((decide ((i : Int) > 0)) && !(decide ((((l.getD i default)).row) < (((l.getD (i - 1) default)).row)))) (Xi' cellT l ((i : Int) - 1) (i - 1))), (19, Xv 1 ((decide ((i : Int) > 0)) && !(decide ((((l.getD i default)).row) < (((l.getD (i - 1) default)).row)))) X0), (20, Xv 1 ((decide ((i : Int) > 0)) && !(decide ((((l.getD i default)).row) < (((l.getD (i - 1) default)).row)))) X0), (21, Xv 2 ((decide ((i : Int) > 0)) && !(decide ((((l.getD i default)).row) < (((l.getD (i - 1) default)).row)))) X0), (22, Xv 1 ((decide ((i : Int) > 0)) && !(decide ((((l.getD i default)).row) < (((l.getD (i - 1) default)).row)))) X0), (24, Xv 1 (((decide ((i : Int) > 0)) && !(decide ((((l.getD i default)).row) < (((l.getD (i - 1) default)).row)))) && ((((l.getD i default)).row) == (((l.getD (i - 1) default)).row))) X0), (27, Xv 1 (((decide ((i : Int) > 0)) && !(decide ((((l.getD i default)).row) < (((l.getD (i - 1) default)).row)))) && ((((l.getD i default)).row) == (((l.getD (i - 1) default)).row))) (Xn ((i : Int) - 1))), (28, Xv 2 (((decide ((i : Int) > 0)) && !(decide ((((l.getD i default)).row) < (((l.getD (i - 1) default)).row)))) && ((((l.getD i default)).row) == (((l.getD (i - 1) default)).row))) (Xi' cellT l ((i : Int) - 1) (i - 1))), (29, Xv 1 (((decide ((i : Int) > 0)) && !(decide ((((l.getD i default)).row) < (((l.getD (i - 1) default)).row)))) && ((((l.getD i default)).row) == (((l.getD (i - 1) default)).row))) X0), (30, Xv 1 (((decide ((i : Int) > 0)) && !(decide ((((l.getD i default)).row) < (((l.getD (i - 1) default)).row)))) && ((((l.getD i default)).row) == (((l.getD (i - 1) default)).row))) X0), (31, Xv 2 (((decide ((i : Int) > 0)) && !(decide ((((l.getD i default)).row) < (((l.getD (i - 1) default)).row)))) && ((((l.getD i default)).row) == (((l.getD (i - 1) default)).row))) X0), (32, Xka ((decide ((i : Int) > 0)) && !(decide ((((l.getD i default)).row) < (((l.getD (i - 1) default)).row)))) ((((l.getD i default)).row) == (((l.getD (i - 1) default)).row))), (33, Xko (decide ((i : Int) > 0)) (decide ((((l.getD i default)).row) < (((l.getD (i - 1) default)).row)))), (34, X (Xk (decide ((i : Int) > 0))))]] (decide ((i : Int) > 0) && (decide ((((l.getD i default)).row) < (((l.getD (i - 1) default)).row)) || (((((l.getD i default)).row) == (((l.getD (i - 1) default)).row)) && decide ((((l.getD i default)).col) ≤ (((l.getD (i - 1) default)).col))))) (fun h14 => ?_) (fun h14 => ?_)
      ·
       (try simp only [decide_eq_true_eq, decide_eq_false_iff_not, Int.not_lt, Int.not_le, gt_iff_lt, Bool.and_eq_true, Bool.and_eq_false_iff, Bool.not_eq_true', Bool.not_eq_false', Bool.or_eq_true, Bool.or_eq_false_iff, beq_iff_eq, beq_eq_false_iff_ne, ne_eq] at h14)
       have e5 : ((cellsE l m n o 0) : Int) = 5 := by
        first | (rw [I2.2, hx]; ((repeat' split) <;> first | rfl | omega | (simp_all; done) | (simp_all; omega))) | (rw [I2.2, cellsE, if_neg (by omega)])
       exact .finE [.r []] [] (fun z0 => (VI z0, [])) (5 : Int) ((cellsE l m n o 0) : Int) e5
      ·
       (try simp only [decide_eq_true_eq, decide_eq_false_iff_not, Int.not_lt, Int.not_le, gt_iff_lt, Bool.and_eq_true, Bool.and_eq_false_iff, Bool.not_eq_true', Bool.not_eq_false', Bool.or_eq_true, Bool.or_eq_false_iff, beq_iff_eq, beq_eq_false_iff_ne, ne_eq] at h14)
       refine .back [.r [(0, X (Xn ((i : Int) + 1)))]] [] (ih2 ((i + 1) : Nat) ?_ ?_)
       ·
        refine ⟨by omega, ?_⟩
        rw [I2.2, hx]
        ((repeat' split) <;> first | rfl | omega | (simp_all; done) | (simp_all; omega))
       ·
        ((try dsimp only); omega)
 ·
  (try simp only [decide_eq_true_eq, decide_eq_false_iff_not, Int.not_lt, Int.not_le] at h2)
  have e6 : ((cellsE l m n o 0) : Int) = 0 := by
   first | (rw [I2.2, hx]; ((repeat' split) <;> first | rfl | omega | (simp_all; done) | (simp_all; omega))) | (rw [I2.2, cellsE, if_neg (by omega)])
  exact .finE [.r []] [] (fun z0 => (VI z0, [])) (0 : Int) ((cellsE l m n o 0) : Int) e6
end Go.Ch
end
section
set_option linter.unusedVariables false
set_option linter.unusedSimpArgs false
set_option maxRecDepth 100000
set_option maxHeartbeats 4000000
open Go Go.Proofs Go.Ab
namespace Go.Ch
theorem fc_chk1 (q : Rect) (a b c d : Int) (hq : RB q) (hr : RB ⟨a, b, c, d⟩) : FC Tryz.prog 80 [.t (rectT q), .ptr 0 0] (app emp [(0, .box [VI a, VI b, VI c, VI d])]) (VB (meetB q ⟨a, b, c, d⟩)) (app emp [(0, .box [VI a, VI b, VI c, VI d])]) := by
 refine .go Tryz.f80 ?_
 have e1 : ((meetB q ⟨a, b, c, d⟩) : Bool) = (meetB q ({ row := a, col := b, h := c, w := d } : Rect)) := by
  rfl
 exact .finE [.r [], .r [(2, X (Xc0 (fc_meets q ({ row := a, col := b, h := c, w := d } : Rect) (by assumption) (by assumption)) X0))]] [(0, 0)] (fun z0 => (VB z0, [(0, .box [VI a, VI b, VI c, VI d])])) ((meetB q ({ row := a, col := b, h := c, w := d } : Rect)) : Bool) ((meetB q ⟨a, b, c, d⟩) : Bool) e1

theorem fc_raw1 (q : Rect) (a b c d : Int) (hq : RB q) (hr : RB ⟨a, b, c, d⟩) : FC Tryz.prog 57 [.t (rectT q), .ptr 0 0] (app emp [(0, .box [VI a, VI b, VI c, VI d])]) (VB (meetB q ⟨a, b, c, d⟩)) (app emp [(0, .box [VI a, VI b, VI c, VI d])]) := by
 refine .go Tryz.f57 ?_
 have e1 : ((meetB q ⟨a, b, c, d⟩) : Bool) = (meetB q ({ row := a, col := b, h := c, w := d } : Rect)) := by
  rfl
 exact .finE [.r [], .r [(2, X (Xc0 (fc_meets q ({ row := a, col := b, h := c, w := d } : Rect) (by assumption) (by assumption)) X0))]] [(0, 0)] (fun z0 => (VB z0, [(0, .box [VI a, VI b, VI c, VI d])])) ((meetB q ({ row := a, col := b, h := c, w := d } : Rect)) : Bool) ((meetB q ⟨a, b, c, d⟩) : Bool) e1

theorem fc_idxF_chk (l : List Rect) (a b c d : Int) (hl : AllRB l) (hr : RB ⟨a, b, c, d⟩) : FC Tryz.prog 84 [VL 4 rectT l, .fn 80 [.ptr 0 0]] (app emp [(0, .box [VI a, VI b, VI c, VI d])]) (VI (idxF (fun q => meetB q ⟨a, b, c, d⟩) l 0)) (app emp [(0, .box [VI a, VI b, VI c, VI d])]) := by
 refine .go Tryz.f84 ?_
 refine .len 0 (fun hl0 => ?_)
 refine .loop (α := Nat) [.r [], .r [(1, X (Xl rectT l))]] 33 (fun i => ([(0, VL 4 rectT l), (1, .fn 80 [.ptr 0 0]), (7, VI (l.length : Int)), (8, VI (i : Int))], [(0, .box [VI a, VI b, VI c, VI d])])) (fun i => i ≤ l.length ∧ idxF (fun q => meetB q ⟨a, b, c, d⟩) l 0 = idxF (fun q => meetB q ⟨a, b, c, d⟩) l i) (fun i => l.length - i) (0 : Nat) ?_ ?_
 ·
  exact ⟨by omega, rfl⟩
 rintro i I2 ih2
 try dsimp only at I2
 refine .br [.r []] (decide ((i : Int) < (l.length : Int))) (fun h2 => ?_) (fun h2 => ?_)
 ·
  (try simp only [decide_eq_true_eq, decide_eq_false_iff_not, Int.not_lt, Int.not_le] at h2)
  have hm := hl _ (getDX_mem (l := l) (i := i) (by omega))
  refine .br [.r [], .r [(3, X (Xi rectT l (i : Int))), (5, X (Xc3 97 [(0, 0)] (fc_chk1 ((l.getD i default)) a b c d (by assumption) (by assumption)) X0))]] (meetB ((l.getD i default)) ⟨a, b, c, d⟩) (fun h4 => ?_) (fun h4 => ?_)
  ·
   have e1 : ((idxF (fun q => meetB q ⟨a, b, c, d⟩) l 0) : Int) = (i : Int) := by
    rw [I2.2, idxF, if_pos (by omega), if_pos h4]
   exact .finE [.r []] [(0, 0)] (fun z0 => (VI z0, [(0, .box [VI a, VI b, VI c, VI d])])) ((i : Int) : Int) ((idxF (fun q => meetB q ⟨a, b, c, d⟩) l 0) : Int) e1
  ·
   refine .back [.r [(0, X (Xn ((i : Int) + 1)))]] [(0, 0)] (ih2 ((i + 1) : Nat) ?_ ?_)
   ·
    refine ⟨by omega, ?_⟩
    rw [I2.2, idxF, if_pos (by omega), if_neg (by rw [h4]; decide)]
   ·
    ((try dsimp only); omega)
 ·
  (try simp only [decide_eq_true_eq, decide_eq_false_iff_not, Int.not_lt, Int.not_le] at h2)
  have e2 : ((idxF (fun q => meetB q ⟨a, b, c, d⟩) l 0) : Int) = -1 := by
   rw [I2.2, idxF, if_neg (by omega)]
  exact .finE [.r []] [(0, 0)] (fun z0 => (VI z0, [(0, .box [VI a, VI b, VI c, VI d])])) (-1 : Int) ((idxF (fun q => meetB q ⟨a, b, c, d⟩) l 0) : Int) e2

theorem fc_anyF (l : List Rect) (a b c d : Int) (hl : AllRB l) (hr : RB ⟨a, b, c, d⟩) : FC Tryz.prog 79 [VL 4 rectT l, .fn 80 [.ptr 0 0]] (app emp [(0, .box [VI a, VI b, VI c, VI d])]) (VB (anyM l ⟨a, b, c, d⟩)) (app emp [(0, .box [VI a, VI b, VI c, VI d])]) := by
 refine .go Tryz.f79 ?_
 refine .len 0 (fun hl0 => ?_)
 have e1 : ((anyM l ⟨a, b, c, d⟩) : Bool) = decide ((idxF (fun q => meetB q ⟨a, b, c, d⟩) l 0) ≥ 0) := by
  unfold anyM; rw [Bool.eq_iff_iff, decide_eq_true_eq, ge_iff_le, idxF_any]
 exact .finE [.r [], .r [(2, X (Xc3 25 [(0, 0)] (fc_idxF_chk l a b c d (by assumption) (by assumption)) X0))]] [(0, 0)] (fun z0 => (VB z0, [(0, .box [VI a, VI b, VI c, VI d])])) (decide ((idxF (fun q => meetB q ⟨a, b, c, d⟩) l 0) ≥ 0) : Bool) ((anyM l ⟨a, b, c, d⟩) : Bool) e1

end Go.Ch
end
section
set_option linter.unusedVariables false
set_option linter.unusedSimpArgs false
set_option maxRecDepth 100000
set_option maxHeartbeats 4000000
open Go Go.Proofs Go.Ab
namespace Go.Ch
theorem fc_gcheck (x : Grid) (hl : x.merges.length ≤ 100000000000) : FC Tryz.prog 50 [.t (gridT x)] (app emp []) (VI (gridE x)) (app emp []) := by
 refine .go Tryz.f50 ?_
 refine .br [.r [], .r [(5, Xv 1 (!(decide (x.rows < 0))) X0), (6, Xv 1 (!(decide (x.rows < 0))) X0), (7, X (Xk' (decide (x.rows < 0)))), (10, Xv 1 (!(decide (x.rows < 0) || decide (x.rows > 2147483647))) X0), (11, Xv 1 (!(decide (x.rows < 0) || decide (x.rows > 2147483647))) X0), (12, X (Xk' (decide (x.rows < 0) || decide (x.rows > 2147483647)))), (15, Xv 1 (!((decide (x.rows < 0) || decide (x.rows > 2147483647)) || decide (x.cols < 0))) X0), (16, Xv 1 (!((decide (x.rows < 0) || decide (x.rows > 2147483647)) || decide (x.cols < 0))) X0), (17, X (Xk' ((decide (x.rows < 0) || decide (x.rows > 2147483647)) || decide (x.cols < 0))))]] (((decide (x.rows < 0) || decide (x.rows > 2147483647)) || decide (x.cols < 0)) || decide (x.cols > 2147483647)) (fun h1 => ?_) (fun h1 => ?_)
 ·
  (try simp only [decide_eq_true_eq, decide_eq_false_iff_not, Int.not_lt, Int.not_le, gt_iff_lt, Bool.or_eq_true, Bool.or_eq_false_iff] at h1)
  have e1 : ((gridE x) : Int) = 2 := by
   unfold gridE; rw [if_pos (by omega)]
  exact .finE [.r []] [] (fun z0 => (VI z0, [])) (2 : Int) ((gridE x) : Int) e1
 ·
  (try simp only [decide_eq_true_eq, decide_eq_false_iff_not, Int.not_lt, Int.not_le, gt_iff_lt, Bool.or_eq_true, Bool.or_eq_false_iff] at h1)
  refine .br [.r [(6, X (Xc0 (fc_cells x.cells x.rows x.cols false) X0))], .r []] ((cellsE x.cells x.rows x.cols false 0) != 0) (fun h4 => ?_) (fun h4 => ?_)
  ·
   (try simp only [bne_iff_ne, bne_eq_false_iff_eq, ne_eq] at h4)
   have e2 : ((gridE x) : Int) = (cellsE x.cells x.rows x.cols false 0) := by
    unfold gridE; rw [if_neg (by omega), if_pos (by omega)]
   exact .finE [.r []] [] (fun z0 => (VI z0, [])) ((cellsE x.cells x.rows x.cols false 0) : Int) ((gridE x) : Int) e2
  ·
   (try simp only [bne_iff_ne, bne_eq_false_iff_eq, ne_eq] at h4)
   refine .loop (α := Nat) [.r [(2, X (Xl rectT x.merges))]] 272 (fun i => ([(1, .ptr 0 0), (35, VL 4 rectT x.merges), (36, VI (x.merges.length : Int)), (37, VI (i : Int))], [(0, .box [VI x.rows, VI x.cols, VL 5 cellT x.cells, VL 4 rectT x.merges])])) (fun i => i ≤ x.merges.length ∧ mergE x.merges x.rows x.cols 0 = mergE x.merges x.rows x.cols i ∧ InsTo x.merges x.rows x.cols i) (fun i => x.merges.length - i) (0 : Nat) ?_ ?_
   ·
    exact ⟨by omega, rfl, fun k hk => absurd hk (by omega)⟩
   rintro i I7 ih7
   try dsimp only at I7
   refine .br [.r []] (decide ((i : Int) < (x.merges.length : Int))) (fun h7 => ?_) (fun h7 => ?_)
   ·
    (try simp only [decide_eq_true_eq, decide_eq_false_iff_not, Int.not_lt, Int.not_le] at h7)
    have hx : mergE x.merges x.rows x.cols i = _ := mergE.eq_1 x.merges x.rows x.cols i
    rw [if_pos (by omega)] at hx
    refine .br [.r [(1, X (Xi rectT x.merges (i : Int)))], .r [(5, X (Xc0 (fc_inside ((x.merges.getD i default)) x.rows x.cols (by omega)) X0))]] (!(insB ((x.merges.getD i default)) x.rows x.cols)) (fun h9 => ?_) (fun h9 => ?_)
    ·
     (try simp only [Bool.not_eq_true', Bool.not_eq_false'] at h9)
     rw [if_pos h9] at hx
     have e3 : ((gridE x) : Int) = 2 := by
      unfold gridE; rw [if_neg (by omega), if_neg (by omega), I7.2.1, hx]
      
     exact .finE [.r []] [] (fun z0 => (VI z0, [])) (2 : Int) ((gridE x) : Int) e3
    ·
     (try simp only [Bool.not_eq_true', Bool.not_eq_false'] at h9)
     rw [if_neg (by rw [h9]; decide)] at hx
     refine .br [.r [(5, Xv 1 ((((x.merges.getD i default)).h) == 1) X0), (6, Xv 1 ((((x.merges.getD i default)).h) == 1) X0), (7, X (Xk ((((x.merges.getD i default)).h) == 1)))]] (((((x.merges.getD i default)).h) == 1) && ((((x.merges.getD i default)).w) == 1)) (fun h11 => ?_) (fun h11 => ?_)
     ·
      (try simp only [Bool.and_eq_true, Bool.and_eq_false_iff, Bool.not_eq_true', Bool.not_eq_false', beq_iff_eq, beq_eq_false_iff_ne, ne_eq] at h11)
      rw [if_pos (by omega)] at hx
      have e4 : ((gridE x) : Int) = 4 := by
       unfold gridE; rw [if_neg (by omega), if_neg (by omega), I7.2.1, hx]
       
      exact .finE [.r []] [] (fun z0 => (VI z0, [])) (4 : Int) ((gridE x) : Int) e4
     ·
      (try simp only [Bool.and_eq_true, Bool.and_eq_false_iff, Bool.not_eq_true', Bool.not_eq_false', beq_iff_eq, beq_eq_false_iff_ne, ne_eq] at h11)
      rw [if_neg (by omega)] at hx
      refine .br [.r [(4, Xv 1 (decide ((i : Int) > 0)) X0), (6, Xv 1 (decide ((i : Int) > 0)) (Xn ((i : Int) - 1))), (7, Xv 2 (decide ((i : Int) > 0)) (Xi' rectT x.merges ((i : Int) - 1) (i - 1))), (8, Xv 1 (decide ((i : Int) > 0)) X0), (10, Xv 2 (decide ((i : Int) > 0)) (Xc0 (fc_before ((x.merges.getD (i - 1) default)) ((x.merges.getD i default))) X0)), (11, Xv 1 (decide ((i : Int) > 0)) X0), (12, X (Xk (decide ((i : Int) > 0))))]] (decide ((i : Int) > 0) && !(befB ((x.merges.getD (i - 1) default)) ((x.merges.getD i default)))) (fun h13 => ?_) (fun h13 => ?_)
      ·
       (try simp only [decide_eq_true_eq, decide_eq_false_iff_not, Int.not_lt, Int.not_le, gt_iff_lt, Bool.not_eq_true', Bool.not_eq_false', Bool.and_eq_true, Bool.and_eq_false_iff] at h13)
       rw [if_pos ⟨by omega, h13.2⟩] at hx
       have e5 : ((gridE x) : Int) = 5 := by
        unfold gridE; rw [if_neg (by omega), if_neg (by omega), I7.2.1, hx]
        
       exact .finE [.r []] [] (fun z0 => (VI z0, [])) (5 : Int) ((gridE x) : Int) e5
      ·
       (try simp only [decide_eq_true_eq, decide_eq_false_iff_not, Int.not_lt, Int.not_le, gt_iff_lt, Bool.not_eq_true', Bool.not_eq_false', Bool.and_eq_true, Bool.and_eq_false_iff] at h13)
       rw [if_neg (fun q => by have q1 := q.1; rcases h13 with h | h; (omega); (rw [q.2] at h; cases h))] at hx
       have hall := I7.2.2.all (by omega) (by omega) (by omega)
       have hrb := RB_ins h9 (by omega) (by omega)
       refine .br [.r [(3, X (Xst rectT 4 x.merges (i : Int))), (5, X (Xc3 616 [(0, 304)] (fc_anyF (x.merges.take i) (((x.merges.getD i default)).row) (((x.merges.getD i default)).col) (((x.merges.getD i default)).h) (((x.merges.getD i default)).w) (by assumption) (by assumption)) X0))]] (anyM (x.merges.take i) ⟨(((x.merges.getD i default)).row), (((x.merges.getD i default)).col), (((x.merges.getD i default)).h), (((x.merges.getD i default)).w)⟩) (fun h15 => ?_) (fun h15 => ?_)
       ·
        rw [if_pos h15] at hx
        have e6 : ((gridE x) : Int) = 21 := by
         unfold gridE; rw [if_neg (by omega), if_neg (by omega), I7.2.1, hx]
         
        exact .finE [.r []] [] (fun z0 => (VI z0, [])) (21 : Int) ((gridE x) : Int) e6
       ·
        rw [if_neg (by rw [h15]; decide)] at hx
        refine .back [.r [(0, X (Xn ((i : Int) + 1)))]] [(0, 0)] (ih7 ((i + 1) : Nat) ?_ ?_)
        ·
         exact ⟨by omega, by rw [I7.2.1, hx], I7.2.2.succ h9⟩
        ·
         ((try dsimp only); omega)
   ·
    (try simp only [decide_eq_true_eq, decide_eq_false_iff_not, Int.not_lt, Int.not_le] at h7)
    have e7 : ((gridE x) : Int) = 0 := by
     unfold gridE; rw [if_neg (by omega), if_neg (by omega), I7.2.1, mergE, if_neg (by omega)]
    exact .finE [.r []] [] (fun z0 => (VI z0, [])) (0 : Int) ((gridE x) : Int) e7

theorem fc_gridError (x : Grid) (hl : x.merges.length ≤ 100000000000) (hz : SzC x.cells) : FC Tryz.prog 6 [.t (gridT x)] (app emp []) (VI (gridE x)) (app emp []) := by
 refine .go Tryz.f6 ?_
 refine .br [.r [], .r [(2, X (Xc0 (fc_in x.rows 0 2147483647) X0)), (6, Xv 1 (!(!(decide (0 ≤ x.rows ∧ x.rows ≤ 2147483647)))) X0), (7, Xv 1 (!(!(decide (0 ≤ x.rows ∧ x.rows ≤ 2147483647)))) (Xc0 (fc_in x.cols 0 2147483647) X0)), (8, Xv 1 (!(!(decide (0 ≤ x.rows ∧ x.rows ≤ 2147483647)))) X0), (9, X (Xk' (!(decide (0 ≤ x.rows ∧ x.rows ≤ 2147483647)))))]] (!(decide (0 ≤ x.rows ∧ x.rows ≤ 2147483647)) || !(decide (0 ≤ x.cols ∧ x.cols ≤ 2147483647))) (fun h1 => ?_) (fun h1 => ?_)
 ·
  (try simp only [decide_eq_true_eq, decide_eq_false_iff_not, Int.not_lt, Int.not_le, Bool.not_eq_true', Bool.not_eq_false', Bool.or_eq_true, Bool.or_eq_false_iff] at h1)
  have e1 : ((gridE x) : Int) = 2 := by
   unfold gridE; rw [if_pos (by omega)]
  exact .finE [.r []] [] (fun z0 => (VI z0, [])) (2 : Int) ((gridE x) : Int) e1
 ·
  (try simp only [decide_eq_true_eq, decide_eq_false_iff_not, Int.not_lt, Int.not_le, Bool.not_eq_true', Bool.not_eq_false', Bool.or_eq_true, Bool.or_eq_false_iff] at h1)
  refine .br [.r [(6, X (Xc0 (fc_cellsE x.cells x.rows x.cols false (by assumption) (by omega) (by omega)) X0))], .r []] ((cellsE x.cells x.rows x.cols false 0) != 0) (fun h4 => ?_) (fun h4 => ?_)
  ·
   (try simp only [bne_iff_ne, bne_eq_false_iff_eq, ne_eq] at h4)
   have e2 : ((gridE x) : Int) = (cellsE x.cells x.rows x.cols false 0) := by
    unfold gridE; rw [if_neg (by omega), if_pos (by omega)]
   exact .finE [.r []] [] (fun z0 => (VI z0, [])) ((cellsE x.cells x.rows x.cols false 0) : Int) ((gridE x) : Int) e2
  ·
   (try simp only [bne_iff_ne, bne_eq_false_iff_eq, ne_eq] at h4)
   refine .loop (α := Nat) [.r [(2, X (Xl rectT x.merges))]] 208 (fun i => ([(1, .ptr 0 0), (29, VI (x.merges.length : Int)), (30, VI (i : Int))], [(0, .box [VI x.rows, VI x.cols, VL 5 cellT x.cells, VL 4 rectT x.merges])])) (fun i => i ≤ x.merges.length ∧ mergE x.merges x.rows x.cols 0 = mergE x.merges x.rows x.cols i ∧ InsTo x.merges x.rows x.cols i) (fun i => x.merges.length - i) (0 : Nat) ?_ ?_
   ·
    exact ⟨by omega, rfl, fun k hk => absurd hk (by omega)⟩
   rintro i I7 ih7
   try dsimp only at I7
   refine .br [.r []] (decide ((i : Int) < (x.merges.length : Int))) (fun h7 => ?_) (fun h7 => ?_)
   ·
    (try simp only [decide_eq_true_eq, decide_eq_false_iff_not, Int.not_lt, Int.not_le] at h7)
    have hx : mergE x.merges x.rows x.cols i = _ := mergE.eq_1 x.merges x.rows x.cols i
    rw [if_pos (by omega)] at hx
    have hsh : ∀ q r : Rect, insB q x.rows x.cols = true → insB r x.rows x.cols = true → shareB r q = meetB q r := fun q r a b => by (have u := insB_iff.1 a; have v := insB_iff.1 b; rw [share_eq (by omega) (by omega) (by omega) (by omega), meetB_comm])
    refine .br [.r [], .r [(3, X (Xi rectT x.merges (i : Int)))], .r [(5, X (Xc0 (fc_lies ((x.merges.getD i default)) x.rows x.cols (by omega)) X0))]] (!(insB ((x.merges.getD i default)) x.rows x.cols)) (fun h10 => ?_) (fun h10 => ?_)
    ·
     (try simp only [Bool.not_eq_true', Bool.not_eq_false'] at h10)
     rw [if_pos h10] at hx
     have e3 : ((gridE x) : Int) = 2 := by
      unfold gridE; rw [if_neg (by omega), if_neg (by omega), I7.2.1, hx]
      
     exact .finE [.r []] [] (fun z0 => (VI z0, [])) (2 : Int) ((gridE x) : Int) e3
    ·
     (try simp only [Bool.not_eq_true', Bool.not_eq_false'] at h10)
     rw [if_neg (by rw [h10]; decide)] at hx
     refine .br [.r [(5, Xv 1 ((((x.merges.getD i default)).h) == 1) X0), (6, Xv 1 ((((x.merges.getD i default)).h) == 1) X0), (7, X (Xk ((((x.merges.getD i default)).h) == 1)))]] (((((x.merges.getD i default)).h) == 1) && ((((x.merges.getD i default)).w) == 1)) (fun h12 => ?_) (fun h12 => ?_)
     ·
      (try simp only [Bool.and_eq_true, Bool.and_eq_false_iff, Bool.not_eq_true', Bool.not_eq_false', beq_iff_eq, beq_eq_false_iff_ne, ne_eq] at h12)
      rw [if_pos (by omega)] at hx
      have e4 : ((gridE x) : Int) = 4 := by
       unfold gridE; rw [if_neg (by omega), if_neg (by omega), I7.2.1, hx]
       
      exact .finE [.r []] [] (fun z0 => (VI z0, [])) (4 : Int) ((gridE x) : Int) e4
     ·
      (try simp only [Bool.and_eq_true, Bool.and_eq_false_iff, Bool.not_eq_true', Bool.not_eq_false', beq_iff_eq, beq_eq_false_iff_ne, ne_eq] at h12)
      rw [if_neg (by omega)] at hx
      refine .br [.r [(4, Xv 1 (decide ((i : Int) > 0)) X0), (6, Xv 1 (decide ((i : Int) > 0)) X0), (8, Xv 1 (decide ((i : Int) > 0)) (Xn ((i : Int) - 1))), (9, Xv 2 (decide ((i : Int) > 0)) (Xi' rectT x.merges ((i : Int) - 1) (i - 1))), (10, Xv 1 (decide ((i : Int) > 0)) X0), (11, Xv 1 (decide ((i : Int) > 0)) X0), (12, Xv 2 (decide ((i : Int) > 0)) X0), (13, Xv 1 (decide ((i : Int) > 0)) X0), (15, Xv 1 ((decide ((i : Int) > 0)) && !(decide ((((x.merges.getD i default)).row) < (((x.merges.getD (i - 1) default)).row)))) X0), (17, Xv 1 ((decide ((i : Int) > 0)) && !(decide ((((x.merges.getD i default)).row) < (((x.merges.getD (i - 1) default)).row)))) X0), (19, Xv 1 ((decide ((i : Int) > 0)) && !(decide ((((x.merges.getD i default)).row) < (((x.merges.getD (i - 1) default)).row)))) (Xn ((i : Int) - 1))), (20, Xv 2 ((decide ((i : Int) > 0)) && !(decide ((((x.merges.getD i default)).row) < (((x.merges.getD (i - 1) default)).row)))) (Xi' rectT x.merges ((i : Int) - 1) (i - 1))), (21, Xv 1 ((decide ((i : Int) > 0)) && !(decide ((((x.merges.getD i default)).row) < (((x.merges.getD (i - 1) default)).row)))) X0), (22, Xv 1 ((decide ((i : Int) > 0)) && !(decide ((((x.merges.getD i default)).row) < (((x.merges.getD (i - 1) default)).row)))) X0), (23, Xv 2 ((decide ((i : Int) > 0)) && !(decide ((((x.merges.getD i default)).row) < (((x.merges.getD (i - 1) default)).row)))) X0), (24, Xv 1 ((decide ((i : Int) > 0)) && !(decide ((((x.merges.getD i default)).row) < (((x.merges.getD (i - 1) default)).row)))) X0), (26, Xv 1 (((decide ((i : Int) > 0)) && !(decide ((((x.merges.getD i default)).row) < (((x.merges.getD (i - 1) default)).row)))) && ((((x.merges.getD i default)).row) == (((x.merges.getD (i - 1) default)).row))) X0), (28, Xv 1 (((decide ((i : Int) > 0)) && !(decide ((((x.merges.getD i default)).row) < (((x.merges.getD (i - 1) default)).row)))) && ((((x.merges.getD i default)).row) == (((x.merges.getD (i - 1) default)).row))) X0), (30, Xv 1 (((decide ((i : Int) > 0)) && !(decide ((((x.merges.getD i default)).row) < (((x.merges.getD (i - 1) default)).row)))) && ((((x.merges.getD i default)).row) == (((x.merges.getD (i - 1) default)).row))) (Xn ((i : Int) - 1))), (31, Xv 2 (((decide ((i : Int) > 0)) && !(decide ((((x.merges.getD i default)).row) < (((x.merges.getD (i - 1) default)).row)))) && ((((x.merges.getD i default)).row) == (((x.merges.getD (i - 1) default)).row))) (Xi' rectT x.merges ((i : Int) - 1) (i - 1))), (32, Xv 1 (((decide ((i : Int) > 0)) && !(decide ((((x.merges.getD i default)).row) < (((x.merges.getD (i - 1) default)).row)))) && ((((x.merges.getD i default)).row) == (((x.merges.getD (i - 1) default)).row))) X0), (33, Xv 1 (((decide ((i : Int) > 0)) && !(decide ((((x.merges.getD i default)).row) < (((x.merges.getD (i - 1) default)).row)))) && ((((x.merges.getD i default)).row) == (((x.merges.getD (i - 1) default)).row))) X0), (34, Xv 2 (((decide ((i : Int) > 0)) && !(decide ((((x.merges.getD i default)).row) < (((x.merges.getD (i - 1) default)).row)))) && ((((x.merges.getD i default)).row) == (((x.merges.getD (i - 1) default)).row))) X0), (35, Xka ((decide ((i : Int) > 0)) && !(decide ((((x.merges.getD i default)).row) < (((x.merges.getD (i - 1) default)).row)))) ((((x.merges.getD i default)).row) == (((x.merges.getD (i - 1) default)).row))), (36, Xko (decide ((i : Int) > 0)) (decide ((((x.merges.getD i default)).row) < (((x.merges.getD (i - 1) default)).row)))), (37, X (Xk (decide ((i : Int) > 0))))]] (decide ((i : Int) > 0) && (decide ((((x.merges.getD i default)).row) < (((x.merges.getD (i - 1) default)).row)) || (((((x.merges.getD i default)).row) == (((x.merges.getD (i - 1) default)).row)) && decide ((((x.merges.getD i default)).col) ≤ (((x.merges.getD (i - 1) default)).col))))) (fun h14 => ?_) (fun h14 => ?_)
      ·
       (try simp only [decide_eq_true_eq, decide_eq_false_iff_not, Int.not_lt, Int.not_le, gt_iff_lt, Bool.and_eq_true, Bool.and_eq_false_iff, Bool.not_eq_true', Bool.not_eq_false', Bool.or_eq_true, Bool.or_eq_false_iff, beq_iff_eq, beq_eq_false_iff_ne, ne_eq] at h14)
       rw [if_pos ⟨by omega, bef_f.2 h14.2⟩] at hx
       have e5 : ((gridE x) : Int) = 5 := by
        unfold gridE; rw [if_neg (by omega), if_neg (by omega), I7.2.1, hx]
        
       exact .finE [.r []] [] (fun z0 => (VI z0, [])) (5 : Int) ((gridE x) : Int) e5
      ·
       (try simp only [decide_eq_true_eq, decide_eq_false_iff_not, Int.not_lt, Int.not_le, gt_iff_lt, Bool.and_eq_true, Bool.and_eq_false_iff, Bool.not_eq_true', Bool.not_eq_false', Bool.or_eq_true, Bool.or_eq_false_iff, beq_iff_eq, beq_eq_false_iff_ne, ne_eq] at h14)
       rw [if_neg (fun q => by have q1 := q.1; have q2 := bef_f.1 q.2; omega)] at hx
       have hrb := RB_ins h10 (by omega) (by omega)
       refine .loop (α := Nat) [.r []] 728 (fun j => ([(1, .ptr 0 0), (5, .ptr 272 0), (29, VI (x.merges.length : Int)), (30, VI (i : Int)), (91, VI (i : Int)), (92, VI (j : Int))], [(0, .box [VI x.rows, VI x.cols, VL 5 cellT x.cells, VL 4 rectT x.merges]), (272, .box [VI (((x.merges.getD i default)).row), VI (((x.merges.getD i default)).col), VI (((x.merges.getD i default)).h), VI (((x.merges.getD i default)).w)])])) (fun j => j ≤ i ∧ ∀ k, k < j → meetB (x.merges.getD k default) (x.merges.getD i default) = false) (fun j => i - j) (0 : Nat) ?_ ?_
       ·
        exact ⟨by omega, fun k hk => absurd hk (by omega)⟩
       rintro j I17 ih17
       try dsimp only at I17
       refine .br [.r []] (decide ((j : Int) < (i : Int))) (fun h17 => ?_) (fun h17 => ?_)
       ·
        (try simp only [decide_eq_true_eq, decide_eq_false_iff_not, Int.not_lt, Int.not_le] at h17)
        have hk := I7.2.2 j (by omega)
        have hrk := RB_ins hk (by omega) (by omega)
        have hse := hsh _ _ hk h10
        refine .br [.r [], .r [(4, X (Xi rectT x.merges (j : Int))), (6, X (Xc0 (fc_share ((x.merges.getD i default)) ((x.merges.getD j default)) (by assumption) (by assumption)) X0))]] (shareB ((x.merges.getD i default)) ((x.merges.getD j default))) (fun h19 => ?_) (fun h19 => ?_)
        ·
         rw [if_pos (anyM_take.2 ⟨j, by omega, by omega, by rw [← hse]; exact h19⟩)] at hx
         have e6 : ((gridE x) : Int) = 21 := by
          unfold gridE; rw [if_neg (by omega), if_neg (by omega), I7.2.1, hx]
          
         exact .finE [.r []] [] (fun z0 => (VI z0, [])) (21 : Int) ((gridE x) : Int) e6
        ·
         refine .back [.r [(0, X (Xn ((j : Int) + 1)))]] [(0, 0), (272, 272)] (ih17 ((j + 1) : Nat) ?_ ?_)
         ·
          refine ⟨by omega, fun k hk => ?_⟩
          by_cases e : k = j
          · rw [e, ← hse]; exact h19
          · exact I17.2 k (by omega)
         ·
          ((try dsimp only); omega)
       ·
        (try simp only [decide_eq_true_eq, decide_eq_false_iff_not, Int.not_lt, Int.not_le] at h17)
        rw [if_neg (fun q => by obtain ⟨k, k1, k2, k3⟩ := anyM_take.1 q; rw [I17.2 k (by omega)] at k3; cases k3)] at hx
        refine .back [.r [(0, X (Xn ((i : Int) + 1)))]] [(0, 0)] (ih7 ((i + 1) : Nat) ?_ ?_)
        ·
         exact ⟨by omega, by rw [I7.2.1, hx], I7.2.2.succ h10⟩
        ·
         ((try dsimp only); omega)
   ·
    (try simp only [decide_eq_true_eq, decide_eq_false_iff_not, Int.not_lt, Int.not_le] at h7)
    have e7 : ((gridE x) : Int) = 0 := by
     unfold gridE; rw [if_neg (by omega), if_neg (by omega), I7.2.1, mergE, if_neg (by omega)]
    exact .finE [.r []] [] (fun z0 => (VI z0, [])) (0 : Int) ((gridE x) : Int) e7
end Go.Ch
end
section
set_option linter.unusedVariables false
namespace Go.Ch
open Go Go.Ab

def insQE (l : List Rect) (m n : Int) (i : Nat) : Int := if i < l.length then (if insB (l.getD i default) m n = false then 2 else insQE l m n (i + 1)) else 0
termination_by l.length - i
def mgE (l : List Rect) (m n : Int) (i : Nat) : Int := if i < l.length then (if insB (l.getD i default) m n = false then 2 else if (l.getD i default).h = 1 ∧ (l.getD i default).w = 1 then 4 else mgE l m n (i + 1)) else 0
termination_by l.length - i
def celF (l : List Cell) (m n : Int) (i : Nat) : Int := if i < l.length then (if m ≤ (l.getD i default).row ∨ n ≤ (l.getD i default).col then 2 else celF l m n (i + 1)) else 0
termination_by l.length - i
theorem insQE_all {l : List Rect} {m n : Int} : ∀ (k i : Nat), l.length - i = k → insQE l m n i = 0 → ∀ j, i ≤ j → j < l.length → insB (l.getD j default) m n = true
  | 0, i, h, _, j, h1, h2 => by omega
  | k + 1, i, h, h0, j, h1, h2 => by
    rw [insQE, if_pos (by omega)] at h0
    split at h0
    · cases h0
    · rename_i hb
      by_cases e : i = j
      · rw [← e]; simpa using hb
      · exact insQE_all k (i + 1) (by omega) h0 j (by omega) h2
theorem mgE_all {l : List Rect} {m n : Int} : ∀ (k i : Nat), l.length - i = k → mgE l m n i = 0 → ∀ j, i ≤ j → j < l.length → insB (l.getD j default) m n = true ∧ ¬ ((l.getD j default).h = 1 ∧ (l.getD j default).w = 1)
  | 0, i, h, _, j, h1, h2 => by omega
  | k + 1, i, h, h0, j, h1, h2 => by
    rw [mgE, if_pos (by omega)] at h0
    split at h0
    · cases h0
    · rename_i hb
      split at h0
      · cases h0
      · rename_i hc
        by_cases e : i = j
        · rw [← e]; exact ⟨by simpa using hb, hc⟩
        · exact mgE_all k (i + 1) (by omega) h0 j (by omega) h2
theorem celF_all {l : List Cell} {m n : Int} : ∀ (k i : Nat), l.length - i = k → celF l m n i = 0 → ∀ j, i ≤ j → j < l.length → (l.getD j default).row < m ∧ (l.getD j default).col < n
  | 0, i, h, _, j, h1, h2 => by omega
  | k + 1, i, h, h0, j, h1, h2 => by
    rw [celF, if_pos (by omega)] at h0
    split at h0
    · cases h0
    · rename_i hb
      by_cases e : i = j
      · rw [← e]; omega
      · exact celF_all k (i + 1) (by omega) h0 j (by omega) h2
theorem mem_getDX {α : Type} [Inhabited α] {l : List α} {x : α} (h : x ∈ l) : ∃ j, j < l.length ∧ l.getD j default = x := by
  obtain ⟨j, hj, e⟩ := List.mem_iff_getElem.1 h
  exact ⟨j, hj, by rw [List.getD_eq_getElem?_getD, List.getElem?_eq_getElem hj]; exact e⟩
structure EdOk (e : GEd) : Prop where
  okr : Valid e.rows
  okc : Valid e.cols
  cells : cellsE e.cells 2147483647 2147483647 true 0 = 0
  split : ∀ r ∈ e.split, insB r 2147483647 2147483647 = true
  merge : ∀ r ∈ e.merge, insB r 2147483647 2147483647 = true ∧ ¬ (r.h = 1 ∧ r.w = 1)
def edE (e : GEd) : Int :=
  if ¬ checkX e.rows = 0 then checkX e.rows else if ¬ checkX e.cols = 0 then checkX e.cols
  else if ¬ cellsE e.cells 2147483647 2147483647 true 0 = 0 then cellsE e.cells 2147483647 2147483647 true 0
  else if ¬ insQE e.split 2147483647 2147483647 0 = 0 then insQE e.split 2147483647 2147483647 0 else mgE e.merge 2147483647 2147483647 0
theorem edE_ok {e : GEd} (h : edE e = 0) : EdOk e := by
  unfold edE at h
  split at h
  · omega
  · split at h
    · omega
    · split at h
      · omega
      · split at h
        · omega
        · refine ⟨check_iff.1 (by omega), check_iff.1 (by omega), by omega, fun r hr => ?_, fun r hr => ?_⟩
          · obtain ⟨j, hj, rfl⟩ := mem_getDX hr
            exact insQE_all _ 0 rfl (by omega) j (by omega) hj
          · obtain ⟨j, hj, rfl⟩ := mem_getDX hr
            exact mgE_all _ 0 rfl h j (by omega) hj
/-- The size of an axis afterwards. -/
def nwS (n : Int) (a : List AxStep) : Int := if 0 < a.length then newI a else n
structure FitOk (g : Grid) (e : GEd) : Prop where
  rows : 0 < e.rows.length → oldI e.rows = g.rows
  cols : 0 < e.cols.length → oldI e.cols = g.cols
  cells : ∀ c ∈ e.cells, c.row < nwS g.rows e.rows ∧ c.col < nwS g.cols e.cols
  split : ∀ r ∈ e.split, insB r (nwS g.rows e.rows) (nwS g.cols e.cols) = true
  merge : ∀ r ∈ e.merge, insB r (nwS g.rows e.rows) (nwS g.cols e.cols) = true
def fitE (g : Grid) (e : GEd) : Int :=
  if 0 < e.rows.length ∧ ¬ oldI e.rows = g.rows then 14 else if 0 < e.cols.length ∧ ¬ oldI e.cols = g.cols then 14
  else if ¬ celF e.cells (nwS g.rows e.rows) (nwS g.cols e.cols) 0 = 0 then celF e.cells (nwS g.rows e.rows) (nwS g.cols e.cols) 0
  else if ¬ insQE e.split (nwS g.rows e.rows) (nwS g.cols e.cols) 0 = 0 then insQE e.split (nwS g.rows e.rows) (nwS g.cols e.cols) 0
  else insQE e.merge (nwS g.rows e.rows) (nwS g.cols e.cols) 0
theorem fitE_ok {g : Grid} {e : GEd} (h : fitE g e = 0) : FitOk g e := by
  unfold fitE at h
  split at h
  · omega
  · split at h
    · omega
    · split at h
      · omega
      · split at h
        · omega
        · refine ⟨fun q => by omega, fun q => by omega, fun c hc => ?_, fun r hr => ?_, fun r hr => ?_⟩
          · obtain ⟨j, hj, rfl⟩ := mem_getDX hc
            exact celF_all _ 0 rfl (by omega) j (by omega) hj
          · obtain ⟨j, hj, rfl⟩ := mem_getDX hr
            exact insQE_all _ 0 rfl (by omega) j (by omega) hj
          · obtain ⟨j, hj, rfl⟩ := mem_getDX hr
            exact insQE_all _ 0 rfl h j (by omega) hj
theorem newI_bd {l : List AxStep} (h : Valid l) : 0 ≤ newI l ∧ newI l ≤ 2147483647 ∧ 0 ≤ oldI l ∧ oldI l ≤ 2147483647 := by
  have := h.2.1; have := h.2.2
  unfold newI oldI; omega
theorem nwS_bd {n : Int} {a : List AxStep} (h : Valid a) (hn : 0 ≤ n ∧ n ≤ 2147483647) : 0 ≤ nwS n a ∧ nwS n a ≤ 2147483647 := by
  have := newI_bd h
  unfold nwS; split <;> omega
end Go.Ch
end
section
set_option linter.unusedVariables false
set_option linter.unusedSimpArgs false
set_option maxRecDepth 100000
set_option maxHeartbeats 4000000
open Go Go.Proofs Go.Ab
namespace Go.Ch
theorem fc_checkEdit (e : GEd) (le : e.cells.length ≤ 100000000000 ∧ e.split.length ≤ 100000000000 ∧ e.merge.length ≤ 100000000000) (he : EdOk e) : FC Tryz.prog 33 [.t (gedT e)] (app emp []) (VI 0) (app emp []) := by
 refine .go Tryz.f33 ?_
 have hv1 := check_iff.2 he.okr
 have hv2 := check_iff.2 he.okc
 have hv3 := he.cells
 refine .br [.r [], .r [], .u, .r [], .t, .r [(0, X (Xa (Xc ((0:Int) ≤ 0)) (Xc ((0 : Int) < ((2 : Nat) : Int)))) ⟨by decide, by decide⟩)], .r [(1, X (Xc0 (fc_axCheck e.rows) X0))], .r []] ((checkX e.rows) != 0) (fun h5 => ?_) (fun h5 => ?_)
 ·
  (try simp only [bne_iff_ne, bne_eq_false_iff_eq, ne_eq] at h5)
  exfalso
  omega
 ·
  (try simp only [bne_iff_ne, bne_eq_false_iff_eq, ne_eq] at h5)
  refine .br [.r [], .u, .r [], .t, .r [(0, X (Xa (Xc ((0:Int) ≤ 1)) (Xc ((1 : Int) < ((2 : Nat) : Int)))) ⟨by decide, by decide⟩)], .r [(1, X (Xc0 (fc_axCheck e.cols) X0))], .r []] ((checkX e.cols) != 0) (fun h5 => ?_) (fun h5 => ?_)
  ·
   (try simp only [bne_iff_ne, bne_eq_false_iff_eq, ne_eq] at h5)
   exfalso
   omega
  ·
   (try simp only [bne_iff_ne, bne_eq_false_iff_eq, ne_eq] at h5)
   refine .br [.r [], .u, .r [], .f, .r [(2, X (Xc0 (fc_cells e.cells 2147483647 2147483647 true) X0))], .r []] ((cellsE e.cells 2147483647 2147483647 true 0) != 0) (fun h9 => ?_) (fun h9 => ?_)
   ·
    (try simp only [bne_iff_ne, bne_eq_false_iff_eq, ne_eq] at h9)
    exfalso
    omega
   ·
    (try simp only [bne_iff_ne, bne_eq_false_iff_eq, ne_eq] at h9)
    refine .loop (α := Nat) [.r [], .u, .r [], .t, .r [(1, X (Xa (Xc ((0:Int) ≤ 0)) (Xc ((0 : Int) < ((2 : Nat) : Int)))) ⟨by decide, by decide⟩)], .r [(1, X (Xl rectT e.split))]] 392 (fun j => ([(7, VI 0), (35, .t (.agg [TL 4 rectT e.split, TL 4 rectT e.merge])), (36, VI 0), (40, VL 4 rectT e.split), (41, VI (e.split.length : Int)), (42, VI (j : Int))], [])) (fun j => j ≤ (e.split).length) (fun j => (e.split).length - j) (0 : Nat) ?_ ?_
    ·
     (try dsimp only); omega
    rintro j I15 ih15
    try dsimp only at I15
    refine .br [.r []] (decide ((j : Int) < (e.split.length : Int))) (fun h15 => ?_) (fun h15 => ?_)
    ·
     (try simp only [decide_eq_true_eq, decide_eq_false_iff_not, Int.not_lt, Int.not_le] at h15)
     have hin : insB ((e.split).getD j default) 2147483647 2147483647 = true := by first | exact he.split _ (getDX_mem (by omega)) | exact (he.merge _ (getDX_mem (by omega))).1
     refine .br [.r [(0, X (Xi rectT e.split (j : Int)))], .r [(1, X (Xc0 (fc_inside ((e.split.getD j default)) 2147483647 2147483647 (by omega)) X0))]] (!(insB ((e.split.getD j default)) 2147483647 2147483647)) (fun h17 => ?_) (fun h17 => ?_)
     ·
      (try simp only [Bool.not_eq_true', Bool.not_eq_false'] at h17)
      exfalso
      rw [hin] at h17; cases h17
     ·
      (try simp only [Bool.not_eq_true', Bool.not_eq_false'] at h17)
      refine .br [.r [(4, Xv 1 false X0), (5, Xv 1 false X0), (6, X (Xk false)), (9, Xv 1 (false && ((((e.split.getD j default)).h) == 1)) X0), (10, Xv 1 (false && ((((e.split.getD j default)).h) == 1)) X0), (11, X (Xk (false && ((((e.split.getD j default)).h) == 1))))]] ((false && ((((e.split.getD j default)).h) == 1)) && ((((e.split.getD j default)).w) == 1)) (fun h19 => ?_) (fun h19 => ?_)
      ·
       (try simp only [Bool.and_eq_true, Bool.and_eq_false_iff, Bool.not_eq_true', Bool.not_eq_false', beq_iff_eq, beq_eq_false_iff_ne, ne_eq] at h19)
       exfalso
       first | (exact absurd h19.1.1 (by decide)) | (exact (he.merge _ (getDX_mem (l := e.merge) (i := j) (by omega))).2 ⟨by omega, by omega⟩)
      ·
       (try simp only [Bool.and_eq_true, Bool.and_eq_false_iff, Bool.not_eq_true', Bool.not_eq_false', beq_iff_eq, beq_eq_false_iff_ne, ne_eq] at h19)
       refine .back [.r [(0, X (Xn ((j : Int) + 1)))]] [] (ih15 ((j + 1) : Nat) ?_ ?_)
       ·
        (try dsimp only); omega
       ·
        ((try dsimp only); omega)
    ·
     (try simp only [decide_eq_true_eq, decide_eq_false_iff_not, Int.not_lt, Int.not_le] at h15)
     refine .loop (α := Nat) [.r [], .u, .r [], .t, .r [(1, X (Xa (Xc ((0:Int) ≤ 1)) (Xc ((1 : Int) < ((2 : Nat) : Int)))) ⟨by decide, by decide⟩)], .r [(1, X (Xl rectT e.merge))]] 480 (fun j => ([(7, VI 1), (35, .t (.agg [TL 4 rectT e.split, TL 4 rectT e.merge])), (36, VI 1), (40, VL 4 rectT e.merge), (41, VI (e.merge.length : Int)), (42, VI (j : Int))], [])) (fun j => j ≤ (e.merge).length) (fun j => (e.merge).length - j) (0 : Nat) ?_ ?_
     ·
      (try dsimp only); omega
     rintro j I15 ih15
     try dsimp only at I15
     refine .br [.r []] (decide ((j : Int) < (e.merge.length : Int))) (fun h15 => ?_) (fun h15 => ?_)
     ·
      (try simp only [decide_eq_true_eq, decide_eq_false_iff_not, Int.not_lt, Int.not_le] at h15)
      have hin : insB ((e.merge).getD j default) 2147483647 2147483647 = true := by first | exact he.split _ (getDX_mem (by omega)) | exact (he.merge _ (getDX_mem (by omega))).1
      refine .br [.r [(0, X (Xi rectT e.merge (j : Int)))], .r [(1, X (Xc0 (fc_inside ((e.merge.getD j default)) 2147483647 2147483647 (by omega)) X0))]] (!(insB ((e.merge.getD j default)) 2147483647 2147483647)) (fun h17 => ?_) (fun h17 => ?_)
      ·
       (try simp only [Bool.not_eq_true', Bool.not_eq_false'] at h17)
       exfalso
       rw [hin] at h17; cases h17
      ·
       (try simp only [Bool.not_eq_true', Bool.not_eq_false'] at h17)
       refine .br [.r [(4, Xv 1 true X0), (5, Xv 1 true X0), (6, X (Xk true)), (9, Xv 1 (true && ((((e.merge.getD j default)).h) == 1)) X0), (10, Xv 1 (true && ((((e.merge.getD j default)).h) == 1)) X0), (11, X (Xk (true && ((((e.merge.getD j default)).h) == 1))))]] ((true && ((((e.merge.getD j default)).h) == 1)) && ((((e.merge.getD j default)).w) == 1)) (fun h19 => ?_) (fun h19 => ?_)
       ·
        (try simp only [Bool.and_eq_true, Bool.and_eq_false_iff, Bool.not_eq_true', Bool.not_eq_false', beq_iff_eq, beq_eq_false_iff_ne, ne_eq] at h19)
        exfalso
        first | (exact absurd h19.1.1 (by decide)) | (exact (he.merge _ (getDX_mem (l := e.merge) (i := j) (by omega))).2 ⟨by omega, by omega⟩)
       ·
        (try simp only [Bool.and_eq_true, Bool.and_eq_false_iff, Bool.not_eq_true', Bool.not_eq_false', beq_iff_eq, beq_eq_false_iff_ne, ne_eq] at h19)
        refine .back [.r [(0, X (Xn ((j : Int) + 1)))]] [] (ih15 ((j + 1) : Nat) ?_ ?_)
        ·
         (try dsimp only); omega
        ·
         ((try dsimp only); omega)
     ·
      (try simp only [decide_eq_true_eq, decide_eq_false_iff_not, Int.not_lt, Int.not_le] at h15)
      exact .fin [.r [], .u, .r [], .f, .r []] []
end Go.Ch
end
section
set_option linter.unusedVariables false
set_option linter.unusedSimpArgs false
set_option maxRecDepth 100000
set_option maxHeartbeats 4000000
open Go Go.Proofs Go.Ab
namespace Go.Ch
theorem fc_fits (x : Grid) (e : GEd) (le : e.cells.length ≤ 100000000000 ∧ e.split.length ≤ 100000000000 ∧ e.merge.length ≤ 100000000000) (lm : x.merges.length ≤ 100000000000) (hx : gridE x = 0) (he : EdOk e) (hf : FitOk x e) : FC Tryz.prog 28 [.t (gridT x), .t (gedT e)] (app emp []) (.tup [VI (nwS x.rows e.rows), VI (nwS x.cols e.cols), VI 0]) (app emp []) := by
 refine .go Tryz.f28 ?_
 obtain ⟨f1, f2, f3, f4, f5⟩ := hf
 have hr := he.okr
 have hc := he.okc
 have hgb : 0 ≤ x.rows ∧ x.rows ≤ 2147483647 ∧ 0 ≤ x.cols ∧ x.cols ≤ 2147483647 := by (unfold gridE at hx; split at hx <;> omega)
 have nb1 := nwS_bd (n := x.rows) hr (by omega)
 have nb2 := nwS_bd (n := x.cols) hc (by omega)
 unfold nwS at nb1 nb2 f3 f4 f5
 refine .br [.r [], .r [(1, X (Xc0 (fc_gcheck x (by omega)) X0))], .r []] ((gridE x) != 0) (fun h2 => ?_) (fun h2 => ?_)
 ·
  (try simp only [bne_iff_ne, bne_eq_false_iff_eq, ne_eq] at h2)
  exfalso
  omega
 ·
  (try simp only [bne_iff_ne, bne_eq_false_iff_eq, ne_eq] at h2)
  refine .br [.r [(1, X (Xc0 (fc_checkEdit e (by assumption) (by assumption)) X0))], .r [], .f, .r [(4, X (Xc0 (fc_axsize x.rows e.rows (fun _ => hr)) X0))], .r [(4, X (Xc0 (fc_axsize x.cols e.cols (fun _ => hc)) X0))], .r [(4, Xv 1 (!(!(decide (0 < (e.rows).length → oldI e.rows = x.rows)))) X0), (5, X (Xk' (!(decide (0 < (e.rows).length → oldI e.rows = x.rows)))))]] (!(decide (0 < (e.rows).length → oldI e.rows = x.rows)) || !(decide (0 < (e.cols).length → oldI e.cols = x.cols))) (fun h9 => ?_) (fun h9 => ?_)
  ·
   (try simp only [decide_eq_true_eq, decide_eq_false_iff_not, Int.not_lt, Int.not_le, Bool.not_eq_true', Bool.not_eq_false', Bool.or_eq_true, Bool.or_eq_false_iff] at h9)
   exfalso
   rcases h9 with h | h; (exact h f1); (exact h f2)
  ·
   (try simp only [decide_eq_true_eq, decide_eq_false_iff_not, Int.not_lt, Int.not_le, Bool.not_eq_true', Bool.not_eq_false', Bool.or_eq_true, Bool.or_eq_false_iff] at h9)
   refine .loop (α := Nat) [.r [(2, X (Xl cellT e.cells))]] 360 (fun i => ([(3, .ptr 8 0), (9, VI (if 0 < (e.rows).length then newI e.rows else x.rows)), (11, VI (if 0 < (e.cols).length then newI e.cols else x.cols)), (52, VL 5 cellT e.cells), (53, VI (e.cells.length : Int)), (54, VI (i : Int))], [(8, .box [VL 2 stepT e.rows, VL 2 stepT e.cols, VL 5 cellT e.cells, VL 4 rectT e.split, VL 4 rectT e.merge])])) (fun i => i ≤ e.cells.length) (fun i => e.cells.length - i) (0 : Nat) ?_ ?_
   ·
    (try dsimp only); omega
   rintro i I12 ih12
   try dsimp only at I12
   refine .br [.r []] (decide ((i : Int) < (e.cells.length : Int))) (fun h12 => ?_) (fun h12 => ?_)
   ·
    (try simp only [decide_eq_true_eq, decide_eq_false_iff_not, Int.not_lt, Int.not_le] at h12)
    have hm := f3 _ (getDX_mem (l := e.cells) (i := i) (by omega))
    refine .br [.r [(0, X (Xi cellT e.cells (i : Int)))], .r [(6, Xv 1 (!(decide ((((e.cells.getD i default)).row) ≥ (if 0 < (e.rows).length then newI e.rows else x.rows)))) X0), (8, Xv 2 (!(decide ((((e.cells.getD i default)).row) ≥ (if 0 < (e.rows).length then newI e.rows else x.rows)))) X0), (9, X (Xk' (decide ((((e.cells.getD i default)).row) ≥ (if 0 < (e.rows).length then newI e.rows else x.rows)))))]] (decide ((((e.cells.getD i default)).row) ≥ (if 0 < (e.rows).length then newI e.rows else x.rows)) || decide ((((e.cells.getD i default)).col) ≥ (if 0 < (e.cols).length then newI e.cols else x.cols))) (fun h14 => ?_) (fun h14 => ?_)
    ·
     (try simp only [decide_eq_true_eq, decide_eq_false_iff_not, Int.not_lt, Int.not_le, ge_iff_le, Bool.or_eq_true, Bool.or_eq_false_iff] at h14)
     exfalso
     omega
    ·
     (try simp only [decide_eq_true_eq, decide_eq_false_iff_not, Int.not_lt, Int.not_le, ge_iff_le, Bool.or_eq_true, Bool.or_eq_false_iff] at h14)
     refine .back [.r [(0, X (Xn ((i : Int) + 1)))]] [(8, 8)] (ih12 ((i + 1) : Nat) ?_ ?_)
     ·
      (try dsimp only); omega
     ·
      ((try dsimp only); omega)
   ·
    (try simp only [decide_eq_true_eq, decide_eq_false_iff_not, Int.not_lt, Int.not_le] at h12)
    refine .loop (α := Nat) [.r [], .u, .r [], .t, .r [(0, X (Xa (Xc ((0:Int) ≤ 0)) (Xc ((0 : Int) < ((2 : Nat) : Int)))) ⟨by decide, by decide⟩)], .r [(1, X (Xl rectT e.split))]] 464 (fun j => ([(9, VI (if 0 < (e.rows).length then newI e.rows else x.rows)), (11, VI (if 0 < (e.cols).length then newI e.cols else x.cols)), (73, .t (.agg [TL 4 rectT e.split, TL 4 rectT e.merge])), (74, VI 0), (77, VL 4 rectT e.split), (78, VI (e.split.length : Int)), (79, VI (j : Int))], [])) (fun j => j ≤ (e.split).length) (fun j => (e.split).length - j) (0 : Nat) ?_ ?_
    ·
     (try dsimp only); omega
    rintro j I21 ih21
    try dsimp only at I21
    refine .br [.r []] (decide ((j : Int) < (e.split.length : Int))) (fun h21 => ?_) (fun h21 => ?_)
    ·
     (try simp only [decide_eq_true_eq, decide_eq_false_iff_not, Int.not_lt, Int.not_le] at h21)
     have hin : insB ((e.split).getD j default) (if 0 < (e.rows).length then newI e.rows else x.rows) (if 0 < (e.cols).length then newI e.cols else x.cols) = true := by first | exact f4 _ (getDX_mem (by omega)) | exact f5 _ (getDX_mem (by omega))
     refine .br [.r [(0, X (Xi rectT e.split (j : Int)))], .r [(3, X (Xc0 (fc_inside ((e.split.getD j default)) (if 0 < (e.rows).length then newI e.rows else x.rows) (if 0 < (e.cols).length then newI e.cols else x.cols) (by omega)) X0))]] (!(insB ((e.split.getD j default)) (if 0 < (e.rows).length then newI e.rows else x.rows) (if 0 < (e.cols).length then newI e.cols else x.cols))) (fun h23 => ?_) (fun h23 => ?_)
     ·
      (try simp only [Bool.not_eq_true', Bool.not_eq_false'] at h23)
      exfalso
      rw [hin] at h23; cases h23
     ·
      (try simp only [Bool.not_eq_true', Bool.not_eq_false'] at h23)
      refine .back [.r [(0, X (Xn ((j : Int) + 1)))]] [] (ih21 ((j + 1) : Nat) ?_ ?_)
      ·
       (try dsimp only); omega
      ·
       ((try dsimp only); omega)
    ·
     (try simp only [decide_eq_true_eq, decide_eq_false_iff_not, Int.not_lt, Int.not_le] at h21)
     refine .loop (α := Nat) [.r [], .u, .r [], .t, .r [(0, X (Xa (Xc ((0:Int) ≤ 1)) (Xc ((1 : Int) < ((2 : Nat) : Int)))) ⟨by decide, by decide⟩)], .r [(1, X (Xl rectT e.merge))]] 536 (fun j => ([(9, VI (if 0 < (e.rows).length then newI e.rows else x.rows)), (11, VI (if 0 < (e.cols).length then newI e.cols else x.cols)), (73, .t (.agg [TL 4 rectT e.split, TL 4 rectT e.merge])), (74, VI 1), (77, VL 4 rectT e.merge), (78, VI (e.merge.length : Int)), (79, VI (j : Int))], [])) (fun j => j ≤ (e.merge).length) (fun j => (e.merge).length - j) (0 : Nat) ?_ ?_
     ·
      (try dsimp only); omega
     rintro j I21 ih21
     try dsimp only at I21
     refine .br [.r []] (decide ((j : Int) < (e.merge.length : Int))) (fun h21 => ?_) (fun h21 => ?_)
     ·
      (try simp only [decide_eq_true_eq, decide_eq_false_iff_not, Int.not_lt, Int.not_le] at h21)
      have hin : insB ((e.merge).getD j default) (if 0 < (e.rows).length then newI e.rows else x.rows) (if 0 < (e.cols).length then newI e.cols else x.cols) = true := by first | exact f4 _ (getDX_mem (by omega)) | exact f5 _ (getDX_mem (by omega))
      refine .br [.r [(0, X (Xi rectT e.merge (j : Int)))], .r [(3, X (Xc0 (fc_inside ((e.merge.getD j default)) (if 0 < (e.rows).length then newI e.rows else x.rows) (if 0 < (e.cols).length then newI e.cols else x.cols) (by omega)) X0))]] (!(insB ((e.merge.getD j default)) (if 0 < (e.rows).length then newI e.rows else x.rows) (if 0 < (e.cols).length then newI e.cols else x.cols))) (fun h23 => ?_) (fun h23 => ?_)
      ·
       (try simp only [Bool.not_eq_true', Bool.not_eq_false'] at h23)
       exfalso
       rw [hin] at h23; cases h23
      ·
       (try simp only [Bool.not_eq_true', Bool.not_eq_false'] at h23)
       refine .back [.r [(0, X (Xn ((j : Int) + 1)))]] [] (ih21 ((j + 1) : Nat) ?_ ?_)
       ·
        (try dsimp only); omega
       ·
        ((try dsimp only); omega)
     ·
      (try simp only [decide_eq_true_eq, decide_eq_false_iff_not, Int.not_lt, Int.not_le] at h21)
      have e1 : ((nwS x.rows e.rows) : Int) = (if 0 < (e.rows).length then newI e.rows else x.rows) := by
       rfl
      have e2 : ((nwS x.cols e.cols) : Int) = (if 0 < (e.cols).length then newI e.cols else x.cols) := by
       rfl
      exact .finE [.r [], .u, .r [], .f, .r []] [] (fun (z0, z1) => (.tup [VI z0, VI z1, VI 0], [])) (((if 0 < (e.rows).length then newI e.rows else x.rows) : Int), ((if 0 < (e.cols).length then newI e.cols else x.cols) : Int)) (((nwS x.rows e.rows) : Int), ((nwS x.cols e.cols) : Int)) (pr e1 e2)
end Go.Ch
end
section
set_option linter.unusedVariables false
namespace Go.Ch
open Go Go.Ab

theorem idxF_spec {α : Type} [Inhabited α] (p : α → Bool) {l : List α} : ∀ (n i : Nat), l.length - i = n → (idxF p l i = -1 ∧ (∀ j, i ≤ j → j < l.length → p (l.getD j default) = false)) ∨
    ∃ k : Nat, idxF p l i = (k : Int) ∧ i ≤ k ∧ k < l.length ∧ p (l.getD k default) = true ∧ ∀ j, i ≤ j → j < k → p (l.getD j default) = false
  | 0, i, h => by rw [idxF, if_neg (by omega)]; exact .inl ⟨rfl, fun j h1 h2 => by omega⟩
  | n + 1, i, h => by
    have hi : i < l.length := by omega
    rw [idxF, if_pos hi]
    by_cases hp : p (l.getD i default) = true
    · rw [if_pos hp]; exact .inr ⟨i, rfl, Nat.le_refl _, hi, hp, fun j h1 h2 => by omega⟩
    · rw [if_neg hp]
      rcases idxF_spec p (l := l) n (i + 1) (by omega) with ⟨e, q⟩ | ⟨k, e, k1, k2, k3, k4⟩
      · refine .inl ⟨e, fun j h1 h2 => ?_⟩
        by_cases ej : i = j
        · rw [← ej]; simpa using hp
        · exact q j (by omega) h2
      · refine .inr ⟨k, e, by omega, k2, k3, fun j h1 h2 => ?_⟩
        by_cases ej : i = j
        · rw [← ej]; simpa using hp
        · exact k4 j (by omega) h2
def delL {α : Type} (p : α → Bool) (l : List α) : List α := l.filter (fun q => !p q)
theorem filt_all {α : Type} [Inhabited α] {p : α → Bool} {l : List α} (h : ∀ j, 0 ≤ j → j < l.length → p (l.getD j default) = false) : delL p l = l := by
  unfold delL
  rw [List.filter_eq_self]
  intro q hq
  obtain ⟨j, hj, rfl⟩ := mem_getDX hq
  rw [h j (by omega) hj]; rfl
/-- What the loop of DeleteFunc keeps. -/
structure DelI {α : Type} [Inhabited α] (p : α → Bool) (l o : List α) (i j : Nat) : Prop where
  len : o.length = l.length
  lt : i < j
  le : j ≤ l.length
  tk : o.take i = delL p (l.take j)
  dr : o.drop j = l.drop j
theorem DelI.start {α : Type} [Inhabited α] {p : α → Bool} {l : List α} {k : Nat} (h1 : k < l.length) (h2 : p (l.getD k default) = true) (h3 : ∀ j, 0 ≤ j → j < k → p (l.getD j default) = false) : DelI p l l k (k + 1) := by
  refine ⟨rfl, by omega, by omega, ?_, rfl⟩
  unfold delL
  rw [filt_succ _ h1, if_neg (by rw [h2]; decide), List.append_nil]
  symm
  rw [List.filter_eq_self]
  intro q hq
  obtain ⟨j, hj, rfl⟩ := mem_getDX hq
  rw [List.length_take] at hj
  rw [List.getD_eq_getElem?_getD, List.getElem?_take_of_lt (by omega), ← List.getD_eq_getElem?_getD, h3 j (by omega) (by omega)]; rfl
theorem DelI.at_ {α : Type} [Inhabited α] {p : α → Bool} {l o : List α} {i j : Nat} (h : DelI p l o i j) (hj : j < l.length) : o.getD j default = l.getD j default := by
  have e1 : o.drop j = o.getD j default :: o.drop (j + 1) := drop_succD (by have := h.len; omega)
  have e2 : l.drop j = l.getD j default :: l.drop (j + 1) := drop_succD hj
  have := h.dr
  rw [e1, e2] at this
  exact (List.cons.inj this).1
theorem DelI.skip {α : Type} [Inhabited α] {p : α → Bool} {l o : List α} {i j : Nat} (h : DelI p l o i j) (hj : j < l.length) (hp : p (o.getD j default) = true) : DelI p l o i (j + 1) := by
  have e := h.at_ hj
  rw [e] at hp
  refine ⟨h.len, by have := h.lt; omega, by omega, ?_, ?_⟩
  · rw [h.tk]; unfold delL; rw [filt_succ _ hj, if_neg (by rw [hp]; decide), List.append_nil]
  · have := congrArg (List.drop 1) h.dr
    rwa [List.drop_drop, List.drop_drop] at this
theorem DelI.keep {α : Type} [Inhabited α] {p : α → Bool} {l o : List α} {i j : Nat} (h : DelI p l o i j) (hj : j < l.length) (hp : p (o.getD j default) = false) : DelI p l (o.set i (o.getD j default)) (i + 1) (j + 1) := by
  have e := h.at_ hj
  have hlt := h.lt
  have hlen := h.len
  rw [e] at hp ⊢
  refine ⟨by rw [List.length_set]; exact hlen, by omega, by omega, ?_, ?_⟩
  · unfold delL
    rw [filt_succ _ hj, if_pos (by rw [hp]; rfl)]
    have : (o.set i (l.getD j default)).take (i + 1) = o.take i ++ [l.getD j default] := by
      rw [List.take_succ_eq_append_getElem (by rw [List.length_set]; omega), List.getElem_set_self, List.take_set_of_le (Nat.le_refl _)]
    rw [this, h.tk]; rfl
  · rw [List.drop_set_of_lt (by omega)]
    have := congrArg (List.drop 1) h.dr
    rwa [List.drop_drop, List.drop_drop] at this
theorem DelI.done {α : Type} [Inhabited α] {p : α → Bool} {l o : List α} {i j : Nat} (h : DelI p l o i j) (hj : ¬ j < l.length) : o.take i = delL p l := by
  rw [h.tk, List.take_of_length_le (by omega)]
theorem delL_len {α : Type} (p : α → Bool) (l : List α) : (delL p l).length ≤ l.length := List.length_filter_le _ _
end Go.Ch
end
section
set_option linter.unusedVariables false
set_option linter.unusedSimpArgs false
set_option maxRecDepth 100000
set_option maxHeartbeats 4000000
open Go Go.Proofs Go.Ab
namespace Go.Ch
theorem fc_idxF_rawR (l : List Rect) (a b c d : Int) (hn : l.length ≤ 100000000000) (hl : AllRB l) (hr : RB ⟨a, b, c, d⟩) : FC Tryz.prog 84 [.row 0 l.length, .fn 57 [.ptr 1 0]] (app emp [(0, OR 4 rectT l), (1, .box [VI a, VI b, VI c, VI d])]) (VI (idxF (fun q => meetB q ⟨a, b, c, d⟩) l 0)) (app emp [(0, OR 4 rectT l), (1, .box [VI a, VI b, VI c, VI d])]) := by
 refine .go Tryz.f84 ?_
 refine .loop (α := Nat) [.r [], .r []] 34 (fun i => ([(0, .row 0 l.length), (1, .fn 57 [.ptr 1 0]), (7, VI (l.length : Int)), (8, VI (i : Int))], [(0, OR 4 rectT l), (1, .box [VI a, VI b, VI c, VI d])])) (fun i => i ≤ l.length ∧ idxF (fun q => meetB q ⟨a, b, c, d⟩) l 0 = idxF (fun q => meetB q ⟨a, b, c, d⟩) l i) (fun i => l.length - i) (0 : Nat) ?_ ?_
 ·
  exact ⟨by omega, rfl⟩
 rintro i I2 ih2
 try dsimp only at I2
 refine .br [.r []] (decide ((i : Int) < (l.length : Int))) (fun h2 => ?_) (fun h2 => ?_)
 ·
  (try simp only [decide_eq_true_eq, decide_eq_false_iff_not, Int.not_lt, Int.not_le] at h2)
  have hm := hl _ (getDX_mem (l := l) (i := i) (by omega))
  refine .br [.r [], .r [(3, X (Xp rectT l (i : Int))), (4, X (Xe rectT l i)), (5, X (Xc3 98 [(0, 1)] (fc_raw1 ((l.getD i default)) a b c d (by assumption) (by assumption)) X0))]] (meetB ((l.getD i default)) ⟨a, b, c, d⟩) (fun h4 => ?_) (fun h4 => ?_)
  ·
   have e1 : ((idxF (fun q => meetB q ⟨a, b, c, d⟩) l 0) : Int) = (i : Int) := by
    rw [I2.2, idxF, if_pos (by omega), if_pos h4]
   exact .finE [.r []] [(0, 0), (1, 1)] (fun z0 => (VI z0, [(0, OR 4 rectT l), (1, .box [VI a, VI b, VI c, VI d])])) ((i : Int) : Int) ((idxF (fun q => meetB q ⟨a, b, c, d⟩) l 0) : Int) e1
  ·
   refine .back [.r [(0, X (Xn ((i : Int) + 1)))]] [(0, 0), (1, 1)] (ih2 ((i + 1) : Nat) ?_ ?_)
   ·
    refine ⟨by omega, ?_⟩
    rw [I2.2, idxF, if_pos (by omega), if_neg (by rw [h4]; decide)]
   ·
    ((try dsimp only); omega)
 ·
  (try simp only [decide_eq_true_eq, decide_eq_false_iff_not, Int.not_lt, Int.not_le] at h2)
  have e2 : ((idxF (fun q => meetB q ⟨a, b, c, d⟩) l 0) : Int) = -1 := by
   rw [I2.2, idxF, if_neg (by omega)]
  exact .finE [.r []] [(0, 0), (1, 1)] (fun z0 => (VI z0, [(0, OR 4 rectT l), (1, .box [VI a, VI b, VI c, VI d])])) (-1 : Int) ((idxF (fun q => meetB q ⟨a, b, c, d⟩) l 0) : Int) e2

theorem fc_delQ (l : List Rect) (a b c d : Int) (hn : l.length ≤ 100000000000) (hl : AllRB l) (hr : RB ⟨a, b, c, d⟩) : FC Tryz.prog 56 [.row 0 l.length, .fn 57 [.ptr 1 0]] (app emp [(0, OR 4 rectT l), (1, .box [VI a, VI b, VI c, VI d])]) (.row 2 ((delL (fun q => meetB q ⟨a, b, c, d⟩) l).length)) (app emp [(0, .gone), (1, .box [VI a, VI b, VI c, VI d]), (2, OR 4 rectT (delL (fun q => meetB q ⟨a, b, c, d⟩) l))]) := by
 refine .go Tryz.f56 ?_
 have sp := idxF_spec (fun q => meetB q ⟨a, b, c, d⟩) (l := l) _ 0 rfl
 refine .mid [.r []] ?_
 by_cases hd : 0 ≤ idxF (fun q => meetB q ⟨a, b, c, d⟩) l 0
 ·
  obtain ⟨k, hk, k1, k2, k3, k4⟩ := sp.resolve_left (fun q => by omega)
  refine .br [.r [(2, X (Xc4 [(0, 0), (1, 1)] (fc_idxF_rawR l a b c d (by omega) (by assumption) (by assumption)) X0))], .le (.eq 5 (VI (idxF (fun q => meetB q ⟨a, b, c, d⟩) l 0)) (VI (k : Int)) (.of_eq (by rw [hk]))), .r []] ((k : Int) == (-1)) (fun h2 => ?_) (fun h2 => ?_)
  ·
   (try simp only [beq_iff_eq, beq_eq_false_iff_ne, ne_eq] at h2)
   exfalso
   omega
  ·
   (try simp only [beq_iff_eq, beq_eq_false_iff_ne, ne_eq] at h2)
   refine .loop (α := Nat × Nat × (List Rect)) [.r [(1, X (Xn ((k : Int) + 1)))]] 82 (fun (i, j, o) => ([(0, .row 0 o.length), (1, .fn 57 [.ptr 1 0]), (5, VI (i : Int)), (6, VI (j : Int))], [(0, OR 4 rectT o), (1, .box [VI a, VI b, VI c, VI d])])) (fun (i, j, o) => DelI (fun q => meetB q ⟨a, b, c, d⟩) l o i j) (fun (i, j, o) => l.length - j) (k, (k + 1), l) ?_ ?_
   ·
    exact DelI.start k2 k3 k4
   rintro ⟨i, j, o⟩ I5 ih5
   replace I5 : DelI (fun q => meetB q ⟨a, b, c, d⟩) l o i j := I5
   have il := I5.len
   have ilt := I5.lt
   have ile := I5.le
   refine .br [.r []] (decide ((j : Int) < (o.length : Int))) (fun h5 => ?_) (fun h5 => ?_)
   ·
    (try simp only [decide_eq_true_eq, decide_eq_false_iff_not, Int.not_lt, Int.not_le] at h5)
    have hm : RB (o.getD j default) := by (rw [I5.at_ (by omega)]; exact hl _ (getDX_mem (by omega)))
    refine .br [.r [(2, X (Xp rectT o (j : Int))), (3, X (Xe rectT o j))], .r [(2, X (Xc3 178 [(0, 1)] (fc_raw1 ((o.getD j default)) a b c d (by assumption) (by assumption)) X0))]] (!(meetB ((o.getD j default)) ⟨a, b, c, d⟩)) (fun h8 => ?_) (fun h8 => ?_)
    ·
     (try simp only [Bool.not_eq_true', Bool.not_eq_false'] at h8)
     refine .back [.r [(3, X (Xp rectT o (i : Int))), (4, X (Xs 4 rectT 0 o i ((o.getD j default))))], .r [(1, X (Xn ((i : Int) + 1)))], .r [(1, X (Xn ((j : Int) + 1)))], .le (.eq 0 (.row 0 o.length) (.row 0 ((o.set i ((o.getD j default))).length)) (.of_eq (by simp only [List.length_set])))] [(0, 0), (1, 1)] (ih5 ((i + 1), (j + 1), (o.set i ((o.getD j default)))) ?_ ?_)
     ·
      exact I5.keep (by omega) h8
     ·
      ((try dsimp only); omega)
    ·
     (try simp only [Bool.not_eq_true', Bool.not_eq_false'] at h8)
     refine .back [.r [(1, X (Xn ((j : Int) + 1)))]] [(0, 0), (1, 1)] (ih5 (i, (j + 1), o) ?_ ?_)
     ·
      exact I5.skip (by omega) h8
     ·
      ((try dsimp only); omega)
   ·
    (try simp only [decide_eq_true_eq, decide_eq_false_iff_not, Int.not_lt, Int.not_le] at h5)
    have hdn := I5.done (by omega)
    have e1 : ((delL (fun q => meetB q ⟨a, b, c, d⟩) l) : List Rect) = (o.take i) := by
     first | exact hdn.symm | rw [hdn]
    have e2 : ((delL (fun q => meetB q ⟨a, b, c, d⟩) l).length : Nat) = (o.take i).length := by
     first | exact hdn.symm | rw [hdn]
    exact .finE [.r [(2, X (Xtl rectT o.length o (i : Int))), (3, X (Xclr rectT o.length i o))], .r [(2, X (Xcut' rectT 4 0 162 o.length i o (.agg [TI 0, TI 0, TI 0, TI 0]) (i : Int)))]] [(0, 0), (1, 1), (162, 2)] (fun (z0, z1) => (.row 2 z1, [(0, .gone), (1, .box [VI a, VI b, VI c, VI d]), (2, OR 4 rectT z0)])) (((o.take i) : List Rect), ((o.take i).length : Nat)) (((delL (fun q => meetB q ⟨a, b, c, d⟩) l) : List Rect), ((delL (fun q => meetB q ⟨a, b, c, d⟩) l).length : Nat)) (pr e1 e2)
 ·
  obtain ⟨hk, hall⟩ := sp.resolve_right (fun ⟨k, hk, q⟩ => by omega)
  have e3 : ((delL (fun q => meetB q ⟨a, b, c, d⟩) l) : List Rect) = l := by
   first | exact filt_all hall | rw [filt_all hall]
  have e4 : ((delL (fun q => meetB q ⟨a, b, c, d⟩) l).length : Nat) = l.length := by
   first | exact filt_all hall | rw [filt_all hall]
  exact .finE [.r [(2, X (Xc4 [(0, 0), (1, 1)] (fc_idxF_rawR l a b c d (by omega) (by assumption) (by assumption)) X0))], .le (.eq 5 (VI (idxF (fun q => meetB q ⟨a, b, c, d⟩) l 0)) (VI (-1)) (.of_eq (by rw [hk]))), .r [], .t, .le (.mv 0 l.length (List.map rectT l).length lm), .r []] [(0, 0), (1, 1), (58, 2)] (fun (z0, z1) => (.row 2 z1, [(0, .gone), (1, .box [VI a, VI b, VI c, VI d]), (2, OR 4 rectT z0)])) ((l : List Rect), (l.length : Nat)) (((delL (fun q => meetB q ⟨a, b, c, d⟩) l) : List Rect), ((delL (fun q => meetB q ⟨a, b, c, d⟩) l).length : Nat)) (pr e3 e4)
end Go.Ch
end
section
namespace Go.Ab
open Go Go.Proofs Go.RowKit Go.Shelf Go.Lib Go.Sort
open Go.Ch
set_option linter.unusedVariables false
set_option linter.unusedSimpArgs false

set_option maxHeartbeats 4000000 in
theorem compare_w (x y : Int) (W : World) : Calls Tryz.prog 62 #[.int .i64 x, .int .i64 y] W fun e w' => e = .returned (.int .i64 (cmpI x y)) ∧ w' = W := by
  have hcon := fun z W' => Tryz.cmp_isNaN_int2 z W'
  unfold cmpI
  by_cases h1 : x < y
  · rw [if_pos h1]
    go_enter Tryz.func62, Tryz.ntmps62
    go_wp2_with (go_at_call 87; refine (hcon _ _).mono ?_; rintro e w' ⟨rfl, rfl⟩)
    go_ret
    exact ⟨rfl, rfl⟩
  · rw [if_neg h1]
    by_cases h2 : x > y
    · rw [if_pos h2]
      go_enter Tryz.func62, Tryz.ntmps62
      go_wp2_with (go_at_call 87; refine (hcon _ _).mono ?_; rintro e w' ⟨rfl, rfl⟩)
      go_ret
      exact ⟨rfl, rfl⟩
    · rw [if_neg h2]
      go_enter Tryz.func62, Tryz.ntmps62
      go_wp2_with (go_at_call 87; refine (hcon _ _).mono ?_; rintro e w' ⟨rfl, rfl⟩)
      go_ret
      exact ⟨rfl, rfl⟩

set_option maxHeartbeats 8000000 in
theorem or_w (u v : Int) (B cap : Nat) (W : World) (h0 : W.cell? ⟨B, 0, none⟩ = some (.int .i64 u)) (h1 : W.cell? ⟨B, 1, none⟩ = some (.int .i64 v)) :
    Calls Tryz.prog 61 #[.slice (some ⟨B, 0, none⟩) 2 cap] W fun e w' => e = .returned (.int .i64 (Go.Ch.orL [u, v])) ∧ w' = W := by
  by_cases hu : u = 0
  · by_cases hv : v = 0
    · subst hu hv
      go_enter Tryz.func61, Tryz.ntmps61
      go_wp2
      go_rounds 3
      go_ret
      exact ⟨rfl, rfl⟩
    · subst hu
      have e : Go.Ch.orL [0, v] = v := by simp [Go.Ch.orL, hv]
      rw [e]
      clear e
      go_enter Tryz.func61, Tryz.ntmps61
      go_wp2
      go_rounds 3
      go_ret
      exact ⟨rfl, rfl⟩
  · have e : Go.Ch.orL [u, v] = u := by simp [Go.Ch.orL, hu]
    rw [e]
    clear e
    go_enter Tryz.func61, Tryz.ntmps61
    go_wp2
    go_rounds 3
    go_ret
    exact ⟨rfl, rfl⟩

theorem alloc_cell (W : World) (c : Array Value) (t : TypeId) (o : Nat) : (W.alloc (.cells c t)).cell? ⟨W.heap.size, o, none⟩ = c[o]? := by
  have h : (W.alloc (.cells c t)).heap[W.heap.size]? = some (.cells c t) := by (rw [alloc_eq_grow]; show (W.heap ++ #[.cells c t])[W.heap.size]? = _; simp)
  unfold World.cell?
  simp only [h]
  rfl
def encQ (r : Rect) : List Value := [.int .i64 r.row, .int .i64 r.col, .int .i64 r.h, .int .i64 r.w]
def cmpQ (a b : Rect) : Int := Go.Ch.orL [cmpI a.row b.row, cmpI a.col b.col]
set_option maxRecDepth 1000000 in
set_option maxHeartbeats 8000000 in
theorem raw2_w (x y : Rect) (W : World) : Calls Tryz.prog 60 #[.agg (encQ x).toArray, .agg (encQ y).toArray] W fun e w' => e = .returned (.int .i64 (cmpQ x y)) ∧ ∃ q os', w' = grow (W.drewN q) os' := by
  have hcmp := fun a b W' => compare_w a b W'
  unfold encQ cmpQ
  generalize x.row = x1
  generalize x.col = x2
  generalize x.h = x3
  generalize x.w = x4
  generalize y.row = y1
  generalize y.col = y2
  generalize y.h = y3
  generalize y.w = y4
  go_enter Tryz.func60, Tryz.ntmps60
  go_wp2_with (go_at_call 62; refine (hcmp _ _ _).mono ?_; rintro e w' ⟨rfl, rfl⟩)
  obtain ⟨OA, hA⟩ : ∃ o, Obj.cells #[Value.int .i64 x1, .int .i64 x2, .int .i64 x3, .int .i64 x4] 46 = o := ⟨_, rfl⟩
  obtain ⟨OB, hB⟩ : ∃ o, Obj.cells #[Value.int .i64 y1, .int .i64 y2, .int .i64 y3, .int .i64 y4] 46 = o := ⟨_, rfl⟩
  rw [hA, hB]
  refine wp_region_still_tail 10 (by kernel_rfl) (by kernel_rfl) ?_
  obtain ⟨W3, hW3⟩ : ∃ V, ((W.alloc OA).alloc OB).drew = V := ⟨_, rfl⟩
  have hg : W3 = grow (W.drewN 1) #[OA, OB] := by rw [← hW3, alloc_eq_grow, alloc_eq_grow, grow_grow]; rfl
  have p1 : W3.heap[W.heap.size]? = some OA := by rw [hg]; show (W.heap ++ #[OA, OB])[W.heap.size]? = _; simp
  have p2 : W3.heap[W.heap.size + 1]? = some OB := by rw [hg]; show (W.heap ++ #[OA, OB])[W.heap.size + 1]? = _; simp
  have c1 : W3.cell? ⟨W.heap.size, 0, none⟩ = some (.int .i64 x1) := by unfold World.cell?; simp only [p1]; rw [← hA]; rfl
  have c2 : W3.cell? ⟨W.heap.size, 1, none⟩ = some (.int .i64 x2) := by unfold World.cell?; simp only [p1]; rw [← hA]; rfl
  have c3 : W3.cell? ⟨W.heap.size + 1, 0, none⟩ = some (.int .i64 y1) := by unfold World.cell?; simp only [p2]; rw [← hB]; rfl
  have c4 : W3.cell? ⟨W.heap.size + 1, 1, none⟩ = some (.int .i64 y2) := by unfold World.cell?; simp only [p2]; rw [← hB]; rfl
  clear p1 p2
  have hx : ∃ q os, W3 = grow (W.drewN q) os := ⟨1, _, hg⟩
  clear hg
  change wpStill _ _ ((W.alloc OA).alloc OB).drew (fun a' => wpList _ _ _ _ a' ((W.alloc OA).alloc OB).drew) _ _
  rw [hW3]
  clear hW3 hA hB
  simp only [List.take_succ_cons, List.take_zero, List.drop_succ_cons, List.drop_zero]
  repeat still_step
  still_call (hcmp _ _ _)
  repeat still_step
  still_call (hcmp _ _ _)
  refine wpStill_nil ?_
  have hor : ∀ u v : Int, Calls Tryz.prog 61 #[.slice (some ⟨W3.heap.size, 0, none⟩) 2 2] (W3.alloc (.cells #[.int .i64 u, .int .i64 v] 3)) fun e w' => e = .returned (.int .i64 (Go.Ch.orL [u, v])) ∧ w' = W3.alloc (.cells #[.int .i64 u, .int .i64 v] 3) := fun u v =>
    or_w u v _ _ _ (alloc_cell _ _ _ 0) (alloc_cell _ _ _ 1)
  clear hcmp c1 c2 c3 c4
  go_wp2_with (go_at_call 61; refine (hor _ _).mono ?_; rintro e w' ⟨rfl, rfl⟩)
  clear hor
  go_ret
  obtain ⟨q, os, rfl⟩ := hx
  exact ⟨rfl, q, _, by rw [alloc_eq_grow, grow_grow]⟩
end Go.Ab
end
section
set_option linter.unusedVariables false
set_option linter.unusedSimpArgs false
namespace Go.Ch
open Go Go.Proofs Go.Ab Go.RowKit Go.Shelf Go.Sort

theorem cmpQ_def (a b : Rect) : cmpQ a b = if a.row < b.row then -1 else if a.row > b.row then 1 else if a.col < b.col then -1 else if a.col > b.col then 1 else 0 :=
  ordC_def ⟨a.row, a.col, { data := #[] }, 0, []⟩ ⟨b.row, b.col, { data := #[] }, 0, []⟩
theorem ltQ (a b : Rect) : ltOf cmpQ a b = befB a b := by
  unfold ltOf befB
  rw [cmpQ_def, Bool.eq_iff_iff]
  simp only [decide_eq_true_eq]
  repeat' split
  all_goals omega
theorem swoQ : SWO (ltOf cmpQ) where
  irrefl x := by rw [ltQ, bef_f]; omega
  trans x y z h1 h2 := by rw [ltQ, befB_iff] at *; omega
  ntrans x y z h1 h2 := by rw [ltQ, bef_f] at *; omega
def sortQ (l : List Rect) : List Rect := (pdq (ltOf cmpQ) l.toArray 0 l.toArray.size (Lib.bitLen l.toArray.size) true true).toList
theorem sortQ_spec (l : List Rect) : PermIn 0 l.toArray.size l.toArray (pdq (ltOf cmpQ) l.toArray 0 l.toArray.size (Lib.bitLen l.toArray.size) true true) ∧
    SortedIn (ltOf cmpQ) 0 l.toArray.size (pdq (ltOf cmpQ) l.toArray 0 l.toArray.size (Lib.bitLen l.toArray.size) true true) :=
  pdq_sorts (ltOf cmpQ) swoQ l.toArray 0 l.toArray.size (Lib.bitLen l.toArray.size) true true (Nat.zero_le _) (Nat.le_refl _) (Or.inl rfl)
theorem sortQ_perm (l : List Rect) : (sortQ l).Perm l := by
  obtain ⟨h1, h2, h3⟩ := (sortQ_spec l).1
  unfold sortQ
  generalize pdq (ltOf cmpQ) l.toArray 0 l.toArray.size (Lib.bitLen l.toArray.size) true true = d at *
  have e1 : d.extract 0 l.toArray.size = d := by rw [← h1]; exact Array.extract_size
  rw [e1, show l.toArray.extract 0 l.toArray.size = l.toArray from Array.extract_size] at h3
  simpa using h3
theorem sortQ_len (l : List Rect) : (sortQ l).length = l.length := (sortQ_perm l).length_eq
theorem sortQ_sorted (l : List Rect) : ∀ i j, i < j → j < l.length → befB ((sortQ l).getD j default) ((sortQ l).getD i default) = false := by
  have h := (sortQ_spec l).2
  have hl := sortQ_len l
  intro i j hi hj
  have := h i j (Nat.zero_le _) hi (by simpa using hj)
  rw [ltQ] at this
  unfold sortQ at *
  generalize pdq (ltOf cmpQ) l.toArray 0 l.toArray.size (Lib.bitLen l.toArray.size) true true = d at *
  have e : ∀ k, k < d.size → d[k]! = d.toList.getD k default := fun k hk => by
    rw [getElem!_pos d k hk, List.getD_eq_getElem?_getD, List.getElem?_eq_getElem (by simpa using hk)]; simp
  rw [Array.length_toList] at hl
  rwa [e j (by omega), e i (by omega)] at this
theorem flat_rect (l : List Rect) (t : Nat) (ht : t < l.length * 4) : (flat (l.map rectT))[t]? = some (.sc ((flatK encQ 4 l.toArray)[t]!)) := by
  have hi : t / 4 < l.length := by omega
  have h1 := flat_get (k := 4) (xs := l.map rectT) (i := t / 4) (X := rectT l[t / 4]) (fun x hx => by
    obtain ⟨r, _, rfl⟩ := List.mem_map.1 hx
    exact ⟨rfl, fun T hT => by simp only [rectT, Tree.cells, List.mem_cons, List.not_mem_nil, or_false] at hT; rcases hT with rfl | rfl | rfl | rfl <;> rfl⟩) (by rw [List.getElem?_map, List.getElem?_eq_getElem hi]; rfl) (j := t % 4) (by omega)
  rw [show t / 4 * 4 + t % 4 = t by omega] at h1
  rw [h1, get_flatK encQ 4 l.toArray t (by simpa using ht)]
  have e : l.toArray[t / 4]! = l[t / 4] := by rw [getElem!_pos l.toArray (t / 4) (by simpa using hi)]; simp
  rw [e]
  have h4 : t % 4 = 0 ∨ t % 4 = 1 ∨ t % 4 = 2 ∨ t % 4 = 3 := by omega
  rcases h4 with h | h | h | h <;> rw [h] <;> rfl

theorem grow_obj {P : Program} {F : Fen P} {S : Store} {m : Ab.Place} {w : World} (hS : SRel F S m w) (os : Array Obj) : SRel F S m (grow w os) ∧ FrameExt F S m w S m (grow w os) := by
  have hg : ∀ b, b < w.heap.size → (grow w os).heap[b]? = w.heap[b]? := fun b hb => by
    show (w.heap ++ os)[b]? = _
    rw [Array.getElem?_append_left hb]
  have hF : FrameExt F S m w S m (grow w os) := ⟨rfl, rfl, rfl, by show w.heap.size ≤ (w.heap ++ os).size; simp, fun b hb _ => hg b hb, fun id o h => ⟨o, h, Nat.le_refl _, fun _ => rfl, fun h => h, .inl rfl, o.same_refl⟩, fun id o h hn => by rw [h] at hn; cases hn⟩
  exact ⟨⟨fun id o h => (hS.objs id o h).persist hF (fun b hb => hg b (blk_lt hS h hb)), hS.inj, hS.avoid, fun b hb => Nat.lt_of_lt_of_le (hS.low b hb) hF.size, hS.held hF⟩, hF⟩
theorem upd_app (o o' : Ob) : upd (app emp [(0, o)]) 0 o' = app emp [(0, o')] := by
  funext i
  by_cases e : i = 0
  · subst e; rfl
  · rw [upd_ne e]
    show upd emp 0 o i = upd emp 0 o' i
    rw [upd_ne e, upd_ne e]
theorem mapB_at {w : World} {b : Nat} {c : Array Value} {e : TypeId} {fr : Nat × Nat} (f : Array Value → Array Value) (h : w.heap[b]? = some (.cells c e fr)) : (mapBlock w b f).heap[b]? = some (.cells (f c) e fr) := by
  unfold mapBlock
  simp only [Array.getElem?_modify, if_true, h]
  rfl
theorem mapB_ne {w : World} {b x : Nat} (f : Array Value → Array Value) (h : x ≠ b) : (mapBlock w b f).heap[x]? = w.heap[x]? := by
  unfold mapBlock
  simp only [Array.getElem?_modify]
  rw [if_neg (fun e => h e.symm)]

theorem fc_sortQ (l : List Rect) (hn : l.length ≤ 100000000000) : FC Tryz.prog 59 [.row 0 l.length, .fn 60 []] (app emp [(0, .row 4 false (l.map rectT))]) (.tup []) (app emp [(0, .row 4 false ((sortQ l).map rectT))]) := by
  intro F m w xs hS hl hv
  match xs, hl with
  | [x0, x1], _ =>
  have v0 := hv 0 _ _ rfl rfl
  have v1 := hv 1 _ _ rfl rfl
  have hs0 : app emp [(0, Ob.row 4 false (l.map rectT))] 0 = some (.row 4 false (l.map rectT)) := rfl
  obtain ⟨a1, a2, a3, a4, a5⟩ := hS.objs 0 _ hs0
  cases v1 with
  | fn _ _ us hlu _ =>
  obtain rfl : us = [] := List.length_eq_zero_iff.1 hlu
  cases v0 with
  | rowG _ _ L hs' => rw [hs0] at hs'; cases hs'
  | row _ _ k' fz' xs' L hs' hn' hu' =>
  rw [hs0] at hs'; cases hs'
  have hL := hu' (by simp)
  rw [hL] at a3 a4 a5
  rcases a5 with ⟨q1, q2⟩ | ⟨b, us, e, h1, h2, h3, h4, h5⟩
  · obtain ⟨L1, L2⟩ := L
    simp only at q1 q2
    subst q1 q2
    obtain rfl : l = [] := List.length_eq_zero_iff.1 (by have a3' : (List.map rectT l).length ≤ 0 := a3; rw [List.length_map] at a3'; omega)
    have key := AnyF.slices_SortFunc_none Tryz.sortQ none 0 (.func (.func 60) #[] #[]) w
    change Calls Tryz.prog 59 _ _ _ at key
    have e2 : sortQ [] = [] := List.length_eq_zero_iff.1 (sortQ_len [])
    refine key.mono ?_
    rintro e' w' ⟨rfl, rfl⟩
    rw [e2]
    exact ⟨_, m, rfl, hS, FrameExt.refl F _ m _, .tup [] [] rfl (fun i v u hv => by simp at hv)⟩
  · have hb : b < w.heap.size := (Array.getElem?_eq_some_iff.1 h2).1
    have hsz : l.length * 4 ≤ us.size := by rw [h3]; simp at a3; omega
    have hcell : ∀ (W : World) (c : Array Value) (o : Nat), W.heap[b]? = some (.cells c e (0, 0)) → W.cell? ⟨b, o, none⟩ = c[o]? := fun W c o h => by
      unfold World.cell?; simp only [h]; rfl
    have hH : HoldsK encQ 4 w b 0 l.toArray := fun j hj => by
      rw [size_flatK] at hj
      have hj' : j < l.length * 4 := by simpa using hj
      have hT := flat_rect l j hj'
      have hu : us[j]? = some us[j] := Array.getElem?_eq_getElem (by omega)
      have := h5 j _ _ hT hu
      refine ⟨?_, ?_⟩
      · rw [hcell w us _ h2, Nat.zero_add, hu]
        generalize us[j] = u at *
        generalize (flatK encQ 4 l.toArray)[j]! = v at *
        cases this
        rfl
      · unfold World.frozen?; simp only [h2]; simp
    have hsize : (pdq (ltOf cmpQ) l.toArray 0 l.toArray.size (Lib.bitLen l.toArray.size) true true).size = l.length := by have := sortQ_len l; unfold sortQ at this; simpa using this
    have key := AnyQ.slices_SortFunc_eq (α := Rect) Tryz.sortQ 4 Tryz.isAgg46 Tryz.sizeOf46 encQ (fun _ => rfl) (fun x v hv => by simp only [encQ, List.mem_cons, List.not_mem_nil, or_false] at hv; rcases hv with rfl | rfl | rfl | rfl <;> rfl) cmpQ swoQ 60 #[] b 0 L.2 l.toArray w (enters_of Tryz.func60 (by kernel_rfl) rfl)
      (fun m' os' dk _ x y => raw2_w x y _) hH hb (by simp; omega)
    change Calls Tryz.prog 59 _ _ _ at key
    obtain ⟨L1, L2⟩ := L
    simp only at h1
    subst h1
    have ea : (#[Value.slice (some ⟨b, 0, none⟩) l.toArray.size L2, .func (.func 60) #[] #[]] : Array Value) = [rowVal (some b, L2) l.length, .func (.func 60) #[] [].toArray].toArray := by simp [rowVal]
    rw [ea] at key
    refine key.mono ?_
    rintro e' w' ⟨rfl, n, os, rfl⟩
    unfold sortWorldK
    generalize hD : pdq (ltOf cmpQ) l.toArray 0 l.toArray.size (Lib.bitLen l.toArray.size) true true = D at *
    have hDl : D.toList = sortQ l := by unfold sortQ; rw [hD]
    have hDa : D = (sortQ l).toArray := by rw [← hDl]
    have hlen := sortQ_len l
    have hblk : (putRowK encQ 4 (Sort.ahead w n) b 0 D).heap[b]? = some (.cells (putCells id 0 (flatK encQ 4 D) us) e (0, 0)) := mapB_at _ h2
    have hE : ∀ x ∈ (sortQ l).map rectT, Elt 4 x := fun x hx => by
      obtain ⟨r, _, rfl⟩ := List.mem_map.1 hx
      exact ⟨rfl, fun T hT => by simp only [rectT, Tree.cells, List.mem_cons, List.not_mem_nil, or_false] at hT; rcases hT with rfl | rfl | rfl | rfl <;> rfl⟩
    have hone : ∀ j, j < D.size * 4 → ((flatK encQ 4 D)[j]!).oneCell' = true := fun j hj => by
      rw [get_flatK encQ 4 D j hj]
      have h4 : j % 4 = 0 ∨ j % 4 = 1 ∨ j % 4 = 2 ∨ j % 4 = 3 := by omega
      rcases h4 with h | h | h | h <;> rw [h] <;> rfl
    have hcu : ∀ (j : Nat) (u : Value), (putCells id 0 (flatK encQ 4 D) us)[j]? = some u → (j < D.size * 4 ∧ u = (flatK encQ 4 D)[j]!) ∨ (us[j]? = some u) := fun j u hu => by
      unfold putCells at hu
      rw [Array.getElem?_mapIdx, Option.map_eq_some_iff] at hu
      obtain ⟨x, hx, hxu⟩ := hu
      rw [size_flatK] at hxu
      split at hxu
      · rename_i hc
        exact .inl ⟨by omega, by rw [← hxu]; rfl⟩
      · exact .inr (by rw [hx, hxu])
    have r := rewrite_obj (o' := .row 4 false ((sortQ l).map rectT)) hS hs0 rfl (by rw [hL]) (w' := putRowK encQ 4 (Sort.ahead w n) b 0 D) rfl rfl rfl
      (by show (w.heap.modify b _).size = _; simp) (fun c hc => mapB_ne (w := Sort.ahead w n) _ hc) (by simp only [Ob.len, List.length_map]; omega) (by simp [Ob.same]) (fun hF => by
        rw [hL]
        refine ⟨a1, hE, by simp only [List.length_map] at a3 ⊢; omega, a4, .inr ⟨b, _, e, rfl, hblk, ?_, fun j u hu => ?_, fun j T u hT hu => ?_⟩⟩
        · unfold putCells; rw [Array.size_mapIdx]; exact h3
        · rcases hcu j u hu with ⟨hj, rfl⟩ | hu
          · exact hone j hj
          · exact h4 j u hu
        · have hj : j < (sortQ l).length * 4 := by
            have := (List.getElem?_eq_some_iff.1 hT).1
            rw [flat_len hE, List.length_map] at this; exact this
          rw [flat_rect _ j hj] at hT
          cases hT
          have hu2 : u = (flatK encQ 4 D)[j]! := by
            unfold putCells at hu
            rw [Array.getElem?_mapIdx, Option.map_eq_some_iff] at hu
            obtain ⟨x, hx, hxu⟩ := hu
            rw [if_pos ⟨Nat.zero_le _, by rw [size_flatK, hDa]; simpa using hj⟩] at hxu
            rw [← hxu]; rfl
          rw [hu2, hDa]
          exact .sc _ (by rw [← hDa]; exact hone j (by rw [hDa]; simpa using hj)))
    rw [upd_app] at r
    obtain ⟨g1, g2⟩ := grow_obj r.1 os
    exact ⟨_, m, rfl, g1, FrameExt.trans hS r.2 g2, .tup [] [] rfl (fun i v u hv => by simp at hv)⟩
end Go.Ch
end
section
set_option linter.unusedVariables false
namespace Go.Ch
open Go Go.Ab

def keepO (rows cols : List AxStep) (split : List Rect) (r : Rect) : Option Rect := if thrB (thrR r rows cols) = true ∧ hasQ split (thrR r rows cols) = false then some (thrR r rows cols) else none
def keepQ (l : List Rect) (rows cols : List AxStep) (split : List Rect) : List Rect := l.filterMap (keepO rows cols split)
theorem keepQ_succ {l : List Rect} {rows cols : List AxStep} {split : List Rect} {i : Nat} (h : i < l.length) : keepQ (l.take (i + 1)) rows cols split = keepQ (l.take i) rows cols split ++
    (if thrB (thrR (l.getD i default) rows cols) = true ∧ hasQ split (thrR (l.getD i default) rows cols) = false then [thrR (l.getD i default) rows cols] else []) := by
  unfold keepQ
  rw [take_succD h, List.filterMap_append]
  congr 1
  rw [List.filterMap_cons, List.filterMap_nil]
  unfold keepO
  by_cases h : thrB (thrR (l.getD i default) rows cols) = true ∧ hasQ split (thrR (l.getD i default) rows cols) = false
  · rw [if_pos h, if_pos h]
  · rw [if_neg h, if_neg h]
theorem keepQ_len (l : List Rect) (rows cols : List AxStep) (split : List Rect) : (keepQ l rows cols split).length ≤ l.length := List.length_filterMap_le _ _
theorem thrR_RB {r : Rect} {rows cols : List AxStep} (h : QIn rows cols r) : RB (thrR r rows cols) := by
  obtain ⟨hb, hr, hc⟩ := h
  unfold RB at hb ⊢
  unfold thrR
  by_cases c1 : 0 < rows.length <;> by_cases c2 : 0 < cols.length
  · obtain ⟨v1, w1⟩ := hr c1; obtain ⟨v2, w2⟩ := hc c2
    have b1 := hull_bd v1 w1; have b2 := hull_bd v2 w2
    simp only [if_pos c1, if_pos c2]; omega
  · obtain ⟨v1, w1⟩ := hr c1
    have b1 := hull_bd v1 w1
    simp only [if_pos c1, if_neg c2]; omega
  · obtain ⟨v2, w2⟩ := hc c2
    have b2 := hull_bd v2 w2
    simp only [if_neg c1, if_pos c2]; omega
  · simp only [if_neg c1, if_neg c2]; omega
def addQ (l : List Rect) (r : Rect) : List Rect := delL (fun q => meetB q r) l ++ [r]
theorem addQ_len (l : List Rect) (r : Rect) : (addQ l r).length ≤ l.length + 1 := by
  unfold addQ
  have := delL_len (fun q => meetB q r) l
  rw [List.length_append, List.length_singleton]; omega
theorem addQ_RB {l : List Rect} {r : Rect} (h : AllRB l) (hr : RB r) : AllRB (addQ l r) := fun q hq => by
  unfold addQ delL at hq
  rcases List.mem_append.1 hq with hq | hq
  · exact h q ((List.mem_filter.1 hq).1)
  · rw [List.mem_singleton.1 hq]; exact hr
theorem foldl_succ {α β : Type} [Inhabited α] (f : β → α → β) (b : β) {l : List α} {i : Nat} (h : i < l.length) : (l.take (i + 1)).foldl f b = f ((l.take i).foldl f b) (l.getD i default) := by
  rw [take_succD h, List.foldl_append]; rfl
theorem keepQ_RB {l : List Rect} {rows cols : List AxStep} {split : List Rect} (h : ∀ r ∈ l, QIn rows cols r) : AllRB (keepQ l rows cols split) := fun q hq => by
  unfold keepQ at hq
  obtain ⟨r, hr, he⟩ := List.mem_filterMap.1 hq
  unfold keepO at he
  split at he
  · cases he; exact thrR_RB (h r hr)
  · cases he
def rawGr (g : Grid) (e : GEd) : Grid := ⟨nwS g.rows e.rows, nwS g.cols e.cols, putL e.cells (movL g.cells e.rows e.cols), sortQ (e.merge.foldl addQ (keepQ g.merges e.rows e.cols e.split))⟩
/-- What Raw asks of its data. -/
structure RawIn (g : Grid) (e : GEd) : Prop where
  okr : 0 < e.rows.length → Valid e.rows
  okc : 0 < e.cols.length → Valid e.cols
  l1 : g.cells.length ≤ 10000000000
  l2 : e.cells.length ≤ 10000000000
  l3 : g.merges.length ≤ 10000000000
  l4 : e.merge.length ≤ 10000000000
  a1 : CAN 1000000000000 g.cells
  a2 : CAN 1000000000000 e.cells
  p1 : ∀ c ∈ g.cells, PIn e.rows c.row
  p2 : ∀ c ∈ g.cells, PIn e.cols c.col
  q : ∀ r ∈ g.merges, QIn e.rows e.cols r
  m : AllRB e.merge
def undoA (e : GEd) : GEd := ⟨undoX e.rows, undoX e.cols, [], [], []⟩
def undoE (g : Grid) (e : GEd) : GEd := backE (rawGr (rawGr g e) (undoA e)) g (undoX e.rows) (undoX e.cols)
/-- Data that fits, and that Raw can take. -/
structure AppIn (g : Grid) (e : GEd) : Prop where
  hg : gridE g = 0
  he : EdOk e
  hf : FitOk g e
  raw : RawIn g e
  l5 : e.split.length ≤ 10000000000
structure UndIn (g : Grid) (e : GEd) : Prop where
  app : AppIn g e
  raw : RawIn (rawGr g e) (undoA e)
  l1 : (rawGr (rawGr g e) (undoA e)).cells.length ≤ 100000000000
  l2 : (rawGr (rawGr g e) (undoA e)).merges.length ≤ 100000000000
  c1 : checkX (undoX e.rows) = 0
  c2 : checkX (undoX e.cols) = 0
/-! ### The search in a sorted list -/
def SortC (l : List Cell) : Prop := ∀ p q, p < q → q < l.length → ordC (l.getD p default) (l.getD q default) < 0
def lobC (l : List Cell) (t : Cell) : Nat := (l.takeWhile (fun c => decide (ordC c t < 0))).length
theorem lobC_all : ∀ (l : List Cell) (t : Cell), lobC l t ≤ l.length ∧ (∀ k, k < lobC l t → ordC (l.getD k default) t < 0) ∧ (lobC l t < l.length → ¬ ordC (l.getD (lobC l t) default) t < 0)
  | [], t => ⟨Nat.le_refl _, fun k h => absurd h (Nat.not_lt_zero _), fun h => absurd h (Nat.lt_irrefl _)⟩
  | c :: l, t => by
    obtain ⟨h1, h2, h3⟩ := lobC_all l t
    by_cases hc : ordC c t < 0
    · have e : lobC (c :: l) t = lobC l t + 1 := by unfold lobC; rw [List.takeWhile_cons, if_pos (decide_eq_true hc)]; rfl
      rw [e]
      refine ⟨by simp only [List.length_cons]; omega, fun k hk => ?_, fun hk => ?_⟩
      · cases k with
        | zero => exact hc
        | succ k => exact h2 k (by omega)
      · exact h3 (by simp only [List.length_cons] at hk; omega)
    · have e : lobC (c :: l) t = 0 := by unfold lobC; rw [List.takeWhile_cons, if_neg (by simpa using hc)]; rfl
      rw [e]
      exact ⟨Nat.zero_le _, fun k h => absurd h (Nat.not_lt_zero _), fun _ => hc⟩
theorem lobC_lt {l : List Cell} {t : Cell} {m : Nat} (hs : SortC l) (hm : m < l.length) (h : ordC (l.getD m default) t < 0) : m < lobC l t := by
  obtain ⟨h1, h2, h3⟩ := lobC_all l t
  refine Classical.byContradiction fun hn => ?_
  have h4 := h3 (by omega)
  by_cases e : lobC l t = m
  · rw [e] at h4; exact h4 h
  · have h5 := hs (lobC l t) m (by omega) hm
    rw [ordC_lt] at h h5 h4
    omega
theorem lobC_ge {l : List Cell} {t : Cell} {m : Nat} (h : ¬ ordC (l.getD m default) t < 0) : lobC l t ≤ m := by
  obtain ⟨h1, h2, h3⟩ := lobC_all l t
  exact Classical.byContradiction fun hn => h (h2 m (by omega))
def hasC (l : List Cell) (t : Cell) : Bool := decide ((lobC l t : Int) < (l.length : Int)) && ((ordC (l.getD (lobC l t) default) t) == 0)
end Go.Ch
end
