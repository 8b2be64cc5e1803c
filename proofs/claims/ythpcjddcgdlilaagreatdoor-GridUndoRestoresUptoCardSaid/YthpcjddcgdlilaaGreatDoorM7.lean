/- Parts of the proof: ChGrid7, ChGrid8, ChGrid9, GridPlain4, ChGrid10, ChGrid11, GridPlain5, ChGrid12, GridSort0, GridSort, GridPlain6, ChGrid13. -/
import Derived.Test.YthpcjddcgdlilaaGreatDoorM1
import Derived.Test.YthpcjddcgdlilaaGreatDoorM2
import Derived.Test.YthpcjddcgdlilaaGreatDoorM3
import Derived.Test.YthpcjddcgdlilaaGreatDoorM4
import Derived.Test.YthpcjddcgdlilaaGreatDoorM5
import Derived.Test.YthpcjddcgdlilaaGreatDoorM6
import Derived.WalkKit
import Derived.WalkMore
import Derived.Handy
import Derived.StillTailTactics
import Derived.Shelf.SlSortCmp.WholeK
import Derived.Shelf.SlSortCmp.NoneTotal
section
set_option linter.unusedVariables false
set_option linter.unusedSimpArgs false
set_option maxRecDepth 100000
set_option maxHeartbeats 4000000
open Go Go.Proofs Go.Ab
namespace Go.Ch
theorem fc_cells (l : List Cell) (m n : Int) (o : Bool) : FC Tryz.prog 66 [VL 5 cellT l, VI m, VI n, VB o] (app emp []) (VI (cellsE l m n o 0)) (app emp []) := by
 refine .go Tryz.f66 ?_
 refine .len 0 (fun hl0 => ?_)
 refine .loop (α := Nat) [.r [], .r [(1, X (Xl cellT l))]] 32 (fun i => ([(0, VL 5 cellT l), (1, VI m), (2, VI n), (3, VB o), (12, VL 5 cellT l), (13, VI (l.length : Int)), (14, VI (i : Int))], [])) (fun i => i ≤ l.length ∧ cellsE l m n o 0 = cellsE l m n o i) (fun i => l.length - i) (0 : Nat) ?_ ?_
 ·
  exact ⟨by omega, rfl⟩
 rintro i I2 ih2
 try dsimp only at I2
 refine .br [.r []] (decide ((i : Int) < (l.length : Int))) (fun h2 => ?_) (fun h2 => ?_)
 ·
  (try simp only [decide_eq_true_eq, decide_eq_false_iff_not, Int.not_lt, Int.not_le] at h2)
  have hx : cellsE l m n o i = _ := cellsE.eq_1 l m n o i
  rw [if_pos (by omega)] at hx
  unfold cellE at hx
  refine .br [.r [(1, X (Xi cellT l (i : Int)))], .r [(5, Xv 1 (!(decide ((((l.getD i default)).row) < 0))) X0), (7, Xv 2 (!(decide ((((l.getD i default)).row) < 0))) X0), (8, X (Xk' (decide ((((l.getD i default)).row) < 0)))), (11, Xv 1 (!(decide ((((l.getD i default)).row) < 0) || decide ((((l.getD i default)).row) ≥ m))) X0), (12, Xv 1 (!(decide ((((l.getD i default)).row) < 0) || decide ((((l.getD i default)).row) ≥ m))) X0), (13, X (Xk' (decide ((((l.getD i default)).row) < 0) || decide ((((l.getD i default)).row) ≥ m)))), (16, Xv 1 (!((decide ((((l.getD i default)).row) < 0) || decide ((((l.getD i default)).row) ≥ m)) || decide ((((l.getD i default)).col) < 0))) X0), (18, Xv 2 (!((decide ((((l.getD i default)).row) < 0) || decide ((((l.getD i default)).row) ≥ m)) || decide ((((l.getD i default)).col) < 0))) X0), (19, X (Xk' ((decide ((((l.getD i default)).row) < 0) || decide ((((l.getD i default)).row) ≥ m)) || decide ((((l.getD i default)).col) < 0))))]] (((decide ((((l.getD i default)).row) < 0) || decide ((((l.getD i default)).row) ≥ m)) || decide ((((l.getD i default)).col) < 0)) || decide ((((l.getD i default)).col) ≥ n)) (fun h4 => ?_) (fun h4 => ?_)
  ·
   (try simp only [decide_eq_true_eq, decide_eq_false_iff_not, Int.not_lt, Int.not_le, ge_iff_le, Bool.or_eq_true, Bool.or_eq_false_iff] at h4)
   have e1 : ((cellsE l m n o 0) : Int) = 2 := by
    first | (rw [I2.2, hx]; ((repeat' split) <;> first | rfl | omega | (simp_all; done) | (simp_all; omega))) | (rw [I2.2, cellsE, if_neg (by omega)])
   exact .finE [.r []] [] (fun z0 => (VI z0, [])) (2 : Int) ((cellsE l m n o 0) : Int) e1
  ·
   (try simp only [decide_eq_true_eq, decide_eq_false_iff_not, Int.not_lt, Int.not_le, ge_iff_le, Bool.or_eq_true, Bool.or_eq_false_iff] at h4)
   refine .br [.r [(5, Xv 1 (!(decide ((((l.getD i default)).ref) < 0))) X0), (6, Xv 1 (!(decide ((((l.getD i default)).ref) < 0))) X0), (7, X (Xk' (decide ((((l.getD i default)).ref) < 0))))]] (decide ((((l.getD i default)).ref) < 0) || decide ((((l.getD i default)).ref) > 1073741824)) (fun h6 => ?_) (fun h6 => ?_)
   ·
    (try simp only [decide_eq_true_eq, decide_eq_false_iff_not, Int.not_lt, Int.not_le, gt_iff_lt, Bool.or_eq_true, Bool.or_eq_false_iff] at h6)
    have e2 : ((cellsE l m n o 0) : Int) = 2 := by
     first | (rw [I2.2, hx]; ((repeat' split) <;> first | rfl | omega | (simp_all; done) | (simp_all; omega))) | (rw [I2.2, cellsE, if_neg (by omega)])
    exact .finE [.r []] [] (fun z0 => (VI z0, [])) (2 : Int) ((cellsE l m n o 0) : Int) e2
   ·
    (try simp only [decide_eq_true_eq, decide_eq_false_iff_not, Int.not_lt, Int.not_le, gt_iff_lt, Bool.or_eq_true, Bool.or_eq_false_iff] at h6)
    refine .br [.r [(2, X (Xc0 (fc_text (((l.getD i default)).text)) X0))]] (!(textG (((l.getD i default)).text))) (fun h8 => ?_) (fun h8 => ?_)
    ·
     (try simp only [Bool.not_eq_true', Bool.not_eq_false'] at h8)
     have e3 : ((cellsE l m n o 0) : Int) = 23 := by
      first | (rw [I2.2, hx]; ((repeat' split) <;> first | rfl | omega | (simp_all; done) | (simp_all; omega))) | (rw [I2.2, cellsE, if_neg (by omega)])
     exact .finE [.r []] [] (fun z0 => (VI z0, [])) (23 : Int) ((cellsE l m n o 0) : Int) e3
    ·
     (try simp only [Bool.not_eq_true', Bool.not_eq_false'] at h8)
     refine .br [.r [(2, X (Xc0 (fc_acheck (((l.getD i default)).attrs)) X0))], .r []] ((chkA false (((l.getD i default)).attrs) 0) != 0) (fun h11 => ?_) (fun h11 => ?_)
     ·
      (try simp only [bne_iff_ne, bne_eq_false_iff_eq, ne_eq] at h11)
      have e4 : ((cellsE l m n o 0) : Int) = (chkA false (((l.getD i default)).attrs) 0) := by
       first | (rw [I2.2, hx]; ((repeat' split) <;> first | rfl | omega | (simp_all; done) | (simp_all; omega))) | (rw [I2.2, cellsE, if_neg (by omega)])
      exact .finE [.r []] [] (fun z0 => (VI z0, [])) ((chkA false (((l.getD i default)).attrs) 0) : Int) ((cellsE l m n o 0) : Int) e4
     ·
      (try simp only [bne_iff_ne, bne_eq_false_iff_eq, ne_eq] at h11)
      refine .br [.r [(1, X (Xc0 (fc_empty ((l.getD i default))) X0)), (4, Xv 1 (emptyC ((l.getD i default))) X0), (5, X (Xk (emptyC ((l.getD i default)))))]] ((emptyC ((l.getD i default))) && !o) (fun h13 => ?_) (fun h13 => ?_)
      ·
       (try simp only [Bool.not_eq_true', Bool.not_eq_false', Bool.and_eq_true, Bool.and_eq_false_iff] at h13)
       have e5 : ((cellsE l m n o 0) : Int) = 4 := by
        first | (rw [I2.2, hx]; ((repeat' split) <;> first | rfl | omega | (simp_all; done) | (simp_all; omega))) | (rw [I2.2, cellsE, if_neg (by omega)])
       exact .finE [.r []] [] (fun z0 => (VI z0, [])) (4 : Int) ((cellsE l m n o 0) : Int) e5
      ·
       (try simp only [Bool.not_eq_true', Bool.not_eq_false', Bool.and_eq_true, Bool.and_eq_false_iff] at h13)
       refine .br [.r [(5, Xv 1 (decide ((i : Int) > 0)) (Xn ((i : Int) - 1))), (6, Xv 2 (decide ((i : Int) > 0)) (Xi' cellT l ((i : Int) - 1) (i - 1))), (7, Xv 1 (decide ((i : Int) > 0)) X0), (9, Xv 2 (decide ((i : Int) > 0)) (Xc0 (fc_order ((l.getD (i - 1) default)) ((l.getD i default))) X0)), (10, Xv 1 (decide ((i : Int) > 0)) X0), (11, X (Xk (decide ((i : Int) > 0))))]] (decide ((i : Int) > 0) && decide ((ordC ((l.getD (i - 1) default)) ((l.getD i default))) ≥ 0)) (fun h15 => ?_) (fun h15 => ?_)
       ·
        (try simp only [decide_eq_true_eq, decide_eq_false_iff_not, Int.not_lt, Int.not_le, gt_iff_lt, ge_iff_le, Bool.and_eq_true, Bool.and_eq_false_iff, Bool.not_eq_true', Bool.not_eq_false'] at h15)
        have e6 : ((cellsE l m n o 0) : Int) = 5 := by
         first | (rw [I2.2, hx]; ((repeat' split) <;> first | rfl | omega | (simp_all; done) | (simp_all; omega))) | (rw [I2.2, cellsE, if_neg (by omega)])
        exact .finE [.r []] [] (fun z0 => (VI z0, [])) (5 : Int) ((cellsE l m n o 0) : Int) e6
       ·
        (try simp only [decide_eq_true_eq, decide_eq_false_iff_not, Int.not_lt, Int.not_le, gt_iff_lt, ge_iff_le, Bool.and_eq_true, Bool.and_eq_false_iff, Bool.not_eq_true', Bool.not_eq_false'] at h15)
        refine .back [.r [(0, X (Xn ((i : Int) + 1)))]] [] (ih2 ((i + 1) : Nat) ?_ ?_)
        ·
         refine ⟨by omega, ?_⟩
         rw [I2.2, hx]
         ((repeat' split) <;> first | rfl | omega | (simp_all; done) | (simp_all; omega))
        ·
         ((try dsimp only); omega)
 ·
  (try simp only [decide_eq_true_eq, decide_eq_false_iff_not, Int.not_lt, Int.not_le] at h2)
  have e7 : ((cellsE l m n o 0) : Int) = 0 := by
   first | (rw [I2.2, hx]; ((repeat' split) <;> first | rfl | omega | (simp_all; done) | (simp_all; omega))) | (rw [I2.2, cellsE, if_neg (by omega)])
  exact .finE [.r []] [] (fun z0 => (VI z0, [])) (0 : Int) ((cellsE l m n o 0) : Int) e7

theorem fc_cellsE (l : List Cell) (m n : Int) (o : Bool) (hz : SzC l) (hm : 0 ≤ m ∧ m ≤ 1000000000000) (hn : 0 ≤ n ∧ n ≤ 1000000000000) : FC Tryz.prog 20 [VL 5 cellT l, VI m, VI n, VB o] (app emp []) (VI (cellsE l m n o 0)) (app emp []) := by
 refine .go Tryz.f20 ?_
 refine .len 0 (fun hl0 => ?_)
 refine .loop (α := Nat) [.r [], .r [(1, X (Xl cellT l))]] 32 (fun i => ([(0, VL 5 cellT l), (1, VI m), (2, VI n), (3, VB o), (13, VI (l.length : Int)), (14, VI (i : Int))], [])) (fun i => i ≤ l.length ∧ cellsE l m n o 0 = cellsE l m n o i) (fun i => l.length - i) (0 : Nat) ?_ ?_
 ·
  exact ⟨by omega, rfl⟩
 rintro i I2 ih2
 try dsimp only at I2
 refine .br [.r []] (decide ((i : Int) < (l.length : Int))) (fun h2 => ?_) (fun h2 => ?_)
 ·
  (try simp only [decide_eq_true_eq, decide_eq_false_iff_not, Int.not_lt, Int.not_le] at h2)
  have hx : cellsE l m n o i = _ := cellsE.eq_1 l m n o i
  rw [if_pos (by omega)] at hx
  unfold cellE at hx
  obtain ⟨z1, z2⟩ := hz.at_ (i := i) (by omega)
  have z3 := errA_eq false (l.getD i default).attrs _ 0 rfl
  have hog : ∀ a b : Cell, (0 ≤ ordC a b) = (b.row < a.row ∨ (b.row = a.row ∧ b.col ≤ a.col)) := fun a b => propext ordC_ge
  simp only [hog] at hx
  rw [← z3] at hx
  refine .br [.r [], .r [(2, X (Xi cellT l (i : Int)))], .r [(3, X (Xn (m - 1))), (4, X (Xc0 (fc_in (((l.getD i default)).row) 0 (m - 1)) X0)), (8, Xv 1 (!(!(decide (0 ≤ (((l.getD i default)).row) ∧ (((l.getD i default)).row) ≤ (m - 1))))) X0), (10, Xv 1 (!(!(decide (0 ≤ (((l.getD i default)).row) ∧ (((l.getD i default)).row) ≤ (m - 1))))) (Xn (n - 1))), (11, Xv 2 (!(!(decide (0 ≤ (((l.getD i default)).row) ∧ (((l.getD i default)).row) ≤ (m - 1))))) (Xc0 (fc_in (((l.getD i default)).col) 0 (n - 1)) X0)), (12, Xv 1 (!(!(decide (0 ≤ (((l.getD i default)).row) ∧ (((l.getD i default)).row) ≤ (m - 1))))) X0), (13, X (Xk' (!(decide (0 ≤ (((l.getD i default)).row) ∧ (((l.getD i default)).row) ≤ (m - 1)))))), (16, Xv 1 (!(!(decide (0 ≤ (((l.getD i default)).row) ∧ (((l.getD i default)).row) ≤ (m - 1))) || !(decide (0 ≤ (((l.getD i default)).col) ∧ (((l.getD i default)).col) ≤ (n - 1))))) X0), (17, Xv 1 (!(!(decide (0 ≤ (((l.getD i default)).row) ∧ (((l.getD i default)).row) ≤ (m - 1))) || !(decide (0 ≤ (((l.getD i default)).col) ∧ (((l.getD i default)).col) ≤ (n - 1))))) (Xc0 (fc_in (((l.getD i default)).ref) 0 1073741824) X0)), (18, Xv 1 (!(!(decide (0 ≤ (((l.getD i default)).row) ∧ (((l.getD i default)).row) ≤ (m - 1))) || !(decide (0 ≤ (((l.getD i default)).col) ∧ (((l.getD i default)).col) ≤ (n - 1))))) X0), (19, X (Xk' (!(decide (0 ≤ (((l.getD i default)).row) ∧ (((l.getD i default)).row) ≤ (m - 1))) || !(decide (0 ≤ (((l.getD i default)).col) ∧ (((l.getD i default)).col) ≤ (n - 1))))))]] ((!(decide (0 ≤ (((l.getD i default)).row) ∧ (((l.getD i default)).row) ≤ (m - 1))) || !(decide (0 ≤ (((l.getD i default)).col) ∧ (((l.getD i default)).col) ≤ (n - 1)))) || !(decide (0 ≤ (((l.getD i default)).ref) ∧ (((l.getD i default)).ref) ≤ 1073741824))) (fun h5 => ?_) (fun h5 => ?_)
  ·
   (try simp only [decide_eq_true_eq, decide_eq_false_iff_not, Int.not_lt, Int.not_le, Bool.not_eq_true', Bool.not_eq_false', Bool.or_eq_true, Bool.or_eq_false_iff] at h5)
   have e1 : ((cellsE l m n o 0) : Int) = 2 := by
    first | (rw [I2.2, hx]; ((repeat' split) <;> first | rfl | omega | (simp_all; done) | (simp_all; omega))) | (rw [I2.2, cellsE, if_neg (by omega)])
   exact .finE [.r []] [] (fun z0 => (VI z0, [])) (2 : Int) ((cellsE l m n o 0) : Int) e1
  ·
   (try simp only [decide_eq_true_eq, decide_eq_false_iff_not, Int.not_lt, Int.not_le, Bool.not_eq_true', Bool.not_eq_false', Bool.or_eq_true, Bool.or_eq_false_iff] at h5)
   refine .br [.r [(2, X (Xc0 (fc_cellText (((l.getD i default)).text) (by assumption)) X0))]] (!(textG (((l.getD i default)).text))) (fun h7 => ?_) (fun h7 => ?_)
   ·
    (try simp only [Bool.not_eq_true', Bool.not_eq_false'] at h7)
    have e2 : ((cellsE l m n o 0) : Int) = 23 := by
     first | (rw [I2.2, hx]; ((repeat' split) <;> first | rfl | omega | (simp_all; done) | (simp_all; omega))) | (rw [I2.2, cellsE, if_neg (by omega)])
    exact .finE [.r []] [] (fun z0 => (VI z0, [])) (23 : Int) ((cellsE l m n o 0) : Int) e2
   ·
    (try simp only [Bool.not_eq_true', Bool.not_eq_false'] at h7)
    refine .br [.r [(2, X (Xc0 (fc_attrsError (((l.getD i default)).attrs) false (by assumption)) X0))], .r []] ((errA false (((l.getD i default)).attrs) 0) != 0) (fun h10 => ?_) (fun h10 => ?_)
    ·
     (try simp only [bne_iff_ne, bne_eq_false_iff_eq, ne_eq] at h10)
     have e3 : ((cellsE l m n o 0) : Int) = (errA false (((l.getD i default)).attrs) 0) := by
      first | (rw [I2.2, hx]; ((repeat' split) <;> first | rfl | omega | (simp_all; done) | (simp_all; omega))) | (rw [I2.2, cellsE, if_neg (by omega)])
     exact .finE [.r []] [] (fun z0 => (VI z0, [])) ((errA false (((l.getD i default)).attrs) 0) : Int) ((cellsE l m n o 0) : Int) e3
    ·
     (try simp only [bne_iff_ne, bne_eq_false_iff_eq, ne_eq] at h10)
     refine .br [.r [(4, Xv 1 (!o) (Xc0 (fc_emptyR ((l.getD i default))) X0)), (5, X (Xk (!o)))]] (!o && (emptyC ((l.getD i default)))) (fun h12 => ?_) (fun h12 => ?_)
     ·
      (try simp only [Bool.not_eq_true', Bool.not_eq_false', Bool.and_eq_true, Bool.and_eq_false_iff] at h12)
      have e4 : ((cellsE l m n o 0) : Int) = 4 := by
       first | (rw [I2.2, hx]; ((repeat' split) <;> first | rfl | omega | (simp_all; done) | (simp_all; omega))) | (rw [I2.2, cellsE, if_neg (by omega)])
      exact .finE [.r []] [] (fun z0 => (VI z0, [])) (4 : Int) ((cellsE l m n o 0) : Int) e4
     ·
      (try simp only [Bool.not_eq_true', Bool.not_eq_false', Bool.and_eq_true, Bool.and_eq_false_iff] at h12)
      refine .br [.r [(4, Xv 1 (decide ((i : Int) > 0)) X0), (7, Xv 1 (decide ((i : Int) > 0)) (Xn ((i : Int) - 1))), (8, Xv 2 (decide ((i : Int) > 0)) (Xi' cellT l ((i : Int) - 1) (i - 1))), (9, Xv 1 (decide ((i : Int) > 0)) X0), (10, Xv 1 (decide ((i : Int) > 0)) X0), (11, Xv 2 (decide ((i : Int) > 0)) X0), (12, Xv 1 (decide ((i : Int) > 0)) X0), (14, Xv 1 ((decide ((i : Int) > 0)) && !(decide ((((l.getD i default)).row) < (((l.getD (i - 1) default)).row)))) X0), (17, Xv 1 ((decide ((i : Int) > 0)) && !(decide ((((l.getD i default)).row) < (((l.getD (i - 1) default)).row)))) (Xn ((i : Int) - 1))), (18, Xv 2 ((decide ((i : Int) > 0)) && !(decide ((((l.getD i default)).row) < (((l.getD (i - 1) default)).row)))) (Xi' cellT l ((i : Int) - 1) (i - 1))), (19, Xv 1 ((decide ((i : Int) > 0)) && !(decide ((((l.getD i default)).row) < (((l.getD (i - 1) default)).row)))) X0), (20, Xv 1 ((decide ((i : Int) > 0)) && !(decide ((((l.getD i default)).row) < (((l.getD (i - 1) default)).row)))) X0), (21, Xv 2 ((decide ((i : Int) > 0)) && !(decide ((((l.getD i default)).row) < (((l.getD (i - 1) default)).row)))) X0), (22, Xv 1 ((decide ((i : Int) > 0)) && !(decide ((((l.getD i default)).row) < (((l.getD (i - 1) default)).row)))) X0), (24, Xv 1 (((decide ((i : Int) > 0)) && !(decide ((((l.getD i default)).row) < (((l.getD (i - 1) default)).row)))) && ((((l.getD i default)).row) == (((l.getD (i - 1) default)).row))) X0), (27, Xv 1 (((decide ((i : Int) > 0)) && !(decide ((((l.getD i default)).row) < (((l.getD (i - 1) default)).row)))) && ((((l.getD i default)).row) == (((l.getD (i - 1) default)).row))) (Xn ((i : Int) - 1))), (28, Xv 2 (((decide ((i : Int) > 0)) && !(decide ((((l.getD i default)).row) < (((l.getD (i - 1) default)).row)))) && ((((l.getD i default)).row) == (((l.getD (i - 1) default)).row))) (Xi' cellT l ((i : Int) - 1) (i - 1))), (29, Xv 1 (((decide ((i : Int) > 0)) && !(decide ((((l.getD i default)).row) < (((l.getD (i - 1) default)).row)))) && ((((l.getD i default)).row) == (((l.getD (i - 1) default)).row))) X0), (30, Xv 1 (((decide ((i : Int) > 0)) && !(decide ((((l.getD i default)).row) < (((l.getD (i - 1) default)).row)))) && ((((l.getD i default)).row) == (((l.getD (i - 1) default)).row))) X0), (31, Xv 2 (((decide ((i : Int) > 0)) && !(decide ((((l.getD i default)).row) < (((l.getD (i - 1) default)).row)))) && ((((l.getD i default)).row) == (((l.getD (i - 1) default)).row))) X0), (32, Xka ((decide ((i : Int) > 0)) && !(decide ((((l.getD i default)).row) < (((l.getD (i - 1) default)).row)))) ((((l.getD i default)).row) == (((l.getD (i - 1) default)).row))), (33, Xko (decide ((i : Int) > 0)) (decide ((((l.getD i default)).row) < (((l.getD (i - 1) default)).row)))), (34, X (Xk (decide ((i : Int) > 0))))]] (decide ((i : Int) > 0) && (decide ((((l.getD i default)).row) < (((l.getD (i - 1) default)).row)) || (((((l.getD i default)).row) == (((l.getD (i - 1) default)).row)) && decide ((((l.getD i default)).col) ≤ (((l.getD (i - 1) default)).col))))) (fun h14 => ?_) (fun h14 => ?_)
      ·
       (try simp only [decide_eq_true_eq, decide_eq_false_iff_not, Int.not_lt, Int.not_le, gt_iff_lt, Bool.and_eq_true, Bool.and_eq_false_iff, Bool.not_eq_true', Bool.not_eq_false', Bool.or_eq_true, Bool.or_eq_false_iff, beq_iff_eq, beq_eq_false_iff_ne, ne_eq] at h14)
       have e5 : ((cellsE l m n o 0) : Int) = 5 := by
        first | (rw [I2.2, hx]; ((repeat' split) <;> first | rfl | omega | (simp_all; done) | (simp_all; omega))) | (rw [I2.2, cellsE, if_neg (by omega)])
       exact .finE [.r []] [] (fun z0 => (VI z0, [])) (5 : Int) ((cellsE l m n o 0) : Int) e5
      ·
       (try simp only [decide_eq_true_eq, decide_eq_false_iff_not, Int.not_lt, Int.not_le, gt_iff_lt, Bool.and_eq_true, Bool.and_eq_false_iff, Bool.not_eq_true', Bool.not_eq_false', Bool.or_eq_true, Bool.or_eq_false_iff, beq_iff_eq, beq_eq_false_iff_ne, ne_eq] at h14)
       refine .back [.r [(0, X (Xn ((i : Int) + 1)))]] [] (ih2 ((i + 1) : Nat) ?_ ?_)
       ·
        refine ⟨by omega, ?_⟩
        rw [I2.2, hx]
        ((repeat' split) <;> first | rfl | omega | (simp_all; done) | (simp_all; omega))
       ·
        ((try dsimp only); omega)
 ·
  (try simp only [decide_eq_true_eq, decide_eq_false_iff_not, Int.not_lt, Int.not_le] at h2)
  have e6 : ((cellsE l m n o 0) : Int) = 0 := by
   first | (rw [I2.2, hx]; ((repeat' split) <;> first | rfl | omega | (simp_all; done) | (simp_all; omega))) | (rw [I2.2, cellsE, if_neg (by omega)])
  exact .finE [.r []] [] (fun z0 => (VI z0, [])) (0 : Int) ((cellsE l m n o 0) : Int) e6
end Go.Ch
end
section
set_option linter.unusedVariables false
set_option linter.unusedSimpArgs false
set_option maxRecDepth 100000
set_option maxHeartbeats 4000000
open Go Go.Proofs Go.Ab
namespace Go.Ch
theorem fc_chk1 (q : Rect) (a b c d : Int) (hq : RB q) (hr : RB ⟨a, b, c, d⟩) : FC Tryz.prog 80 [.t (rectT q), .ptr 0 0] (app emp [(0, .box [VI a, VI b, VI c, VI d])]) (VB (meetB q ⟨a, b, c, d⟩)) (app emp [(0, .box [VI a, VI b, VI c, VI d])]) := by
 refine .go Tryz.f80 ?_
 have e1 : ((meetB q ⟨a, b, c, d⟩) : Bool) = (meetB q ({ row := a, col := b, h := c, w := d } : Rect)) := by
  rfl
 exact .finE [.r [], .r [(2, X (Xc0 (fc_meets q ({ row := a, col := b, h := c, w := d } : Rect) (by assumption) (by assumption)) X0))]] [(0, 0)] (fun z0 => (VB z0, [(0, .box [VI a, VI b, VI c, VI d])])) ((meetB q ({ row := a, col := b, h := c, w := d } : Rect)) : Bool) ((meetB q ⟨a, b, c, d⟩) : Bool) e1

theorem fc_raw1 (q : Rect) (a b c d : Int) (hq : RB q) (hr : RB ⟨a, b, c, d⟩) : FC Tryz.prog 57 [.t (rectT q), .ptr 0 0] (app emp [(0, .box [VI a, VI b, VI c, VI d])]) (VB (meetB q ⟨a, b, c, d⟩)) (app emp [(0, .box [VI a, VI b, VI c, VI d])]) := by
 refine .go Tryz.f57 ?_
 have e1 : ((meetB q ⟨a, b, c, d⟩) : Bool) = (meetB q ({ row := a, col := b, h := c, w := d } : Rect)) := by
  rfl
 exact .finE [.r [], .r [(2, X (Xc0 (fc_meets q ({ row := a, col := b, h := c, w := d } : Rect) (by assumption) (by assumption)) X0))]] [(0, 0)] (fun z0 => (VB z0, [(0, .box [VI a, VI b, VI c, VI d])])) ((meetB q ({ row := a, col := b, h := c, w := d } : Rect)) : Bool) ((meetB q ⟨a, b, c, d⟩) : Bool) e1

theorem fc_idxF_chk (l : List Rect) (a b c d : Int) (hl : AllRB l) (hr : RB ⟨a, b, c, d⟩) : FC Tryz.prog 84 [VL 4 rectT l, .fn 80 [.ptr 0 0]] (app emp [(0, .box [VI a, VI b, VI c, VI d])]) (VI (idxF (fun q => meetB q ⟨a, b, c, d⟩) l 0)) (app emp [(0, .box [VI a, VI b, VI c, VI d])]) := by
 refine .go Tryz.f84 ?_
 refine .len 0 (fun hl0 => ?_)
 refine .loop (α := Nat) [.r [], .r [(1, X (Xl rectT l))]] 33 (fun i => ([(0, VL 4 rectT l), (1, .fn 80 [.ptr 0 0]), (7, VI (l.length : Int)), (8, VI (i : Int))], [(0, .box [VI a, VI b, VI c, VI d])])) (fun i => i ≤ l.length ∧ idxF (fun q => meetB q ⟨a, b, c, d⟩) l 0 = idxF (fun q => meetB q ⟨a, b, c, d⟩) l i) (fun i => l.length - i) (0 : Nat) ?_ ?_
 ·
  exact ⟨by omega, rfl⟩
 rintro i I2 ih2
 try dsimp only at I2
 refine .br [.r []] (decide ((i : Int) < (l.length : Int))) (fun h2 => ?_) (fun h2 => ?_)
 ·
  (try simp only [decide_eq_true_eq, decide_eq_false_iff_not, Int.not_lt, Int.not_le] at h2)
  have hm := hl _ (getDX_mem (l := l) (i := i) (by omega))
  refine .br [.r [], .r [(3, X (Xi rectT l (i : Int))), (5, X (Xc3 97 [(0, 0)] (fc_chk1 ((l.getD i default)) a b c d (by assumption) (by assumption)) X0))]] (meetB ((l.getD i default)) ⟨a, b, c, d⟩) (fun h4 => ?_) (fun h4 => ?_)
  ·
   have e1 : ((idxF (fun q => meetB q ⟨a, b, c, d⟩) l 0) : Int) = (i : Int) := by
    rw [I2.2, idxF, if_pos (by omega), if_pos h4]
   exact .finE [.r []] [(0, 0)] (fun z0 => (VI z0, [(0, .box [VI a, VI b, VI c, VI d])])) ((i : Int) : Int) ((idxF (fun q => meetB q ⟨a, b, c, d⟩) l 0) : Int) e1
  ·
   refine .back [.r [(0, X (Xn ((i : Int) + 1)))]] [(0, 0)] (ih2 ((i + 1) : Nat) ?_ ?_)
   ·
    refine ⟨by omega, ?_⟩
    rw [I2.2, idxF, if_pos (by omega), if_neg (by rw [h4]; decide)]
   ·
    ((try dsimp only); omega)
 ·
  (try simp only [decide_eq_true_eq, decide_eq_false_iff_not, Int.not_lt, Int.not_le] at h2)
  have e2 : ((idxF (fun q => meetB q ⟨a, b, c, d⟩) l 0) : Int) = -1 := by
   rw [I2.2, idxF, if_neg (by omega)]
  exact .finE [.r []] [(0, 0)] (fun z0 => (VI z0, [(0, .box [VI a, VI b, VI c, VI d])])) (-1 : Int) ((idxF (fun q => meetB q ⟨a, b, c, d⟩) l 0) : Int) e2

theorem fc_anyF (l : List Rect) (a b c d : Int) (hl : AllRB l) (hr : RB ⟨a, b, c, d⟩) : FC Tryz.prog 79 [VL 4 rectT l, .fn 80 [.ptr 0 0]] (app emp [(0, .box [VI a, VI b, VI c, VI d])]) (VB (anyM l ⟨a, b, c, d⟩)) (app emp [(0, .box [VI a, VI b, VI c, VI d])]) := by
 refine .go Tryz.f79 ?_
 refine .len 0 (fun hl0 => ?_)
 have e1 : ((anyM l ⟨a, b, c, d⟩) : Bool) = decide ((idxF (fun q => meetB q ⟨a, b, c, d⟩) l 0) ≥ 0) := by
  unfold anyM; rw [Bool.eq_iff_iff, decide_eq_true_eq, ge_iff_le, idxF_any]
 exact .finE [.r [], .r [(2, X (Xc3 25 [(0, 0)] (fc_idxF_chk l a b c d (by assumption) (by assumption)) X0))]] [(0, 0)] (fun z0 => (VB z0, [(0, .box [VI a, VI b, VI c, VI d])])) (decide ((idxF (fun q => meetB q ⟨a, b, c, d⟩) l 0) ≥ 0) : Bool) ((anyM l ⟨a, b, c, d⟩) : Bool) e1

end Go.Ch
end
section
set_option linter.unusedVariables false
set_option linter.unusedSimpArgs false
set_option maxRecDepth 100000
set_option maxHeartbeats 4000000
open Go Go.Proofs Go.Ab
namespace Go.Ch
theorem fc_gcheck (x : Grid) (hl : x.merges.length ≤ 100000000000) : FC Tryz.prog 50 [.t (gridT x)] (app emp []) (VI (gridE x)) (app emp []) := by
 refine .go Tryz.f50 ?_
 refine .br [.r [], .r [(5, Xv 1 (!(decide (x.rows < 0))) X0), (6, Xv 1 (!(decide (x.rows < 0))) X0), (7, X (Xk' (decide (x.rows < 0)))), (10, Xv 1 (!(decide (x.rows < 0) || decide (x.rows > 2147483647))) X0), (11, Xv 1 (!(decide (x.rows < 0) || decide (x.rows > 2147483647))) X0), (12, X (Xk' (decide (x.rows < 0) || decide (x.rows > 2147483647)))), (15, Xv 1 (!((decide (x.rows < 0) || decide (x.rows > 2147483647)) || decide (x.cols < 0))) X0), (16, Xv 1 (!((decide (x.rows < 0) || decide (x.rows > 2147483647)) || decide (x.cols < 0))) X0), (17, X (Xk' ((decide (x.rows < 0) || decide (x.rows > 2147483647)) || decide (x.cols < 0))))]] (((decide (x.rows < 0) || decide (x.rows > 2147483647)) || decide (x.cols < 0)) || decide (x.cols > 2147483647)) (fun h1 => ?_) (fun h1 => ?_)
 ·
  (try simp only [decide_eq_true_eq, decide_eq_false_iff_not, Int.not_lt, Int.not_le, gt_iff_lt, Bool.or_eq_true, Bool.or_eq_false_iff] at h1)
  have e1 : ((gridE x) : Int) = 2 := by
   unfold gridE; rw [if_pos (by omega)]
  exact .finE [.r []] [] (fun z0 => (VI z0, [])) (2 : Int) ((gridE x) : Int) e1
 ·
  (try simp only [decide_eq_true_eq, decide_eq_false_iff_not, Int.not_lt, Int.not_le, gt_iff_lt, Bool.or_eq_true, Bool.or_eq_false_iff] at h1)
  refine .br [.r [(6, X (Xc0 (fc_cells x.cells x.rows x.cols false) X0))], .r []] ((cellsE x.cells x.rows x.cols false 0) != 0) (fun h4 => ?_) (fun h4 => ?_)
  ·
   (try simp only [bne_iff_ne, bne_eq_false_iff_eq, ne_eq] at h4)
   have e2 : ((gridE x) : Int) = (cellsE x.cells x.rows x.cols false 0) := by
    unfold gridE; rw [if_neg (by omega), if_pos (by omega)]
   exact .finE [.r []] [] (fun z0 => (VI z0, [])) ((cellsE x.cells x.rows x.cols false 0) : Int) ((gridE x) : Int) e2
  ·
   (try simp only [bne_iff_ne, bne_eq_false_iff_eq, ne_eq] at h4)
   refine .loop (α := Nat) [.r [(2, X (Xl rectT x.merges))]] 272 (fun i => ([(1, .ptr 0 0), (35, VL 4 rectT x.merges), (36, VI (x.merges.length : Int)), (37, VI (i : Int))], [(0, .box [VI x.rows, VI x.cols, VL 5 cellT x.cells, VL 4 rectT x.merges])])) (fun i => i ≤ x.merges.length ∧ mergE x.merges x.rows x.cols 0 = mergE x.merges x.rows x.cols i ∧ InsTo x.merges x.rows x.cols i) (fun i => x.merges.length - i) (0 : Nat) ?_ ?_
   ·
    exact ⟨by omega, rfl, fun k hk => absurd hk (by omega)⟩
   rintro i I7 ih7
   try dsimp only at I7
   refine .br [.r []] (decide ((i : Int) < (x.merges.length : Int))) (fun h7 => ?_) (fun h7 => ?_)
   ·
    (try simp only [decide_eq_true_eq, decide_eq_false_iff_not, Int.not_lt, Int.not_le] at h7)
    have hx : mergE x.merges x.rows x.cols i = _ := mergE.eq_1 x.merges x.rows x.cols i
    rw [if_pos (by omega)] at hx
    refine .br [.r [(1, X (Xi rectT x.merges (i : Int)))], .r [(5, X (Xc0 (fc_inside ((x.merges.getD i default)) x.rows x.cols (by omega)) X0))]] (!(insB ((x.merges.getD i default)) x.rows x.cols)) (fun h9 => ?_) (fun h9 => ?_)
    ·
     (try simp only [Bool.not_eq_true', Bool.not_eq_false'] at h9)
     rw [if_pos h9] at hx
     have e3 : ((gridE x) : Int) = 2 := by
      unfold gridE; rw [if_neg (by omega), if_neg (by omega), I7.2.1, hx]
      
     exact .finE [.r []] [] (fun z0 => (VI z0, [])) (2 : Int) ((gridE x) : Int) e3
    ·
     (try simp only [Bool.not_eq_true', Bool.not_eq_false'] at h9)
     rw [if_neg (by rw [h9]; decide)] at hx
     refine .br [.r [(5, Xv 1 ((((x.merges.getD i default)).h) == 1) X0), (6, Xv 1 ((((x.merges.getD i default)).h) == 1) X0), (7, X (Xk ((((x.merges.getD i default)).h) == 1)))]] (((((x.merges.getD i default)).h) == 1) && ((((x.merges.getD i default)).w) == 1)) (fun h11 => ?_) (fun h11 => ?_)
     ·
      (try simp only [Bool.and_eq_true, Bool.and_eq_false_iff, Bool.not_eq_true', Bool.not_eq_false', beq_iff_eq, beq_eq_false_iff_ne, ne_eq] at h11)
      rw [if_pos (by omega)] at hx
      have e4 : ((gridE x) : Int) = 4 := by
       unfold gridE; rw [if_neg (by omega), if_neg (by omega), I7.2.1, hx]
       
      exact .finE [.r []] [] (fun z0 => (VI z0, [])) (4 : Int) ((gridE x) : Int) e4
     ·
      (try simp only [Bool.and_eq_true, Bool.and_eq_false_iff, Bool.not_eq_true', Bool.not_eq_false', beq_iff_eq, beq_eq_false_iff_ne, ne_eq] at h11)
      rw [if_neg (by omega)] at hx
      refine .br [.r [(4, Xv 1 (decide ((i : Int) > 0)) X0), (6, Xv 1 (decide ((i : Int) > 0)) (Xn ((i : Int) - 1))), (7, Xv 2 (decide ((i : Int) > 0)) (Xi' rectT x.merges ((i : Int) - 1) (i - 1))), (8, Xv 1 (decide ((i : Int) > 0)) X0), (10, Xv 2 (decide ((i : Int) > 0)) (Xc0 (fc_before ((x.merges.getD (i - 1) default)) ((x.merges.getD i default))) X0)), (11, Xv 1 (decide ((i : Int) > 0)) X0), (12, X (Xk (decide ((i : Int) > 0))))]] (decide ((i : Int) > 0) && !(befB ((x.merges.getD (i - 1) default)) ((x.merges.getD i default)))) (fun h13 => ?_) (fun h13 => ?_)
      ·
       (try simp only [decide_eq_true_eq, decide_eq_false_iff_not, Int.not_lt, Int.not_le, gt_iff_lt, Bool.not_eq_true', Bool.not_eq_false', Bool.and_eq_true, Bool.and_eq_false_iff] at h13)
       rw [if_pos ⟨by omega, h13.2⟩] at hx
       have e5 : ((gridE x) : Int) = 5 := by
        unfold gridE; rw [if_neg (by omega), if_neg (by omega), I7.2.1, hx]
        
       exact .finE [.r []] [] (fun z0 => (VI z0, [])) (5 : Int) ((gridE x) : Int) e5
      ·
       (try simp only [decide_eq_true_eq, decide_eq_false_iff_not, Int.not_lt, Int.not_le, gt_iff_lt, Bool.not_eq_true', Bool.not_eq_false', Bool.and_eq_true, Bool.and_eq_false_iff] at h13)
       rw [if_neg (fun q => by have q1 := q.1; rcases h13 with h | h; (omega); (rw [q.2] at h; cases h))] at hx
       have hall := I7.2.2.all (by omega) (by omega) (by omega)
       have hrb := RB_ins h9 (by omega) (by omega)
       refine .br [.r [(3, X (Xst rectT 4 x.merges (i : Int))), (5, X (Xc3 616 [(0, 304)] (fc_anyF (x.merges.take i) (((x.merges.getD i default)).row) (((x.merges.getD i default)).col) (((x.merges.getD i default)).h) (((x.merges.getD i default)).w) (by assumption) (by assumption)) X0))]] (anyM (x.merges.take i) ⟨(((x.merges.getD i default)).row), (((x.merges.getD i default)).col), (((x.merges.getD i default)).h), (((x.merges.getD i default)).w)⟩) (fun h15 => ?_) (fun h15 => ?_)
       ·
        rw [if_pos h15] at hx
        have e6 : ((gridE x) : Int) = 21 := by
         unfold gridE; rw [if_neg (by omega), if_neg (by omega), I7.2.1, hx]
         
        exact .finE [.r []] [] (fun z0 => (VI z0, [])) (21 : Int) ((gridE x) : Int) e6
       ·
        rw [if_neg (by rw [h15]; decide)] at hx
        refine .back [.r [(0, X (Xn ((i : Int) + 1)))]] [(0, 0)] (ih7 ((i + 1) : Nat) ?_ ?_)
        ·
         exact ⟨by omega, by rw [I7.2.1, hx], I7.2.2.succ h9⟩
        ·
         ((try dsimp only); omega)
   ·
    (try simp only [decide_eq_true_eq, decide_eq_false_iff_not, Int.not_lt, Int.not_le] at h7)
    have e7 : ((gridE x) : Int) = 0 := by
     unfold gridE; rw [if_neg (by omega), if_neg (by omega), I7.2.1, mergE, if_neg (by omega)]
    exact .finE [.r []] [] (fun z0 => (VI z0, [])) (0 : Int) ((gridE x) : Int) e7

theorem fc_gridError (x : Grid) (hl : x.merges.length ≤ 100000000000) (hz : SzC x.cells) : FC Tryz.prog 6 [.t (gridT x)] (app emp []) (VI (gridE x)) (app emp []) := by
 refine .go Tryz.f6 ?_
 refine .br [.r [], .r [(2, X (Xc0 (fc_in x.rows 0 2147483647) X0)), (6, Xv 1 (!(!(decide (0 ≤ x.rows ∧ x.rows ≤ 2147483647)))) X0), (7, Xv 1 (!(!(decide (0 ≤ x.rows ∧ x.rows ≤ 2147483647)))) (Xc0 (fc_in x.cols 0 2147483647) X0)), (8, Xv 1 (!(!(decide (0 ≤ x.rows ∧ x.rows ≤ 2147483647)))) X0), (9, X (Xk' (!(decide (0 ≤ x.rows ∧ x.rows ≤ 2147483647)))))]] (!(decide (0 ≤ x.rows ∧ x.rows ≤ 2147483647)) || !(decide (0 ≤ x.cols ∧ x.cols ≤ 2147483647))) (fun h1 => ?_) (fun h1 => ?_)
 ·
  (try simp only [decide_eq_true_eq, decide_eq_false_iff_not, Int.not_lt, Int.not_le, Bool.not_eq_true', Bool.not_eq_false', Bool.or_eq_true, Bool.or_eq_false_iff] at h1)
  have e1 : ((gridE x) : Int) = 2 := by
   unfold gridE; rw [if_pos (by omega)]
  exact .finE [.r []] [] (fun z0 => (VI z0, [])) (2 : Int) ((gridE x) : Int) e1
 ·
  (try simp only [decide_eq_true_eq, decide_eq_false_iff_not, Int.not_lt, Int.not_le, Bool.not_eq_true', Bool.not_eq_false', Bool.or_eq_true, Bool.or_eq_false_iff] at h1)
  refine .br [.r [(6, X (Xc0 (fc_cellsE x.cells x.rows x.cols false (by assumption) (by omega) (by omega)) X0))], .r []] ((cellsE x.cells x.rows x.cols false 0) != 0) (fun h4 => ?_) (fun h4 => ?_)
  ·
   (try simp only [bne_iff_ne, bne_eq_false_iff_eq, ne_eq] at h4)
   have e2 : ((gridE x) : Int) = (cellsE x.cells x.rows x.cols false 0) := by
    unfold gridE; rw [if_neg (by omega), if_pos (by omega)]
   exact .finE [.r []] [] (fun z0 => (VI z0, [])) ((cellsE x.cells x.rows x.cols false 0) : Int) ((gridE x) : Int) e2
  ·
   (try simp only [bne_iff_ne, bne_eq_false_iff_eq, ne_eq] at h4)
   refine .loop (α := Nat) [.r [(2, X (Xl rectT x.merges))]] 208 (fun i => ([(1, .ptr 0 0), (29, VI (x.merges.length : Int)), (30, VI (i : Int))], [(0, .box [VI x.rows, VI x.cols, VL 5 cellT x.cells, VL 4 rectT x.merges])])) (fun i => i ≤ x.merges.length ∧ mergE x.merges x.rows x.cols 0 = mergE x.merges x.rows x.cols i ∧ InsTo x.merges x.rows x.cols i) (fun i => x.merges.length - i) (0 : Nat) ?_ ?_
   ·
    exact ⟨by omega, rfl, fun k hk => absurd hk (by omega)⟩
   rintro i I7 ih7
   try dsimp only at I7
   refine .br [.r []] (decide ((i : Int) < (x.merges.length : Int))) (fun h7 => ?_) (fun h7 => ?_)
   ·
    (try simp only [decide_eq_true_eq, decide_eq_false_iff_not, Int.not_lt, Int.not_le] at h7)
    have hx : mergE x.merges x.rows x.cols i = _ := mergE.eq_1 x.merges x.rows x.cols i
    rw [if_pos (by omega)] at hx
    have hsh : ∀ q r : Rect, insB q x.rows x.cols = true → insB r x.rows x.cols = true → shareB r q = meetB q r := fun q r a b => by (have u := insB_iff.1 a; have v := insB_iff.1 b; rw [share_eq (by omega) (by omega) (by omega) (by omega), meetB_comm])
    refine .br [.r [], .r [(3, X (Xi rectT x.merges (i : Int)))], .r [(5, X (Xc0 (fc_lies ((x.merges.getD i default)) x.rows x.cols (by omega)) X0))]] (!(insB ((x.merges.getD i default)) x.rows x.cols)) (fun h10 => ?_) (fun h10 => ?_)
    ·
     (try simp only [Bool.not_eq_true', Bool.not_eq_false'] at h10)
     rw [if_pos h10] at hx
     have e3 : ((gridE x) : Int) = 2 := by
      unfold gridE; rw [if_neg (by omega), if_neg (by omega), I7.2.1, hx]
      
     exact .finE [.r []] [] (fun z0 => (VI z0, [])) (2 : Int) ((gridE x) : Int) e3
    ·
     (try simp only [Bool.not_eq_true', Bool.not_eq_false'] at h10)
     rw [if_neg (by rw [h10]; decide)] at hx
     refine .br [.r [(5, Xv 1 ((((x.merges.getD i default)).h) == 1) X0), (6, Xv 1 ((((x.merges.getD i default)).h) == 1) X0), (7, X (Xk ((((x.merges.getD i default)).h) == 1)))]] (((((x.merges.getD i default)).h) == 1) && ((((x.merges.getD i default)).w) == 1)) (fun h12 => ?_) (fun h12 => ?_)
     ·
      (try simp only [Bool.and_eq_true, Bool.and_eq_false_iff, Bool.not_eq_true', Bool.not_eq_false', beq_iff_eq, beq_eq_false_iff_ne, ne_eq] at h12)
      rw [if_pos (by omega)] at hx
      have e4 : ((gridE x) : Int) = 4 := by
       unfold gridE; rw [if_neg (by omega), if_neg (by omega), I7.2.1, hx]
       
      exact .finE [.r []] [] (fun z0 => (VI z0, [])) (4 : Int) ((gridE x) : Int) e4
     ·
      (try simp only [Bool.and_eq_true, Bool.and_eq_false_iff, Bool.not_eq_true', Bool.not_eq_false', beq_iff_eq, beq_eq_false_iff_ne, ne_eq] at h12)
      rw [if_neg (by omega)] at hx
      refine .br [.r [(4, Xv 1 (decide ((i : Int) > 0)) X0), (6, Xv 1 (decide ((i : Int) > 0)) X0), (8, Xv 1 (decide ((i : Int) > 0)) (Xn ((i : Int) - 1))), (9, Xv 2 (decide ((i : Int) > 0)) (Xi' rectT x.merges ((i : Int) - 1) (i - 1))), (10, Xv 1 (decide ((i : Int) > 0)) X0), (11, Xv 1 (decide ((i : Int) > 0)) X0), (12, Xv 2 (decide ((i : Int) > 0)) X0), (13, Xv 1 (decide ((i : Int) > 0)) X0), (15, Xv 1 ((decide ((i : Int) > 0)) && !(decide ((((x.merges.getD i default)).row) < (((x.merges.getD (i - 1) default)).row)))) X0), (17, Xv 1 ((decide ((i : Int) > 0)) && !(decide ((((x.merges.getD i default)).row) < (((x.merges.getD (i - 1) default)).row)))) X0), (19, Xv 1 ((decide ((i : Int) > 0)) && !(decide ((((x.merges.getD i default)).row) < (((x.merges.getD (i - 1) default)).row)))) (Xn ((i : Int) - 1))), (20, Xv 2 ((decide ((i : Int) > 0)) && !(decide ((((x.merges.getD i default)).row) < (((x.merges.getD (i - 1) default)).row)))) (Xi' rectT x.merges ((i : Int) - 1) (i - 1))), (21, Xv 1 ((decide ((i : Int) > 0)) && !(decide ((((x.merges.getD i default)).row) < (((x.merges.getD (i - 1) default)).row)))) X0), (22, Xv 1 ((decide ((i : Int) > 0)) && !(decide ((((x.merges.getD i default)).row) < (((x.merges.getD (i - 1) default)).row)))) X0), (23, Xv 2 ((decide ((i : Int) > 0)) && !(decide ((((x.merges.getD i default)).row) < (((x.merges.getD (i - 1) default)).row)))) X0), (24, Xv 1 ((decide ((i : Int) > 0)) && !(decide ((((x.merges.getD i default)).row) < (((x.merges.getD (i - 1) default)).row)))) X0), (26, Xv 1 (((decide ((i : Int) > 0)) && !(decide ((((x.merges.getD i default)).row) < (((x.merges.getD (i - 1) default)).row)))) && ((((x.merges.getD i default)).row) == (((x.merges.getD (i - 1) default)).row))) X0), (28, Xv 1 (((decide ((i : Int) > 0)) && !(decide ((((x.merges.getD i default)).row) < (((x.merges.getD (i - 1) default)).row)))) && ((((x.merges.getD i default)).row) == (((x.merges.getD (i - 1) default)).row))) X0), (30, Xv 1 (((decide ((i : Int) > 0)) && !(decide ((((x.merges.getD i default)).row) < (((x.merges.getD (i - 1) default)).row)))) && ((((x.merges.getD i default)).row) == (((x.merges.getD (i - 1) default)).row))) (Xn ((i : Int) - 1))), (31, Xv 2 (((decide ((i : Int) > 0)) && !(decide ((((x.merges.getD i default)).row) < (((x.merges.getD (i - 1) default)).row)))) && ((((x.merges.getD i default)).row) == (((x.merges.getD (i - 1) default)).row))) (Xi' rectT x.merges ((i : Int) - 1) (i - 1))), (32, Xv 1 (((decide ((i : Int) > 0)) && !(decide ((((x.merges.getD i default)).row) < (((x.merges.getD (i - 1) default)).row)))) && ((((x.merges.getD i default)).row) == (((x.merges.getD (i - 1) default)).row))) X0), (33, Xv 1 (((decide ((i : Int) > 0)) && !(decide ((((x.merges.getD i default)).row) < (((x.merges.getD (i - 1) default)).row)))) && ((((x.merges.getD i default)).row) == (((x.merges.getD (i - 1) default)).row))) X0), (34, Xv 2 (((decide ((i : Int) > 0)) && !(decide ((((x.merges.getD i default)).row) < (((x.merges.getD (i - 1) default)).row)))) && ((((x.merges.getD i default)).row) == (((x.merges.getD (i - 1) default)).row))) X0), (35, Xka ((decide ((i : Int) > 0)) && !(decide ((((x.merges.getD i default)).row) < (((x.merges.getD (i - 1) default)).row)))) ((((x.merges.getD i default)).row) == (((x.merges.getD (i - 1) default)).row))), (36, Xko (decide ((i : Int) > 0)) (decide ((((x.merges.getD i default)).row) < (((x.merges.getD (i - 1) default)).row)))), (37, X (Xk (decide ((i : Int) > 0))))]] (decide ((i : Int) > 0) && (decide ((((x.merges.getD i default)).row) < (((x.merges.getD (i - 1) default)).row)) || (((((x.merges.getD i default)).row) == (((x.merges.getD (i - 1) default)).row)) && decide ((((x.merges.getD i default)).col) ≤ (((x.merges.getD (i - 1) default)).col))))) (fun h14 => ?_) (fun h14 => ?_)
      ·
       (try simp only [decide_eq_true_eq, decide_eq_false_iff_not, Int.not_lt, Int.not_le, gt_iff_lt, Bool.and_eq_true, Bool.and_eq_false_iff, Bool.not_eq_true', Bool.not_eq_false', Bool.or_eq_true, Bool.or_eq_false_iff, beq_iff_eq, beq_eq_false_iff_ne, ne_eq] at h14)
       rw [if_pos ⟨by omega, bef_f.2 h14.2⟩] at hx
       have e5 : ((gridE x) : Int) = 5 := by
        unfold gridE; rw [if_neg (by omega), if_neg (by omega), I7.2.1, hx]
        
       exact .finE [.r []] [] (fun z0 => (VI z0, [])) (5 : Int) ((gridE x) : Int) e5
      ·
       (try simp only [decide_eq_true_eq, decide_eq_false_iff_not, Int.not_lt, Int.not_le, gt_iff_lt, Bool.and_eq_true, Bool.and_eq_false_iff, Bool.not_eq_true', Bool.not_eq_false', Bool.or_eq_true, Bool.or_eq_false_iff, beq_iff_eq, beq_eq_false_iff_ne, ne_eq] at h14)
       rw [if_neg (fun q => by have q1 := q.1; have q2 := bef_f.1 q.2; omega)] at hx
       have hrb := RB_ins h10 (by omega) (by omega)
       refine .loop (α := Nat) [.r []] 728 (fun j => ([(1, .ptr 0 0), (5, .ptr 272 0), (29, VI (x.merges.length : Int)), (30, VI (i : Int)), (91, VI (i : Int)), (92, VI (j : Int))], [(0, .box [VI x.rows, VI x.cols, VL 5 cellT x.cells, VL 4 rectT x.merges]), (272, .box [VI (((x.merges.getD i default)).row), VI (((x.merges.getD i default)).col), VI (((x.merges.getD i default)).h), VI (((x.merges.getD i default)).w)])])) (fun j => j ≤ i ∧ ∀ k, k < j → meetB (x.merges.getD k default) (x.merges.getD i default) = false) (fun j => i - j) (0 : Nat) ?_ ?_
       ·
        exact ⟨by omega, fun k hk => absurd hk (by omega)⟩
       rintro j I17 ih17
       try dsimp only at I17
       refine .br [.r []] (decide ((j : Int) < (i : Int))) (fun h17 => ?_) (fun h17 => ?_)
       ·
        (try simp only [decide_eq_true_eq, decide_eq_false_iff_not, Int.not_lt, Int.not_le] at h17)
        have hk := I7.2.2 j (by omega)
        have hrk := RB_ins hk (by omega) (by omega)
        have hse := hsh _ _ hk h10
        refine .br [.r [], .r [(4, X (Xi rectT x.merges (j : Int))), (6, X (Xc0 (fc_share ((x.merges.getD i default)) ((x.merges.getD j default)) (by assumption) (by assumption)) X0))]] (shareB ((x.merges.getD i default)) ((x.merges.getD j default))) (fun h19 => ?_) (fun h19 => ?_)
        ·
         rw [if_pos (anyM_take.2 ⟨j, by omega, by omega, by rw [← hse]; exact h19⟩)] at hx
         have e6 : ((gridE x) : Int) = 21 := by
          unfold gridE; rw [if_neg (by omega), if_neg (by omega), I7.2.1, hx]
          
         exact .finE [.r []] [] (fun z0 => (VI z0, [])) (21 : Int) ((gridE x) : Int) e6
        ·
         refine .back [.r [(0, X (Xn ((j : Int) + 1)))]] [(0, 0), (272, 272)] (ih17 ((j + 1) : Nat) ?_ ?_)
         ·
          refine ⟨by omega, fun k hk => ?_⟩
          by_cases e : k = j
          · rw [e, ← hse]; exact h19
          · exact I17.2 k (by omega)
         ·
          ((try dsimp only); omega)
       ·
        (try simp only [decide_eq_true_eq, decide_eq_false_iff_not, Int.not_lt, Int.not_le] at h17)
        rw [if_neg (fun q => by obtain ⟨k, k1, k2, k3⟩ := anyM_take.1 q; rw [I17.2 k (by omega)] at k3; cases k3)] at hx
        refine .back [.r [(0, X (Xn ((i : Int) + 1)))]] [(0, 0)] (ih7 ((i + 1) : Nat) ?_ ?_)
        ·
         exact ⟨by omega, by rw [I7.2.1, hx], I7.2.2.succ h10⟩
        ·
         ((try dsimp only); omega)
   ·
    (try simp only [decide_eq_true_eq, decide_eq_false_iff_not, Int.not_lt, Int.not_le] at h7)
    have e7 : ((gridE x) : Int) = 0 := by
     unfold gridE; rw [if_neg (by omega), if_neg (by omega), I7.2.1, mergE, if_neg (by omega)]
    exact .finE [.r []] [] (fun z0 => (VI z0, [])) (0 : Int) ((gridE x) : Int) e7
end Go.Ch
end
section
set_option linter.unusedVariables false
namespace Go.Ch
open Go Go.Ab

def insQE (l : List Rect) (m n : Int) (i : Nat) : Int := if i < l.length then (if insB (l.getD i default) m n = false then 2 else insQE l m n (i + 1)) else 0
termination_by l.length - i
def mgE (l : List Rect) (m n : Int) (i : Nat) : Int := if i < l.length then (if insB (l.getD i default) m n = false then 2 else if (l.getD i default).h = 1 ∧ (l.getD i default).w = 1 then 4 else mgE l m n (i + 1)) else 0
termination_by l.length - i
def celF (l : List Cell) (m n : Int) (i : Nat) : Int := if i < l.length then (if m ≤ (l.getD i default).row ∨ n ≤ (l.getD i default).col then 2 else celF l m n (i + 1)) else 0
termination_by l.length - i
theorem insQE_all {l : List Rect} {m n : Int} : ∀ (k i : Nat), l.length - i = k → insQE l m n i = 0 → ∀ j, i ≤ j → j < l.length → insB (l.getD j default) m n = true
  | 0, i, h, _, j, h1, h2 => by omega
  | k + 1, i, h, h0, j, h1, h2 => by
    rw [insQE, if_pos (by omega)] at h0
    split at h0
    · cases h0
    · rename_i hb
      by_cases e : i = j
      · rw [← e]; simpa using hb
      · exact insQE_all k (i + 1) (by omega) h0 j (by omega) h2
theorem mgE_all {l : List Rect} {m n : Int} : ∀ (k i : Nat), l.length - i = k → mgE l m n i = 0 → ∀ j, i ≤ j → j < l.length → insB (l.getD j default) m n = true ∧ ¬ ((l.getD j default).h = 1 ∧ (l.getD j default).w = 1)
  | 0, i, h, _, j, h1, h2 => by omega
  | k + 1, i, h, h0, j, h1, h2 => by
    rw [mgE, if_pos (by omega)] at h0
    split at h0
    · cases h0
    · rename_i hb
      split at h0
      · cases h0
      · rename_i hc
        by_cases e : i = j
        · rw [← e]; exact ⟨by simpa using hb, hc⟩
        · exact mgE_all k (i + 1) (by omega) h0 j (by omega) h2
theorem celF_all {l : List Cell} {m n : Int} : ∀ (k i : Nat), l.length - i = k → celF l m n i = 0 → ∀ j, i ≤ j → j < l.length → (l.getD j default).row < m ∧ (l.getD j default).col < n
  | 0, i, h, _, j, h1, h2 => by omega
  | k + 1, i, h, h0, j, h1, h2 => by
    rw [celF, if_pos (by omega)] at h0
    split at h0
    · cases h0
    · rename_i hb
      by_cases e : i = j
      · rw [← e]; omega
      · exact celF_all k (i + 1) (by omega) h0 j (by omega) h2
theorem mem_getDX {α : Type} [Inhabited α] {l : List α} {x : α} (h : x ∈ l) : ∃ j, j < l.length ∧ l.getD j default = x := by
  obtain ⟨j, hj, e⟩ := List.mem_iff_getElem.1 h
  exact ⟨j, hj, by rw [List.getD_eq_getElem?_getD, List.getElem?_eq_getElem hj]; exact e⟩
structure EdOk (e : GEd) : Prop where
  okr : Valid e.rows
  okc : Valid e.cols
  cells : cellsE e.cells 2147483647 2147483647 true 0 = 0
  split : ∀ r ∈ e.split, insB r 2147483647 2147483647 = true
  merge : ∀ r ∈ e.merge, insB r 2147483647 2147483647 = true ∧ ¬ (r.h = 1 ∧ r.w = 1)
def edE (e : GEd) : Int :=
  if ¬ checkX e.rows = 0 then checkX e.rows else if ¬ checkX e.cols = 0 then checkX e.cols
  else if ¬ cellsE e.cells 2147483647 2147483647 true 0 = 0 then cellsE e.cells 2147483647 2147483647 true 0
  else if ¬ insQE e.split 2147483647 2147483647 0 = 0 then insQE e.split 2147483647 2147483647 0 else mgE e.merge 2147483647 2147483647 0
theorem edE_ok {e : GEd} (h : edE e = 0) : EdOk e := by
  unfold edE at h
  split at h
  · omega
  · split at h
    · omega
    · split at h
      · omega
      · split at h
        · omega
        · refine ⟨check_iff.1 (by omega), check_iff.1 (by omega), by omega, fun r hr => ?_, fun r hr => ?_⟩
          · obtain ⟨j, hj, rfl⟩ := mem_getDX hr
            exact insQE_all _ 0 rfl (by omega) j (by omega) hj
          · obtain ⟨j, hj, rfl⟩ := mem_getDX hr
            exact mgE_all _ 0 rfl h j (by omega) hj
/-- The size of an axis afterwards. -/
def nwS (n : Int) (a : List AxStep) : Int := if 0 < a.length then newI a else n
structure FitOk (g : Grid) (e : GEd) : Prop where
  rows : 0 < e.rows.length → oldI e.rows = g.rows
  cols : 0 < e.cols.length → oldI e.cols = g.cols
  cells : ∀ c ∈ e.cells, c.row < nwS g.rows e.rows ∧ c.col < nwS g.cols e.cols
  split : ∀ r ∈ e.split, insB r (nwS g.rows e.rows) (nwS g.cols e.cols) = true
  merge : ∀ r ∈ e.merge, insB r (nwS g.rows e.rows) (nwS g.cols e.cols) = true
def fitE (g : Grid) (e : GEd) : Int :=
  if 0 < e.rows.length ∧ ¬ oldI e.rows = g.rows then 14 else if 0 < e.cols.length ∧ ¬ oldI e.cols = g.cols then 14
  else if ¬ celF e.cells (nwS g.rows e.rows) (nwS g.cols e.cols) 0 = 0 then celF e.cells (nwS g.rows e.rows) (nwS g.cols e.cols) 0
  else if ¬ insQE e.split (nwS g.rows e.rows) (nwS g.cols e.cols) 0 = 0 then insQE e.split (nwS g.rows e.rows) (nwS g.cols e.cols) 0
  else insQE e.merge (nwS g.rows e.rows) (nwS g.cols e.cols) 0
theorem fitE_ok {g : Grid} {e : GEd} (h : fitE g e = 0) : FitOk g e := by
  unfold fitE at h
  split at h
  · omega
  · split at h
    · omega
    · split at h
      · omega
      · split at h
        · omega
        · refine ⟨fun q => by omega, fun q => by omega, fun c hc => ?_, fun r hr => ?_, fun r hr => ?_⟩
          · obtain ⟨j, hj, rfl⟩ := mem_getDX hc
            exact celF_all _ 0 rfl (by omega) j (by omega) hj
          · obtain ⟨j, hj, rfl⟩ := mem_getDX hr
            exact insQE_all _ 0 rfl (by omega) j (by omega) hj
          · obtain ⟨j, hj, rfl⟩ := mem_getDX hr
            exact insQE_all _ 0 rfl h j (by omega) hj
theorem newI_bd {l : List AxStep} (h : Valid l) : 0 ≤ newI l ∧ newI l ≤ 2147483647 ∧ 0 ≤ oldI l ∧ oldI l ≤ 2147483647 := by
  have := h.2.1; have := h.2.2
  unfold newI oldI; omega
theorem nwS_bd {n : Int} {a : List AxStep} (h : Valid a) (hn : 0 ≤ n ∧ n ≤ 2147483647) : 0 ≤ nwS n a ∧ nwS n a ≤ 2147483647 := by
  have := newI_bd h
  unfold nwS; split <;> omega
end Go.Ch
end
section
set_option linter.unusedVariables false
set_option linter.unusedSimpArgs false
set_option maxRecDepth 100000
set_option maxHeartbeats 4000000
open Go Go.Proofs Go.Ab
namespace Go.Ch
theorem fc_editError (e : GEd) (le : e.cells.length ≤ 100000000000 ∧ e.split.length ≤ 100000000000 ∧ e.merge.length ≤ 100000000000) (hz : SzC e.cells) : FC Tryz.prog 8 [.t (gedT e)] (app emp []) (VI (edE e)) (app emp []) := by
 refine .go Tryz.f8 ?_
 refine .br [.r [], .r [(2, X (Xc0 (fc_axisError e.rows) X0))], .r []] ((checkX e.rows) != 0) (fun h2 => ?_) (fun h2 => ?_)
 ·
  (try simp only [bne_iff_ne, bne_eq_false_iff_eq, ne_eq] at h2)
  have e1 : ((edE e) : Int) = (checkX e.rows) := by
   unfold edE; (repeat' split) <;> omega
  exact .finE [.r []] [] (fun z0 => (VI z0, [])) ((checkX e.rows) : Int) ((edE e) : Int) e1
 ·
  (try simp only [bne_iff_ne, bne_eq_false_iff_eq, ne_eq] at h2)
  refine .br [.r [(2, X (Xc0 (fc_axisError e.cols) X0))], .r []] ((checkX e.cols) != 0) (fun h5 => ?_) (fun h5 => ?_)
  ·
   (try simp only [bne_iff_ne, bne_eq_false_iff_eq, ne_eq] at h5)
   have e2 : ((edE e) : Int) = (checkX e.cols) := by
    unfold edE; (repeat' split) <;> omega
   exact .finE [.r []] [] (fun z0 => (VI z0, [])) ((checkX e.cols) : Int) ((edE e) : Int) e2
  ·
   (try simp only [bne_iff_ne, bne_eq_false_iff_eq, ne_eq] at h5)
   refine .br [.r [(2, X (Xc0 (fc_cellsE e.cells 2147483647 2147483647 true (by assumption) (by omega) (by omega)) X0))], .r []] ((cellsE e.cells 2147483647 2147483647 true 0) != 0) (fun h8 => ?_) (fun h8 => ?_)
   ·
    (try simp only [bne_iff_ne, bne_eq_false_iff_eq, ne_eq] at h8)
    have e3 : ((edE e) : Int) = (cellsE e.cells 2147483647 2147483647 true 0) := by
     unfold edE; (repeat' split) <;> omega
    exact .finE [.r []] [] (fun z0 => (VI z0, [])) ((cellsE e.cells 2147483647 2147483647 true 0) : Int) ((edE e) : Int) e3
   ·
    (try simp only [bne_iff_ne, bne_eq_false_iff_eq, ne_eq] at h8)
    refine .loop (α := Nat) [.r [(2, X (Xl rectT e.split))]] 192 (fun i => ([(1, .ptr 0 0), (28, VI (e.split.length : Int)), (29, VI (i : Int))], [(0, .box [VL 2 stepT e.rows, VL 2 stepT e.cols, VL 5 cellT e.cells, VL 4 rectT e.split, VL 4 rectT e.merge])])) (fun i => i ≤ e.split.length ∧ insQE e.split 2147483647 2147483647 0 = insQE e.split 2147483647 2147483647 i) (fun i => e.split.length - i) (0 : Nat) ?_ ?_
    ·
     exact ⟨by omega, rfl⟩
    rintro i I11 ih11
    try dsimp only at I11
    refine .br [.r []] (decide ((i : Int) < (e.split.length : Int))) (fun h11 => ?_) (fun h11 => ?_)
    ·
     (try simp only [decide_eq_true_eq, decide_eq_false_iff_not, Int.not_lt, Int.not_le] at h11)
     refine .br [.r [], .r [(3, X (Xi rectT e.split (i : Int))), (5, X (Xc0 (fc_lies ((e.split.getD i default)) 2147483647 2147483647 (by omega)) X0))]] (!(insB ((e.split.getD i default)) 2147483647 2147483647)) (fun h13 => ?_) (fun h13 => ?_)
     ·
      (try simp only [Bool.not_eq_true', Bool.not_eq_false'] at h13)
      have hs : insQE e.split 2147483647 2147483647 0 = 2 := by rw [I11.2, insQE, if_pos (by omega), if_pos h13]
      have e4 : ((edE e) : Int) = 2 := by
       unfold edE; (repeat' split) <;> omega
      exact .finE [.r []] [] (fun z0 => (VI z0, [])) (2 : Int) ((edE e) : Int) e4
     ·
      (try simp only [Bool.not_eq_true', Bool.not_eq_false'] at h13)
      refine .back [.r [(0, X (Xn ((i : Int) + 1)))]] [(0, 0)] (ih11 ((i + 1) : Nat) ?_ ?_)
      ·
       refine ⟨by omega, ?_⟩
       rw [I11.2, insQE, if_pos (by omega), if_neg (by rw [h13]; decide)]
      ·
       ((try dsimp only); omega)
    ·
     (try simp only [decide_eq_true_eq, decide_eq_false_iff_not, Int.not_lt, Int.not_le] at h11)
     have hs : insQE e.split 2147483647 2147483647 0 = 0 := by rw [I11.2, insQE, if_neg (by omega)]
     refine .loop (α := Nat) [.r [(2, X (Xl rectT e.merge))]] 232 (fun j => ([(1, .ptr 0 0), (42, VI (e.merge.length : Int)), (43, VI (j : Int))], [(0, .box [VL 2 stepT e.rows, VL 2 stepT e.cols, VL 5 cellT e.cells, VL 4 rectT e.split, VL 4 rectT e.merge])])) (fun j => j ≤ e.merge.length ∧ mgE e.merge 2147483647 2147483647 0 = mgE e.merge 2147483647 2147483647 j) (fun j => e.merge.length - j) (0 : Nat) ?_ ?_
     ·
      exact ⟨by omega, rfl⟩
     rintro j I17 ih17
     try dsimp only at I17
     refine .br [.r []] (decide ((j : Int) < (e.merge.length : Int))) (fun h17 => ?_) (fun h17 => ?_)
     ·
      (try simp only [decide_eq_true_eq, decide_eq_false_iff_not, Int.not_lt, Int.not_le] at h17)
      refine .br [.r [], .r [(3, X (Xi rectT e.merge (j : Int))), (5, X (Xc0 (fc_lies ((e.merge.getD j default)) 2147483647 2147483647 (by omega)) X0))]] (!(insB ((e.merge.getD j default)) 2147483647 2147483647)) (fun h19 => ?_) (fun h19 => ?_)
      ·
       (try simp only [Bool.not_eq_true', Bool.not_eq_false'] at h19)
       have ht : mgE e.merge 2147483647 2147483647 0 = 2 := by rw [I17.2, mgE, if_pos (by omega), if_pos h19]
       have e5 : ((edE e) : Int) = 2 := by
        unfold edE; (repeat' split) <;> omega
       exact .finE [.r []] [] (fun z0 => (VI z0, [])) (2 : Int) ((edE e) : Int) e5
      ·
       (try simp only [Bool.not_eq_true', Bool.not_eq_false'] at h19)
       refine .br [.r [(3, X (Xi rectT e.merge (j : Int))), (9, Xv 1 ((((e.merge.getD j default)).h) == 1) X0), (11, Xv 2 ((((e.merge.getD j default)).h) == 1) (Xi rectT e.merge (j : Int))), (12, Xv 1 ((((e.merge.getD j default)).h) == 1) X0), (13, Xv 1 ((((e.merge.getD j default)).h) == 1) X0), (14, Xv 1 ((((e.merge.getD j default)).h) == 1) X0), (15, X (Xk ((((e.merge.getD j default)).h) == 1)))]] (((((e.merge.getD j default)).h) == 1) && ((((e.merge.getD j default)).w) == 1)) (fun h21 => ?_) (fun h21 => ?_)
       ·
        (try simp only [Bool.and_eq_true, Bool.and_eq_false_iff, Bool.not_eq_true', Bool.not_eq_false', beq_iff_eq, beq_eq_false_iff_ne, ne_eq] at h21)
        have ht : mgE e.merge 2147483647 2147483647 0 = 4 := by rw [I17.2, mgE, if_pos (by omega), if_neg (by rw [h19]; decide), if_pos (by omega)]
        have e6 : ((edE e) : Int) = 4 := by
         unfold edE; (repeat' split) <;> omega
        exact .finE [.r []] [] (fun z0 => (VI z0, [])) (4 : Int) ((edE e) : Int) e6
       ·
        (try simp only [Bool.and_eq_true, Bool.and_eq_false_iff, Bool.not_eq_true', Bool.not_eq_false', beq_iff_eq, beq_eq_false_iff_ne, ne_eq] at h21)
        refine .back [.r [(0, X (Xn ((j : Int) + 1)))]] [(0, 0)] (ih17 ((j + 1) : Nat) ?_ ?_)
        ·
         refine ⟨by omega, ?_⟩
         rw [I17.2, mgE, if_pos (by omega), if_neg (by rw [h19]; decide), if_neg (by omega)]
        ·
         ((try dsimp only); omega)
     ·
      (try simp only [decide_eq_true_eq, decide_eq_false_iff_not, Int.not_lt, Int.not_le] at h17)
      have ht : mgE e.merge 2147483647 2147483647 0 = 0 := by rw [I17.2, mgE, if_neg (by omega)]
      have e7 : ((edE e) : Int) = 0 := by
       unfold edE; (repeat' split) <;> omega
      exact .finE [.r []] [] (fun z0 => (VI z0, [])) (0 : Int) ((edE e) : Int) e7

theorem fc_checkEdit (e : GEd) (le : e.cells.length ≤ 100000000000 ∧ e.split.length ≤ 100000000000 ∧ e.merge.length ≤ 100000000000) (he : EdOk e) : FC Tryz.prog 33 [.t (gedT e)] (app emp []) (VI 0) (app emp []) := by
 refine .go Tryz.f33 ?_
 have hv1 := check_iff.2 he.okr
 have hv2 := check_iff.2 he.okc
 have hv3 := he.cells
 refine .br [.r [], .r [], .u, .r [], .t, .r [(0, X (Xa (Xc ((0:Int) ≤ 0)) (Xc ((0 : Int) < ((2 : Nat) : Int)))) ⟨by decide, by decide⟩)], .r [(1, X (Xc0 (fc_axCheck e.rows) X0))], .r []] ((checkX e.rows) != 0) (fun h5 => ?_) (fun h5 => ?_)
 ·
  (try simp only [bne_iff_ne, bne_eq_false_iff_eq, ne_eq] at h5)
  exfalso
  omega
 ·
  (try simp only [bne_iff_ne, bne_eq_false_iff_eq, ne_eq] at h5)
  refine .br [.r [], .u, .r [], .t, .r [(0, X (Xa (Xc ((0:Int) ≤ 1)) (Xc ((1 : Int) < ((2 : Nat) : Int)))) ⟨by decide, by decide⟩)], .r [(1, X (Xc0 (fc_axCheck e.cols) X0))], .r []] ((checkX e.cols) != 0) (fun h5 => ?_) (fun h5 => ?_)
  ·
   (try simp only [bne_iff_ne, bne_eq_false_iff_eq, ne_eq] at h5)
   exfalso
   omega
  ·
   (try simp only [bne_iff_ne, bne_eq_false_iff_eq, ne_eq] at h5)
   refine .br [.r [], .u, .r [], .f, .r [(2, X (Xc0 (fc_cells e.cells 2147483647 2147483647 true) X0))], .r []] ((cellsE e.cells 2147483647 2147483647 true 0) != 0) (fun h9 => ?_) (fun h9 => ?_)
   ·
    (try simp only [bne_iff_ne, bne_eq_false_iff_eq, ne_eq] at h9)
    exfalso
    omega
   ·
    (try simp only [bne_iff_ne, bne_eq_false_iff_eq, ne_eq] at h9)
    refine .loop (α := Nat) [.r [], .u, .r [], .t, .r [(1, X (Xa (Xc ((0:Int) ≤ 0)) (Xc ((0 : Int) < ((2 : Nat) : Int)))) ⟨by decide, by decide⟩)], .r [(1, X (Xl rectT e.split))]] 392 (fun j => ([(7, VI 0), (35, .t (.agg [TL 4 rectT e.split, TL 4 rectT e.merge])), (36, VI 0), (40, VL 4 rectT e.split), (41, VI (e.split.length : Int)), (42, VI (j : Int))], [])) (fun j => j ≤ (e.split).length) (fun j => (e.split).length - j) (0 : Nat) ?_ ?_
    ·
     (try dsimp only); omega
    rintro j I15 ih15
    try dsimp only at I15
    refine .br [.r []] (decide ((j : Int) < (e.split.length : Int))) (fun h15 => ?_) (fun h15 => ?_)
    ·
     (try simp only [decide_eq_true_eq, decide_eq_false_iff_not, Int.not_lt, Int.not_le] at h15)
     have hin : insB ((e.split).getD j default) 2147483647 2147483647 = true := by first | exact he.split _ (getDX_mem (by omega)) | exact (he.merge _ (getDX_mem (by omega))).1
     refine .br [.r [(0, X (Xi rectT e.split (j : Int)))], .r [(1, X (Xc0 (fc_inside ((e.split.getD j default)) 2147483647 2147483647 (by omega)) X0))]] (!(insB ((e.split.getD j default)) 2147483647 2147483647)) (fun h17 => ?_) (fun h17 => ?_)
     ·
      (try simp only [Bool.not_eq_true', Bool.not_eq_false'] at h17)
      exfalso
      rw [hin] at h17; cases h17
     ·
      (try simp only [Bool.not_eq_true', Bool.not_eq_false'] at h17)
      refine .br [.r [(4, Xv 1 false X0), (5, Xv 1 false X0), (6, X (Xk false)), (9, Xv 1 (false && ((((e.split.getD j default)).h) == 1)) X0), (10, Xv 1 (false && ((((e.split.getD j default)).h) == 1)) X0), (11, X (Xk (false && ((((e.split.getD j default)).h) == 1))))]] ((false && ((((e.split.getD j default)).h) == 1)) && ((((e.split.getD j default)).w) == 1)) (fun h19 => ?_) (fun h19 => ?_)
      ·
       (try simp only [Bool.and_eq_true, Bool.and_eq_false_iff, Bool.not_eq_true', Bool.not_eq_false', beq_iff_eq, beq_eq_false_iff_ne, ne_eq] at h19)
       exfalso
       first | (exact absurd h19.1.1 (by decide)) | (exact (he.merge _ (getDX_mem (l := e.merge) (i := j) (by omega))).2 ⟨by omega, by omega⟩)
      ·
       (try simp only [Bool.and_eq_true, Bool.and_eq_false_iff, Bool.not_eq_true', Bool.not_eq_false', beq_iff_eq, beq_eq_false_iff_ne, ne_eq] at h19)
       refine .back [.r [(0, X (Xn ((j : Int) + 1)))]] [] (ih15 ((j + 1) : Nat) ?_ ?_)
       ·
        (try dsimp only); omega
       ·
        ((try dsimp only); omega)
    ·
     (try simp only [decide_eq_true_eq, decide_eq_false_iff_not, Int.not_lt, Int.not_le] at h15)
     refine .loop (α := Nat) [.r [], .u, .r [], .t, .r [(1, X (Xa (Xc ((0:Int) ≤ 1)) (Xc ((1 : Int) < ((2 : Nat) : Int)))) ⟨by decide, by decide⟩)], .r [(1, X (Xl rectT e.merge))]] 480 (fun j => ([(7, VI 1), (35, .t (.agg [TL 4 rectT e.split, TL 4 rectT e.merge])), (36, VI 1), (40, VL 4 rectT e.merge), (41, VI (e.merge.length : Int)), (42, VI (j : Int))], [])) (fun j => j ≤ (e.merge).length) (fun j => (e.merge).length - j) (0 : Nat) ?_ ?_
     ·
      (try dsimp only); omega
     rintro j I15 ih15
     try dsimp only at I15
     refine .br [.r []] (decide ((j : Int) < (e.merge.length : Int))) (fun h15 => ?_) (fun h15 => ?_)
     ·
      (try simp only [decide_eq_true_eq, decide_eq_false_iff_not, Int.not_lt, Int.not_le] at h15)
      have hin : insB ((e.merge).getD j default) 2147483647 2147483647 = true := by first | exact he.split _ (getDX_mem (by omega)) | exact (he.merge _ (getDX_mem (by omega))).1
      refine .br [.r [(0, X (Xi rectT e.merge (j : Int)))], .r [(1, X (Xc0 (fc_inside ((e.merge.getD j default)) 2147483647 2147483647 (by omega)) X0))]] (!(insB ((e.merge.getD j default)) 2147483647 2147483647)) (fun h17 => ?_) (fun h17 => ?_)
      ·
       (try simp only [Bool.not_eq_true', Bool.not_eq_false'] at h17)
       exfalso
       rw [hin] at h17; cases h17
      ·
       (try simp only [Bool.not_eq_true', Bool.not_eq_false'] at h17)
       refine .br [.r [(4, Xv 1 true X0), (5, Xv 1 true X0), (6, X (Xk true)), (9, Xv 1 (true && ((((e.merge.getD j default)).h) == 1)) X0), (10, Xv 1 (true && ((((e.merge.getD j default)).h) == 1)) X0), (11, X (Xk (true && ((((e.merge.getD j default)).h) == 1))))]] ((true && ((((e.merge.getD j default)).h) == 1)) && ((((e.merge.getD j default)).w) == 1)) (fun h19 => ?_) (fun h19 => ?_)
       ·
        (try simp only [Bool.and_eq_true, Bool.and_eq_false_iff, Bool.not_eq_true', Bool.not_eq_false', beq_iff_eq, beq_eq_false_iff_ne, ne_eq] at h19)
        exfalso
        first | (exact absurd h19.1.1 (by decide)) | (exact (he.merge _ (getDX_mem (l := e.merge) (i := j) (by omega))).2 ⟨by omega, by omega⟩)
       ·
        (try simp only [Bool.and_eq_true, Bool.and_eq_false_iff, Bool.not_eq_true', Bool.not_eq_false', beq_iff_eq, beq_eq_false_iff_ne, ne_eq] at h19)
        refine .back [.r [(0, X (Xn ((j : Int) + 1)))]] [] (ih15 ((j + 1) : Nat) ?_ ?_)
        ·
         (try dsimp only); omega
        ·
         ((try dsimp only); omega)
     ·
      (try simp only [decide_eq_true_eq, decide_eq_false_iff_not, Int.not_lt, Int.not_le] at h15)
      exact .fin [.r [], .u, .r [], .f, .r []] []
end Go.Ch
end
section
set_option linter.unusedVariables false
set_option linter.unusedSimpArgs false
set_option maxRecDepth 100000
set_option maxHeartbeats 4000000
open Go Go.Proofs Go.Ab
namespace Go.Ch
theorem fc_fitError (x : Grid) (e : GEd) (le : e.cells.length ≤ 100000000000 ∧ e.split.length ≤ 100000000000 ∧ e.merge.length ≤ 100000000000) (hr : Valid e.rows) (hc : Valid e.cols) (hb : 0 ≤ x.rows ∧ x.rows ≤ 2147483647 ∧ 0 ≤ x.cols ∧ x.cols ≤ 2147483647) : FC Tryz.prog 9 [.t (gridT x), .t (gedT e)] (app emp []) (VI (fitE x e)) (app emp []) := by
 refine .go Tryz.f9 ?_
 have n1 := newI_bd hr
 have n2 := newI_bd hc
 have em : ∀ (n : Int) (a : List AxStep), 0 < a.length → nwS n a = newI a := fun n a h => by unfold nwS; rw [if_pos h]
 have en : ∀ (n : Int) (a : List AxStep), ¬ 0 < a.length → nwS n a = n := fun n a h => by unfold nwS; rw [if_neg h]
 refine .br [.r [], .r [], .r [(2, X (Xl stepT e.rows))]] (decide ((e.rows.length : Int) > 0)) (fun h2 => ?_) (fun h2 => ?_)
 ·
  (try simp only [decide_eq_true_eq, decide_eq_false_iff_not, Int.not_lt, Int.not_le, gt_iff_lt] at h2)
  refine .br [.r [(2, X (Xc0 (fc_sizes e.rows (by assumption)) X0))], .r []] ((oldI e.rows) != x.rows) (fun h4 => ?_) (fun h4 => ?_)
  ·
   (try simp only [bne_iff_ne, bne_eq_false_iff_eq, ne_eq] at h4)
   have hh : 0 < e.rows.length := by omega
   have e1 : ((fitE x e) : Int) = 14 := by
    unfold fitE nwS
    (first | rw [if_pos (show 0 < e.rows.length by omega)] | rw [if_neg (show ¬ 0 < e.rows.length by omega)] | skip)
    (first | rw [if_pos (show 0 < e.cols.length by omega)] | rw [if_neg (show ¬ 0 < e.cols.length by omega)] | skip)
    (repeat' split) <;> omega
   exact .finE [.r []] [] (fun z0 => (VI z0, [])) (14 : Int) ((fitE x e) : Int) e1
  ·
   (try simp only [bne_iff_ne, bne_eq_false_iff_eq, ne_eq] at h4)
   refine .br [.r [], .r [(2, X (Xl stepT e.cols))]] (decide ((e.cols.length : Int) > 0)) (fun h7 => ?_) (fun h7 => ?_)
   ·
    (try simp only [decide_eq_true_eq, decide_eq_false_iff_not, Int.not_lt, Int.not_le, gt_iff_lt] at h7)
    refine .br [.r [(2, X (Xc0 (fc_sizes e.cols (by assumption)) X0))], .r []] ((oldI e.cols) != x.cols) (fun h9 => ?_) (fun h9 => ?_)
    ·
     (try simp only [bne_iff_ne, bne_eq_false_iff_eq, ne_eq] at h9)
     have hh : 0 < e.cols.length := by omega
     have e2 : ((fitE x e) : Int) = 14 := by
      unfold fitE nwS
      (first | rw [if_pos (show 0 < e.rows.length by omega)] | rw [if_neg (show ¬ 0 < e.rows.length by omega)] | skip)
      (first | rw [if_pos (show 0 < e.cols.length by omega)] | rw [if_neg (show ¬ 0 < e.cols.length by omega)] | skip)
      (repeat' split) <;> omega
     exact .finE [.r []] [] (fun z0 => (VI z0, [])) (14 : Int) ((fitE x e) : Int) e2
    ·
     (try simp only [bne_iff_ne, bne_eq_false_iff_eq, ne_eq] at h9)
     refine .loop (α := Nat) [.r [], .r [(2, X (Xl cellT e.cells))]] 376 (fun i => ([(3, .ptr 8 0), (5, VI (newI e.rows)), (6, VI (newI e.cols)), (48, VI (e.cells.length : Int)), (49, VI (i : Int))], [(8, .box [VL 2 stepT e.rows, VL 2 stepT e.cols, VL 5 cellT e.cells, VL 4 rectT e.split, VL 4 rectT e.merge])])) (fun i => i ≤ e.cells.length ∧ celF e.cells (newI e.rows) (newI e.cols) 0 = celF e.cells (newI e.rows) (newI e.cols) i) (fun i => e.cells.length - i) (0 : Nat) ?_ ?_
     ·
      exact ⟨by omega, rfl⟩
     rintro i I13 ih13
     try dsimp only at I13
     refine .br [.r []] (decide ((i : Int) < (e.cells.length : Int))) (fun h13 => ?_) (fun h13 => ?_)
     ·
      (try simp only [decide_eq_true_eq, decide_eq_false_iff_not, Int.not_lt, Int.not_le] at h13)
      skip
      refine .br [.r [], .r [(3, X (Xi cellT e.cells (i : Int))), (10, Xv 1 (!(decide ((((e.cells.getD i default)).row) ≥ (newI e.rows)))) X0), (12, Xv 2 (!(decide ((((e.cells.getD i default)).row) ≥ (newI e.rows)))) (Xi cellT e.cells (i : Int))), (13, Xv 1 (!(decide ((((e.cells.getD i default)).row) ≥ (newI e.rows)))) X0), (14, Xv 1 (!(decide ((((e.cells.getD i default)).row) ≥ (newI e.rows)))) X0), (16, Xv 2 (!(decide ((((e.cells.getD i default)).row) ≥ (newI e.rows)))) X0), (17, X (Xk' (decide ((((e.cells.getD i default)).row) ≥ (newI e.rows)))))]] (decide ((((e.cells.getD i default)).row) ≥ (newI e.rows)) || decide ((((e.cells.getD i default)).col) ≥ (newI e.cols))) (fun h15 => ?_) (fun h15 => ?_)
      ·
       (try simp only [decide_eq_true_eq, decide_eq_false_iff_not, Int.not_lt, Int.not_le, ge_iff_le, Bool.or_eq_true, Bool.or_eq_false_iff] at h15)
       have hs : celF e.cells (newI e.rows) (newI e.cols) 0 = 2 := by rw [I13.2, celF, if_pos (by omega), if_pos (by omega)]
       have e3 : ((fitE x e) : Int) = 2 := by
        unfold fitE nwS
        (first | rw [if_pos (show 0 < e.rows.length by omega)] | rw [if_neg (show ¬ 0 < e.rows.length by omega)] | skip)
        (first | rw [if_pos (show 0 < e.cols.length by omega)] | rw [if_neg (show ¬ 0 < e.cols.length by omega)] | skip)
        (repeat' split) <;> omega
       exact .finE [.r []] [] (fun z0 => (VI z0, [])) (2 : Int) ((fitE x e) : Int) e3
      ·
       (try simp only [decide_eq_true_eq, decide_eq_false_iff_not, Int.not_lt, Int.not_le, ge_iff_le, Bool.or_eq_true, Bool.or_eq_false_iff] at h15)
       refine .back [.r [(0, X (Xn ((i : Int) + 1)))]] [(8, 8)] (ih13 ((i + 1) : Nat) ?_ ?_)
       ·
        refine ⟨by omega, ?_⟩
        rw [I13.2, celF, if_pos (by omega), if_neg (by omega)]
       ·
        ((try dsimp only); omega)
     ·
      (try simp only [decide_eq_true_eq, decide_eq_false_iff_not, Int.not_lt, Int.not_le] at h13)
      have hs : celF e.cells (newI e.rows) (newI e.cols) 0 = 0 := by rw [I13.2, celF, if_neg (by omega)]
      refine .loop (α := Nat) [.r [(2, X (Xl rectT e.split))]] 416 (fun j => ([(3, .ptr 8 0), (5, VI (newI e.rows)), (6, VI (newI e.cols)), (73, VI (e.split.length : Int)), (74, VI (j : Int))], [(8, .box [VL 2 stepT e.rows, VL 2 stepT e.cols, VL 5 cellT e.cells, VL 4 rectT e.split, VL 4 rectT e.merge])])) (fun j => j ≤ e.split.length ∧ insQE e.split (newI e.rows) (newI e.cols) 0 = insQE e.split (newI e.rows) (newI e.cols) j) (fun j => e.split.length - j) (0 : Nat) ?_ ?_
      ·
       exact ⟨by omega, rfl⟩
      rintro j I19 ih19
      try dsimp only at I19
      refine .br [.r []] (decide ((j : Int) < (e.split.length : Int))) (fun h19 => ?_) (fun h19 => ?_)
      ·
       (try simp only [decide_eq_true_eq, decide_eq_false_iff_not, Int.not_lt, Int.not_le] at h19)
       refine .br [.r [], .r [(3, X (Xi rectT e.split (j : Int))), (7, X (Xc0 (fc_lies ((e.split.getD j default)) (newI e.rows) (newI e.cols) (by omega)) X0))]] (!(insB ((e.split.getD j default)) (newI e.rows) (newI e.cols))) (fun h21 => ?_) (fun h21 => ?_)
       ·
        (try simp only [Bool.not_eq_true', Bool.not_eq_false'] at h21)
        have ht : insQE e.split (newI e.rows) (newI e.cols) 0 = 2 := by rw [I19.2, insQE, if_pos (by omega), if_pos h21]
        have e4 : ((fitE x e) : Int) = 2 := by
         unfold fitE nwS
         (first | rw [if_pos (show 0 < e.rows.length by omega)] | rw [if_neg (show ¬ 0 < e.rows.length by omega)] | skip)
         (first | rw [if_pos (show 0 < e.cols.length by omega)] | rw [if_neg (show ¬ 0 < e.cols.length by omega)] | skip)
         (repeat' split) <;> omega
        exact .finE [.r []] [] (fun z0 => (VI z0, [])) (2 : Int) ((fitE x e) : Int) e4
       ·
        (try simp only [Bool.not_eq_true', Bool.not_eq_false'] at h21)
        refine .back [.r [(0, X (Xn ((j : Int) + 1)))]] [(8, 8)] (ih19 ((j + 1) : Nat) ?_ ?_)
        ·
         refine ⟨by omega, ?_⟩
         rw [I19.2, insQE, if_pos (by omega), if_neg (by rw [h21]; decide)]
        ·
         ((try dsimp only); omega)
      ·
       (try simp only [decide_eq_true_eq, decide_eq_false_iff_not, Int.not_lt, Int.not_le] at h19)
       have ht : insQE e.split (newI e.rows) (newI e.cols) 0 = 0 := by rw [I19.2, insQE, if_neg (by omega)]
       refine .loop (α := Nat) [.r [(2, X (Xl rectT e.merge))]] 456 (fun k => ([(3, .ptr 8 0), (5, VI (newI e.rows)), (6, VI (newI e.cols)), (89, VI (e.merge.length : Int)), (90, VI (k : Int))], [(8, .box [VL 2 stepT e.rows, VL 2 stepT e.cols, VL 5 cellT e.cells, VL 4 rectT e.split, VL 4 rectT e.merge])])) (fun k => k ≤ e.merge.length ∧ insQE e.merge (newI e.rows) (newI e.cols) 0 = insQE e.merge (newI e.rows) (newI e.cols) k) (fun k => e.merge.length - k) (0 : Nat) ?_ ?_
       ·
        exact ⟨by omega, rfl⟩
       rintro k I25 ih25
       try dsimp only at I25
       refine .br [.r []] (decide ((k : Int) < (e.merge.length : Int))) (fun h25 => ?_) (fun h25 => ?_)
       ·
        (try simp only [decide_eq_true_eq, decide_eq_false_iff_not, Int.not_lt, Int.not_le] at h25)
        refine .br [.r [], .r [(3, X (Xi rectT e.merge (k : Int))), (7, X (Xc0 (fc_lies ((e.merge.getD k default)) (newI e.rows) (newI e.cols) (by omega)) X0))]] (!(insB ((e.merge.getD k default)) (newI e.rows) (newI e.cols))) (fun h27 => ?_) (fun h27 => ?_)
        ·
         (try simp only [Bool.not_eq_true', Bool.not_eq_false'] at h27)
         have hu : insQE e.merge (newI e.rows) (newI e.cols) 0 = 2 := by rw [I25.2, insQE, if_pos (by omega), if_pos h27]
         have e5 : ((fitE x e) : Int) = 2 := by
          unfold fitE nwS
          (first | rw [if_pos (show 0 < e.rows.length by omega)] | rw [if_neg (show ¬ 0 < e.rows.length by omega)] | skip)
          (first | rw [if_pos (show 0 < e.cols.length by omega)] | rw [if_neg (show ¬ 0 < e.cols.length by omega)] | skip)
          (repeat' split) <;> omega
         exact .finE [.r []] [] (fun z0 => (VI z0, [])) (2 : Int) ((fitE x e) : Int) e5
        ·
         (try simp only [Bool.not_eq_true', Bool.not_eq_false'] at h27)
         refine .back [.r [(0, X (Xn ((k : Int) + 1)))]] [(8, 8)] (ih25 ((k + 1) : Nat) ?_ ?_)
         ·
          refine ⟨by omega, ?_⟩
          rw [I25.2, insQE, if_pos (by omega), if_neg (by rw [h27]; decide)]
         ·
          ((try dsimp only); omega)
       ·
        (try simp only [decide_eq_true_eq, decide_eq_false_iff_not, Int.not_lt, Int.not_le] at h25)
        have hu : insQE e.merge (newI e.rows) (newI e.cols) 0 = 0 := by rw [I25.2, insQE, if_neg (by omega)]
        have e6 : ((fitE x e) : Int) = 0 := by
         unfold fitE nwS
         (first | rw [if_pos (show 0 < e.rows.length by omega)] | rw [if_neg (show ¬ 0 < e.rows.length by omega)] | skip)
         (first | rw [if_pos (show 0 < e.cols.length by omega)] | rw [if_neg (show ¬ 0 < e.cols.length by omega)] | skip)
         (repeat' split) <;> omega
        exact .finE [.r []] [] (fun z0 => (VI z0, [])) (0 : Int) ((fitE x e) : Int) e6
   ·
    (try simp only [decide_eq_true_eq, decide_eq_false_iff_not, Int.not_lt, Int.not_le, gt_iff_lt] at h7)
    refine .loop (α := Nat) [.r [(2, X (Xl cellT e.cells))]] 272 (fun i => ([(3, .ptr 8 0), (5, VI (newI e.rows)), (6, VI x.cols), (48, VI (e.cells.length : Int)), (49, VI (i : Int))], [(8, .box [VL 2 stepT e.rows, VL 2 stepT e.cols, VL 5 cellT e.cells, VL 4 rectT e.split, VL 4 rectT e.merge])])) (fun i => i ≤ e.cells.length ∧ celF e.cells (newI e.rows) x.cols 0 = celF e.cells (newI e.rows) x.cols i) (fun i => e.cells.length - i) (0 : Nat) ?_ ?_
    ·
     exact ⟨by omega, rfl⟩
    rintro i I13 ih13
    try dsimp only at I13
    refine .br [.r []] (decide ((i : Int) < (e.cells.length : Int))) (fun h13 => ?_) (fun h13 => ?_)
    ·
     (try simp only [decide_eq_true_eq, decide_eq_false_iff_not, Int.not_lt, Int.not_le] at h13)
     skip
     refine .br [.r [], .r [(3, X (Xi cellT e.cells (i : Int))), (10, Xv 1 (!(decide ((((e.cells.getD i default)).row) ≥ (newI e.rows)))) X0), (12, Xv 2 (!(decide ((((e.cells.getD i default)).row) ≥ (newI e.rows)))) (Xi cellT e.cells (i : Int))), (13, Xv 1 (!(decide ((((e.cells.getD i default)).row) ≥ (newI e.rows)))) X0), (14, Xv 1 (!(decide ((((e.cells.getD i default)).row) ≥ (newI e.rows)))) X0), (16, Xv 2 (!(decide ((((e.cells.getD i default)).row) ≥ (newI e.rows)))) X0), (17, X (Xk' (decide ((((e.cells.getD i default)).row) ≥ (newI e.rows)))))]] (decide ((((e.cells.getD i default)).row) ≥ (newI e.rows)) || decide ((((e.cells.getD i default)).col) ≥ x.cols)) (fun h15 => ?_) (fun h15 => ?_)
     ·
      (try simp only [decide_eq_true_eq, decide_eq_false_iff_not, Int.not_lt, Int.not_le, ge_iff_le, Bool.or_eq_true, Bool.or_eq_false_iff] at h15)
      have hs : celF e.cells (newI e.rows) x.cols 0 = 2 := by rw [I13.2, celF, if_pos (by omega), if_pos (by omega)]
      have e7 : ((fitE x e) : Int) = 2 := by
       unfold fitE nwS
       (first | rw [if_pos (show 0 < e.rows.length by omega)] | rw [if_neg (show ¬ 0 < e.rows.length by omega)] | skip)
       (first | rw [if_pos (show 0 < e.cols.length by omega)] | rw [if_neg (show ¬ 0 < e.cols.length by omega)] | skip)
       (repeat' split) <;> omega
      exact .finE [.r []] [] (fun z0 => (VI z0, [])) (2 : Int) ((fitE x e) : Int) e7
     ·
      (try simp only [decide_eq_true_eq, decide_eq_false_iff_not, Int.not_lt, Int.not_le, ge_iff_le, Bool.or_eq_true, Bool.or_eq_false_iff] at h15)
      refine .back [.r [(0, X (Xn ((i : Int) + 1)))]] [(8, 8)] (ih13 ((i + 1) : Nat) ?_ ?_)
      ·
       refine ⟨by omega, ?_⟩
       rw [I13.2, celF, if_pos (by omega), if_neg (by omega)]
      ·
       ((try dsimp only); omega)
    ·
     (try simp only [decide_eq_true_eq, decide_eq_false_iff_not, Int.not_lt, Int.not_le] at h13)
     have hs : celF e.cells (newI e.rows) x.cols 0 = 0 := by rw [I13.2, celF, if_neg (by omega)]
     refine .loop (α := Nat) [.r [(2, X (Xl rectT e.split))]] 312 (fun j => ([(3, .ptr 8 0), (5, VI (newI e.rows)), (6, VI x.cols), (73, VI (e.split.length : Int)), (74, VI (j : Int))], [(8, .box [VL 2 stepT e.rows, VL 2 stepT e.cols, VL 5 cellT e.cells, VL 4 rectT e.split, VL 4 rectT e.merge])])) (fun j => j ≤ e.split.length ∧ insQE e.split (newI e.rows) x.cols 0 = insQE e.split (newI e.rows) x.cols j) (fun j => e.split.length - j) (0 : Nat) ?_ ?_
     ·
      exact ⟨by omega, rfl⟩
     rintro j I19 ih19
     try dsimp only at I19
     refine .br [.r []] (decide ((j : Int) < (e.split.length : Int))) (fun h19 => ?_) (fun h19 => ?_)
     ·
      (try simp only [decide_eq_true_eq, decide_eq_false_iff_not, Int.not_lt, Int.not_le] at h19)
      refine .br [.r [], .r [(3, X (Xi rectT e.split (j : Int))), (7, X (Xc0 (fc_lies ((e.split.getD j default)) (newI e.rows) x.cols (by omega)) X0))]] (!(insB ((e.split.getD j default)) (newI e.rows) x.cols)) (fun h21 => ?_) (fun h21 => ?_)
      ·
       (try simp only [Bool.not_eq_true', Bool.not_eq_false'] at h21)
       have ht : insQE e.split (newI e.rows) x.cols 0 = 2 := by rw [I19.2, insQE, if_pos (by omega), if_pos h21]
       have e8 : ((fitE x e) : Int) = 2 := by
        unfold fitE nwS
        (first | rw [if_pos (show 0 < e.rows.length by omega)] | rw [if_neg (show ¬ 0 < e.rows.length by omega)] | skip)
        (first | rw [if_pos (show 0 < e.cols.length by omega)] | rw [if_neg (show ¬ 0 < e.cols.length by omega)] | skip)
        (repeat' split) <;> omega
       exact .finE [.r []] [] (fun z0 => (VI z0, [])) (2 : Int) ((fitE x e) : Int) e8
      ·
       (try simp only [Bool.not_eq_true', Bool.not_eq_false'] at h21)
       refine .back [.r [(0, X (Xn ((j : Int) + 1)))]] [(8, 8)] (ih19 ((j + 1) : Nat) ?_ ?_)
       ·
        refine ⟨by omega, ?_⟩
        rw [I19.2, insQE, if_pos (by omega), if_neg (by rw [h21]; decide)]
       ·
        ((try dsimp only); omega)
     ·
      (try simp only [decide_eq_true_eq, decide_eq_false_iff_not, Int.not_lt, Int.not_le] at h19)
      have ht : insQE e.split (newI e.rows) x.cols 0 = 0 := by rw [I19.2, insQE, if_neg (by omega)]
      refine .loop (α := Nat) [.r [(2, X (Xl rectT e.merge))]] 352 (fun k => ([(3, .ptr 8 0), (5, VI (newI e.rows)), (6, VI x.cols), (89, VI (e.merge.length : Int)), (90, VI (k : Int))], [(8, .box [VL 2 stepT e.rows, VL 2 stepT e.cols, VL 5 cellT e.cells, VL 4 rectT e.split, VL 4 rectT e.merge])])) (fun k => k ≤ e.merge.length ∧ insQE e.merge (newI e.rows) x.cols 0 = insQE e.merge (newI e.rows) x.cols k) (fun k => e.merge.length - k) (0 : Nat) ?_ ?_
      ·
       exact ⟨by omega, rfl⟩
      rintro k I25 ih25
      try dsimp only at I25
      refine .br [.r []] (decide ((k : Int) < (e.merge.length : Int))) (fun h25 => ?_) (fun h25 => ?_)
      ·
       (try simp only [decide_eq_true_eq, decide_eq_false_iff_not, Int.not_lt, Int.not_le] at h25)
       refine .br [.r [], .r [(3, X (Xi rectT e.merge (k : Int))), (7, X (Xc0 (fc_lies ((e.merge.getD k default)) (newI e.rows) x.cols (by omega)) X0))]] (!(insB ((e.merge.getD k default)) (newI e.rows) x.cols)) (fun h27 => ?_) (fun h27 => ?_)
       ·
        (try simp only [Bool.not_eq_true', Bool.not_eq_false'] at h27)
        have hu : insQE e.merge (newI e.rows) x.cols 0 = 2 := by rw [I25.2, insQE, if_pos (by omega), if_pos h27]
        have e9 : ((fitE x e) : Int) = 2 := by
         unfold fitE nwS
         (first | rw [if_pos (show 0 < e.rows.length by omega)] | rw [if_neg (show ¬ 0 < e.rows.length by omega)] | skip)
         (first | rw [if_pos (show 0 < e.cols.length by omega)] | rw [if_neg (show ¬ 0 < e.cols.length by omega)] | skip)
         (repeat' split) <;> omega
        exact .finE [.r []] [] (fun z0 => (VI z0, [])) (2 : Int) ((fitE x e) : Int) e9
       ·
        (try simp only [Bool.not_eq_true', Bool.not_eq_false'] at h27)
        refine .back [.r [(0, X (Xn ((k : Int) + 1)))]] [(8, 8)] (ih25 ((k + 1) : Nat) ?_ ?_)
        ·
         refine ⟨by omega, ?_⟩
         rw [I25.2, insQE, if_pos (by omega), if_neg (by rw [h27]; decide)]
        ·
         ((try dsimp only); omega)
      ·
       (try simp only [decide_eq_true_eq, decide_eq_false_iff_not, Int.not_lt, Int.not_le] at h25)
       have hu : insQE e.merge (newI e.rows) x.cols 0 = 0 := by rw [I25.2, insQE, if_neg (by omega)]
       have e10 : ((fitE x e) : Int) = 0 := by
        unfold fitE nwS
        (first | rw [if_pos (show 0 < e.rows.length by omega)] | rw [if_neg (show ¬ 0 < e.rows.length by omega)] | skip)
        (first | rw [if_pos (show 0 < e.cols.length by omega)] | rw [if_neg (show ¬ 0 < e.cols.length by omega)] | skip)
        (repeat' split) <;> omega
       exact .finE [.r []] [] (fun z0 => (VI z0, [])) (0 : Int) ((fitE x e) : Int) e10
 ·
  (try simp only [decide_eq_true_eq, decide_eq_false_iff_not, Int.not_lt, Int.not_le, gt_iff_lt] at h2)
  refine .br [.r [(2, X (Xl stepT e.cols))]] (decide ((e.cols.length : Int) > 0)) (fun h7 => ?_) (fun h7 => ?_)
  ·
   (try simp only [decide_eq_true_eq, decide_eq_false_iff_not, Int.not_lt, Int.not_le, gt_iff_lt] at h7)
   refine .br [.r [(2, X (Xc0 (fc_sizes e.cols (by assumption)) X0))], .r []] ((oldI e.cols) != x.cols) (fun h9 => ?_) (fun h9 => ?_)
   ·
    (try simp only [bne_iff_ne, bne_eq_false_iff_eq, ne_eq] at h9)
    have hh : 0 < e.cols.length := by omega
    have e11 : ((fitE x e) : Int) = 14 := by
     unfold fitE nwS
     (first | rw [if_pos (show 0 < e.rows.length by omega)] | rw [if_neg (show ¬ 0 < e.rows.length by omega)] | skip)
     (first | rw [if_pos (show 0 < e.cols.length by omega)] | rw [if_neg (show ¬ 0 < e.cols.length by omega)] | skip)
     (repeat' split) <;> omega
    exact .finE [.r []] [] (fun z0 => (VI z0, [])) (14 : Int) ((fitE x e) : Int) e11
   ·
    (try simp only [bne_iff_ne, bne_eq_false_iff_eq, ne_eq] at h9)
    refine .loop (α := Nat) [.r [], .r [(2, X (Xl cellT e.cells))]] 272 (fun i => ([(3, .ptr 8 0), (5, VI x.rows), (6, VI (newI e.cols)), (48, VI (e.cells.length : Int)), (49, VI (i : Int))], [(8, .box [VL 2 stepT e.rows, VL 2 stepT e.cols, VL 5 cellT e.cells, VL 4 rectT e.split, VL 4 rectT e.merge])])) (fun i => i ≤ e.cells.length ∧ celF e.cells x.rows (newI e.cols) 0 = celF e.cells x.rows (newI e.cols) i) (fun i => e.cells.length - i) (0 : Nat) ?_ ?_
    ·
     exact ⟨by omega, rfl⟩
    rintro i I13 ih13
    try dsimp only at I13
    refine .br [.r []] (decide ((i : Int) < (e.cells.length : Int))) (fun h13 => ?_) (fun h13 => ?_)
    ·
     (try simp only [decide_eq_true_eq, decide_eq_false_iff_not, Int.not_lt, Int.not_le] at h13)
     skip
     refine .br [.r [], .r [(3, X (Xi cellT e.cells (i : Int))), (10, Xv 1 (!(decide ((((e.cells.getD i default)).row) ≥ x.rows))) X0), (12, Xv 2 (!(decide ((((e.cells.getD i default)).row) ≥ x.rows))) (Xi cellT e.cells (i : Int))), (13, Xv 1 (!(decide ((((e.cells.getD i default)).row) ≥ x.rows))) X0), (14, Xv 1 (!(decide ((((e.cells.getD i default)).row) ≥ x.rows))) X0), (16, Xv 2 (!(decide ((((e.cells.getD i default)).row) ≥ x.rows))) X0), (17, X (Xk' (decide ((((e.cells.getD i default)).row) ≥ x.rows))))]] (decide ((((e.cells.getD i default)).row) ≥ x.rows) || decide ((((e.cells.getD i default)).col) ≥ (newI e.cols))) (fun h15 => ?_) (fun h15 => ?_)
     ·
      (try simp only [decide_eq_true_eq, decide_eq_false_iff_not, Int.not_lt, Int.not_le, ge_iff_le, Bool.or_eq_true, Bool.or_eq_false_iff] at h15)
      have hs : celF e.cells x.rows (newI e.cols) 0 = 2 := by rw [I13.2, celF, if_pos (by omega), if_pos (by omega)]
      have e12 : ((fitE x e) : Int) = 2 := by
       unfold fitE nwS
       (first | rw [if_pos (show 0 < e.rows.length by omega)] | rw [if_neg (show ¬ 0 < e.rows.length by omega)] | skip)
       (first | rw [if_pos (show 0 < e.cols.length by omega)] | rw [if_neg (show ¬ 0 < e.cols.length by omega)] | skip)
       (repeat' split) <;> omega
      exact .finE [.r []] [] (fun z0 => (VI z0, [])) (2 : Int) ((fitE x e) : Int) e12
     ·
      (try simp only [decide_eq_true_eq, decide_eq_false_iff_not, Int.not_lt, Int.not_le, ge_iff_le, Bool.or_eq_true, Bool.or_eq_false_iff] at h15)
      refine .back [.r [(0, X (Xn ((i : Int) + 1)))]] [(8, 8)] (ih13 ((i + 1) : Nat) ?_ ?_)
      ·
       refine ⟨by omega, ?_⟩
       rw [I13.2, celF, if_pos (by omega), if_neg (by omega)]
      ·
       ((try dsimp only); omega)
    ·
     (try simp only [decide_eq_true_eq, decide_eq_false_iff_not, Int.not_lt, Int.not_le] at h13)
     have hs : celF e.cells x.rows (newI e.cols) 0 = 0 := by rw [I13.2, celF, if_neg (by omega)]
     refine .loop (α := Nat) [.r [(2, X (Xl rectT e.split))]] 312 (fun j => ([(3, .ptr 8 0), (5, VI x.rows), (6, VI (newI e.cols)), (73, VI (e.split.length : Int)), (74, VI (j : Int))], [(8, .box [VL 2 stepT e.rows, VL 2 stepT e.cols, VL 5 cellT e.cells, VL 4 rectT e.split, VL 4 rectT e.merge])])) (fun j => j ≤ e.split.length ∧ insQE e.split x.rows (newI e.cols) 0 = insQE e.split x.rows (newI e.cols) j) (fun j => e.split.length - j) (0 : Nat) ?_ ?_
     ·
      exact ⟨by omega, rfl⟩
     rintro j I19 ih19
     try dsimp only at I19
     refine .br [.r []] (decide ((j : Int) < (e.split.length : Int))) (fun h19 => ?_) (fun h19 => ?_)
     ·
      (try simp only [decide_eq_true_eq, decide_eq_false_iff_not, Int.not_lt, Int.not_le] at h19)
      refine .br [.r [], .r [(3, X (Xi rectT e.split (j : Int))), (7, X (Xc0 (fc_lies ((e.split.getD j default)) x.rows (newI e.cols) (by omega)) X0))]] (!(insB ((e.split.getD j default)) x.rows (newI e.cols))) (fun h21 => ?_) (fun h21 => ?_)
      ·
       (try simp only [Bool.not_eq_true', Bool.not_eq_false'] at h21)
       have ht : insQE e.split x.rows (newI e.cols) 0 = 2 := by rw [I19.2, insQE, if_pos (by omega), if_pos h21]
       have e13 : ((fitE x e) : Int) = 2 := by
        unfold fitE nwS
        (first | rw [if_pos (show 0 < e.rows.length by omega)] | rw [if_neg (show ¬ 0 < e.rows.length by omega)] | skip)
        (first | rw [if_pos (show 0 < e.cols.length by omega)] | rw [if_neg (show ¬ 0 < e.cols.length by omega)] | skip)
        (repeat' split) <;> omega
       exact .finE [.r []] [] (fun z0 => (VI z0, [])) (2 : Int) ((fitE x e) : Int) e13
      ·
       (try simp only [Bool.not_eq_true', Bool.not_eq_false'] at h21)
       refine .back [.r [(0, X (Xn ((j : Int) + 1)))]] [(8, 8)] (ih19 ((j + 1) : Nat) ?_ ?_)
       ·
        refine ⟨by omega, ?_⟩
        rw [I19.2, insQE, if_pos (by omega), if_neg (by rw [h21]; decide)]
       ·
        ((try dsimp only); omega)
     ·
      (try simp only [decide_eq_true_eq, decide_eq_false_iff_not, Int.not_lt, Int.not_le] at h19)
      have ht : insQE e.split x.rows (newI e.cols) 0 = 0 := by rw [I19.2, insQE, if_neg (by omega)]
      refine .loop (α := Nat) [.r [(2, X (Xl rectT e.merge))]] 352 (fun k => ([(3, .ptr 8 0), (5, VI x.rows), (6, VI (newI e.cols)), (89, VI (e.merge.length : Int)), (90, VI (k : Int))], [(8, .box [VL 2 stepT e.rows, VL 2 stepT e.cols, VL 5 cellT e.cells, VL 4 rectT e.split, VL 4 rectT e.merge])])) (fun k => k ≤ e.merge.length ∧ insQE e.merge x.rows (newI e.cols) 0 = insQE e.merge x.rows (newI e.cols) k) (fun k => e.merge.length - k) (0 : Nat) ?_ ?_
      ·
       exact ⟨by omega, rfl⟩
      rintro k I25 ih25
      try dsimp only at I25
      refine .br [.r []] (decide ((k : Int) < (e.merge.length : Int))) (fun h25 => ?_) (fun h25 => ?_)
      ·
       (try simp only [decide_eq_true_eq, decide_eq_false_iff_not, Int.not_lt, Int.not_le] at h25)
       refine .br [.r [], .r [(3, X (Xi rectT e.merge (k : Int))), (7, X (Xc0 (fc_lies ((e.merge.getD k default)) x.rows (newI e.cols) (by omega)) X0))]] (!(insB ((e.merge.getD k default)) x.rows (newI e.cols))) (fun h27 => ?_) (fun h27 => ?_)
       ·
        (try simp only [Bool.not_eq_true', Bool.not_eq_false'] at h27)
        have hu : insQE e.merge x.rows (newI e.cols) 0 = 2 := by rw [I25.2, insQE, if_pos (by omega), if_pos h27]
        have e14 : ((fitE x e) : Int) = 2 := by
         unfold fitE nwS
         (first | rw [if_pos (show 0 < e.rows.length by omega)] | rw [if_neg (show ¬ 0 < e.rows.length by omega)] | skip)
         (first | rw [if_pos (show 0 < e.cols.length by omega)] | rw [if_neg (show ¬ 0 < e.cols.length by omega)] | skip)
         (repeat' split) <;> omega
        exact .finE [.r []] [] (fun z0 => (VI z0, [])) (2 : Int) ((fitE x e) : Int) e14
       ·
        (try simp only [Bool.not_eq_true', Bool.not_eq_false'] at h27)
        refine .back [.r [(0, X (Xn ((k : Int) + 1)))]] [(8, 8)] (ih25 ((k + 1) : Nat) ?_ ?_)
        ·
         refine ⟨by omega, ?_⟩
         rw [I25.2, insQE, if_pos (by omega), if_neg (by rw [h27]; decide)]
        ·
         ((try dsimp only); omega)
      ·
       (try simp only [decide_eq_true_eq, decide_eq_false_iff_not, Int.not_lt, Int.not_le] at h25)
       have hu : insQE e.merge x.rows (newI e.cols) 0 = 0 := by rw [I25.2, insQE, if_neg (by omega)]
       have e15 : ((fitE x e) : Int) = 0 := by
        unfold fitE nwS
        (first | rw [if_pos (show 0 < e.rows.length by omega)] | rw [if_neg (show ¬ 0 < e.rows.length by omega)] | skip)
        (first | rw [if_pos (show 0 < e.cols.length by omega)] | rw [if_neg (show ¬ 0 < e.cols.length by omega)] | skip)
        (repeat' split) <;> omega
       exact .finE [.r []] [] (fun z0 => (VI z0, [])) (0 : Int) ((fitE x e) : Int) e15
  ·
   (try simp only [decide_eq_true_eq, decide_eq_false_iff_not, Int.not_lt, Int.not_le, gt_iff_lt] at h7)
   refine .loop (α := Nat) [.r [(2, X (Xl cellT e.cells))]] 168 (fun i => ([(3, .ptr 8 0), (5, VI x.rows), (6, VI x.cols), (48, VI (e.cells.length : Int)), (49, VI (i : Int))], [(8, .box [VL 2 stepT e.rows, VL 2 stepT e.cols, VL 5 cellT e.cells, VL 4 rectT e.split, VL 4 rectT e.merge])])) (fun i => i ≤ e.cells.length ∧ celF e.cells x.rows x.cols 0 = celF e.cells x.rows x.cols i) (fun i => e.cells.length - i) (0 : Nat) ?_ ?_
   ·
    exact ⟨by omega, rfl⟩
   rintro i I13 ih13
   try dsimp only at I13
   refine .br [.r []] (decide ((i : Int) < (e.cells.length : Int))) (fun h13 => ?_) (fun h13 => ?_)
   ·
    (try simp only [decide_eq_true_eq, decide_eq_false_iff_not, Int.not_lt, Int.not_le] at h13)
    skip
    refine .br [.r [], .r [(3, X (Xi cellT e.cells (i : Int))), (10, Xv 1 (!(decide ((((e.cells.getD i default)).row) ≥ x.rows))) X0), (12, Xv 2 (!(decide ((((e.cells.getD i default)).row) ≥ x.rows))) (Xi cellT e.cells (i : Int))), (13, Xv 1 (!(decide ((((e.cells.getD i default)).row) ≥ x.rows))) X0), (14, Xv 1 (!(decide ((((e.cells.getD i default)).row) ≥ x.rows))) X0), (16, Xv 2 (!(decide ((((e.cells.getD i default)).row) ≥ x.rows))) X0), (17, X (Xk' (decide ((((e.cells.getD i default)).row) ≥ x.rows))))]] (decide ((((e.cells.getD i default)).row) ≥ x.rows) || decide ((((e.cells.getD i default)).col) ≥ x.cols)) (fun h15 => ?_) (fun h15 => ?_)
    ·
     (try simp only [decide_eq_true_eq, decide_eq_false_iff_not, Int.not_lt, Int.not_le, ge_iff_le, Bool.or_eq_true, Bool.or_eq_false_iff] at h15)
     have hs : celF e.cells x.rows x.cols 0 = 2 := by rw [I13.2, celF, if_pos (by omega), if_pos (by omega)]
     have e16 : ((fitE x e) : Int) = 2 := by
      unfold fitE nwS
      (first | rw [if_pos (show 0 < e.rows.length by omega)] | rw [if_neg (show ¬ 0 < e.rows.length by omega)] | skip)
      (first | rw [if_pos (show 0 < e.cols.length by omega)] | rw [if_neg (show ¬ 0 < e.cols.length by omega)] | skip)
      (repeat' split) <;> omega
     exact .finE [.r []] [] (fun z0 => (VI z0, [])) (2 : Int) ((fitE x e) : Int) e16
    ·
     (try simp only [decide_eq_true_eq, decide_eq_false_iff_not, Int.not_lt, Int.not_le, ge_iff_le, Bool.or_eq_true, Bool.or_eq_false_iff] at h15)
     refine .back [.r [(0, X (Xn ((i : Int) + 1)))]] [(8, 8)] (ih13 ((i + 1) : Nat) ?_ ?_)
     ·
      refine ⟨by omega, ?_⟩
      rw [I13.2, celF, if_pos (by omega), if_neg (by omega)]
     ·
      ((try dsimp only); omega)
   ·
    (try simp only [decide_eq_true_eq, decide_eq_false_iff_not, Int.not_lt, Int.not_le] at h13)
    have hs : celF e.cells x.rows x.cols 0 = 0 := by rw [I13.2, celF, if_neg (by omega)]
    refine .loop (α := Nat) [.r [(2, X (Xl rectT e.split))]] 208 (fun j => ([(3, .ptr 8 0), (5, VI x.rows), (6, VI x.cols), (73, VI (e.split.length : Int)), (74, VI (j : Int))], [(8, .box [VL 2 stepT e.rows, VL 2 stepT e.cols, VL 5 cellT e.cells, VL 4 rectT e.split, VL 4 rectT e.merge])])) (fun j => j ≤ e.split.length ∧ insQE e.split x.rows x.cols 0 = insQE e.split x.rows x.cols j) (fun j => e.split.length - j) (0 : Nat) ?_ ?_
    ·
     exact ⟨by omega, rfl⟩
    rintro j I19 ih19
    try dsimp only at I19
    refine .br [.r []] (decide ((j : Int) < (e.split.length : Int))) (fun h19 => ?_) (fun h19 => ?_)
    ·
     (try simp only [decide_eq_true_eq, decide_eq_false_iff_not, Int.not_lt, Int.not_le] at h19)
     refine .br [.r [], .r [(3, X (Xi rectT e.split (j : Int))), (7, X (Xc0 (fc_lies ((e.split.getD j default)) x.rows x.cols (by omega)) X0))]] (!(insB ((e.split.getD j default)) x.rows x.cols)) (fun h21 => ?_) (fun h21 => ?_)
     ·
      (try simp only [Bool.not_eq_true', Bool.not_eq_false'] at h21)
      have ht : insQE e.split x.rows x.cols 0 = 2 := by rw [I19.2, insQE, if_pos (by omega), if_pos h21]
      have e17 : ((fitE x e) : Int) = 2 := by
       unfold fitE nwS
       (first | rw [if_pos (show 0 < e.rows.length by omega)] | rw [if_neg (show ¬ 0 < e.rows.length by omega)] | skip)
       (first | rw [if_pos (show 0 < e.cols.length by omega)] | rw [if_neg (show ¬ 0 < e.cols.length by omega)] | skip)
       (repeat' split) <;> omega
      exact .finE [.r []] [] (fun z0 => (VI z0, [])) (2 : Int) ((fitE x e) : Int) e17
     ·
      (try simp only [Bool.not_eq_true', Bool.not_eq_false'] at h21)
      refine .back [.r [(0, X (Xn ((j : Int) + 1)))]] [(8, 8)] (ih19 ((j + 1) : Nat) ?_ ?_)
      ·
       refine ⟨by omega, ?_⟩
       rw [I19.2, insQE, if_pos (by omega), if_neg (by rw [h21]; decide)]
      ·
       ((try dsimp only); omega)
    ·
     (try simp only [decide_eq_true_eq, decide_eq_false_iff_not, Int.not_lt, Int.not_le] at h19)
     have ht : insQE e.split x.rows x.cols 0 = 0 := by rw [I19.2, insQE, if_neg (by omega)]
     refine .loop (α := Nat) [.r [(2, X (Xl rectT e.merge))]] 248 (fun k => ([(3, .ptr 8 0), (5, VI x.rows), (6, VI x.cols), (89, VI (e.merge.length : Int)), (90, VI (k : Int))], [(8, .box [VL 2 stepT e.rows, VL 2 stepT e.cols, VL 5 cellT e.cells, VL 4 rectT e.split, VL 4 rectT e.merge])])) (fun k => k ≤ e.merge.length ∧ insQE e.merge x.rows x.cols 0 = insQE e.merge x.rows x.cols k) (fun k => e.merge.length - k) (0 : Nat) ?_ ?_
     ·
      exact ⟨by omega, rfl⟩
     rintro k I25 ih25
     try dsimp only at I25
     refine .br [.r []] (decide ((k : Int) < (e.merge.length : Int))) (fun h25 => ?_) (fun h25 => ?_)
     ·
      (try simp only [decide_eq_true_eq, decide_eq_false_iff_not, Int.not_lt, Int.not_le] at h25)
      refine .br [.r [], .r [(3, X (Xi rectT e.merge (k : Int))), (7, X (Xc0 (fc_lies ((e.merge.getD k default)) x.rows x.cols (by omega)) X0))]] (!(insB ((e.merge.getD k default)) x.rows x.cols)) (fun h27 => ?_) (fun h27 => ?_)
      ·
       (try simp only [Bool.not_eq_true', Bool.not_eq_false'] at h27)
       have hu : insQE e.merge x.rows x.cols 0 = 2 := by rw [I25.2, insQE, if_pos (by omega), if_pos h27]
       have e18 : ((fitE x e) : Int) = 2 := by
        unfold fitE nwS
        (first | rw [if_pos (show 0 < e.rows.length by omega)] | rw [if_neg (show ¬ 0 < e.rows.length by omega)] | skip)
        (first | rw [if_pos (show 0 < e.cols.length by omega)] | rw [if_neg (show ¬ 0 < e.cols.length by omega)] | skip)
        (repeat' split) <;> omega
       exact .finE [.r []] [] (fun z0 => (VI z0, [])) (2 : Int) ((fitE x e) : Int) e18
      ·
       (try simp only [Bool.not_eq_true', Bool.not_eq_false'] at h27)
       refine .back [.r [(0, X (Xn ((k : Int) + 1)))]] [(8, 8)] (ih25 ((k + 1) : Nat) ?_ ?_)
       ·
        refine ⟨by omega, ?_⟩
        rw [I25.2, insQE, if_pos (by omega), if_neg (by rw [h27]; decide)]
       ·
        ((try dsimp only); omega)
     ·
      (try simp only [decide_eq_true_eq, decide_eq_false_iff_not, Int.not_lt, Int.not_le] at h25)
      have hu : insQE e.merge x.rows x.cols 0 = 0 := by rw [I25.2, insQE, if_neg (by omega)]
      have e19 : ((fitE x e) : Int) = 0 := by
       unfold fitE nwS
       (first | rw [if_pos (show 0 < e.rows.length by omega)] | rw [if_neg (show ¬ 0 < e.rows.length by omega)] | skip)
       (first | rw [if_pos (show 0 < e.cols.length by omega)] | rw [if_neg (show ¬ 0 < e.cols.length by omega)] | skip)
       (repeat' split) <;> omega
      exact .finE [.r []] [] (fun z0 => (VI z0, [])) (0 : Int) ((fitE x e) : Int) e19

theorem fc_fits (x : Grid) (e : GEd) (le : e.cells.length ≤ 100000000000 ∧ e.split.length ≤ 100000000000 ∧ e.merge.length ≤ 100000000000) (lm : x.merges.length ≤ 100000000000) (hx : gridE x = 0) (he : EdOk e) (hf : FitOk x e) : FC Tryz.prog 28 [.t (gridT x), .t (gedT e)] (app emp []) (.tup [VI (nwS x.rows e.rows), VI (nwS x.cols e.cols), VI 0]) (app emp []) := by
 refine .go Tryz.f28 ?_
 obtain ⟨f1, f2, f3, f4, f5⟩ := hf
 have hr := he.okr
 have hc := he.okc
 have hgb : 0 ≤ x.rows ∧ x.rows ≤ 2147483647 ∧ 0 ≤ x.cols ∧ x.cols ≤ 2147483647 := by (unfold gridE at hx; split at hx <;> omega)
 have nb1 := nwS_bd (n := x.rows) hr (by omega)
 have nb2 := nwS_bd (n := x.cols) hc (by omega)
 unfold nwS at nb1 nb2 f3 f4 f5
 refine .br [.r [], .r [(1, X (Xc0 (fc_gcheck x (by omega)) X0))], .r []] ((gridE x) != 0) (fun h2 => ?_) (fun h2 => ?_)
 ·
  (try simp only [bne_iff_ne, bne_eq_false_iff_eq, ne_eq] at h2)
  exfalso
  omega
 ·
  (try simp only [bne_iff_ne, bne_eq_false_iff_eq, ne_eq] at h2)
  refine .br [.r [(1, X (Xc0 (fc_checkEdit e (by assumption) (by assumption)) X0))], .r [], .f, .r [(4, X (Xc0 (fc_axsize x.rows e.rows (fun _ => hr)) X0))], .r [(4, X (Xc0 (fc_axsize x.cols e.cols (fun _ => hc)) X0))], .r [(4, Xv 1 (!(!(decide (0 < (e.rows).length → oldI e.rows = x.rows)))) X0), (5, X (Xk' (!(decide (0 < (e.rows).length → oldI e.rows = x.rows)))))]] (!(decide (0 < (e.rows).length → oldI e.rows = x.rows)) || !(decide (0 < (e.cols).length → oldI e.cols = x.cols))) (fun h9 => ?_) (fun h9 => ?_)
  ·
   (try simp only [decide_eq_true_eq, decide_eq_false_iff_not, Int.not_lt, Int.not_le, Bool.not_eq_true', Bool.not_eq_false', Bool.or_eq_true, Bool.or_eq_false_iff] at h9)
   exfalso
   rcases h9 with h | h; (exact h f1); (exact h f2)
  ·
   (try simp only [decide_eq_true_eq, decide_eq_false_iff_not, Int.not_lt, Int.not_le, Bool.not_eq_true', Bool.not_eq_false', Bool.or_eq_true, Bool.or_eq_false_iff] at h9)
   refine .loop (α := Nat) [.r [(2, X (Xl cellT e.cells))]] 360 (fun i => ([(3, .ptr 8 0), (9, VI (if 0 < (e.rows).length then newI e.rows else x.rows)), (11, VI (if 0 < (e.cols).length then newI e.cols else x.cols)), (52, VL 5 cellT e.cells), (53, VI (e.cells.length : Int)), (54, VI (i : Int))], [(8, .box [VL 2 stepT e.rows, VL 2 stepT e.cols, VL 5 cellT e.cells, VL 4 rectT e.split, VL 4 rectT e.merge])])) (fun i => i ≤ e.cells.length) (fun i => e.cells.length - i) (0 : Nat) ?_ ?_
   ·
    (try dsimp only); omega
   rintro i I12 ih12
   try dsimp only at I12
   refine .br [.r []] (decide ((i : Int) < (e.cells.length : Int))) (fun h12 => ?_) (fun h12 => ?_)
   ·
    (try simp only [decide_eq_true_eq, decide_eq_false_iff_not, Int.not_lt, Int.not_le] at h12)
    have hm := f3 _ (getDX_mem (l := e.cells) (i := i) (by omega))
    refine .br [.r [(0, X (Xi cellT e.cells (i : Int)))], .r [(6, Xv 1 (!(decide ((((e.cells.getD i default)).row) ≥ (if 0 < (e.rows).length then newI e.rows else x.rows)))) X0), (8, Xv 2 (!(decide ((((e.cells.getD i default)).row) ≥ (if 0 < (e.rows).length then newI e.rows else x.rows)))) X0), (9, X (Xk' (decide ((((e.cells.getD i default)).row) ≥ (if 0 < (e.rows).length then newI e.rows else x.rows)))))]] (decide ((((e.cells.getD i default)).row) ≥ (if 0 < (e.rows).length then newI e.rows else x.rows)) || decide ((((e.cells.getD i default)).col) ≥ (if 0 < (e.cols).length then newI e.cols else x.cols))) (fun h14 => ?_) (fun h14 => ?_)
    ·
     (try simp only [decide_eq_true_eq, decide_eq_false_iff_not, Int.not_lt, Int.not_le, ge_iff_le, Bool.or_eq_true, Bool.or_eq_false_iff] at h14)
     exfalso
     omega
    ·
     (try simp only [decide_eq_true_eq, decide_eq_false_iff_not, Int.not_lt, Int.not_le, ge_iff_le, Bool.or_eq_true, Bool.or_eq_false_iff] at h14)
     refine .back [.r [(0, X (Xn ((i : Int) + 1)))]] [(8, 8)] (ih12 ((i + 1) : Nat) ?_ ?_)
     ·
      (try dsimp only); omega
     ·
      ((try dsimp only); omega)
   ·
    (try simp only [decide_eq_true_eq, decide_eq_false_iff_not, Int.not_lt, Int.not_le] at h12)
    refine .loop (α := Nat) [.r [], .u, .r [], .t, .r [(0, X (Xa (Xc ((0:Int) ≤ 0)) (Xc ((0 : Int) < ((2 : Nat) : Int)))) ⟨by decide, by decide⟩)], .r [(1, X (Xl rectT e.split))]] 464 (fun j => ([(9, VI (if 0 < (e.rows).length then newI e.rows else x.rows)), (11, VI (if 0 < (e.cols).length then newI e.cols else x.cols)), (73, .t (.agg [TL 4 rectT e.split, TL 4 rectT e.merge])), (74, VI 0), (77, VL 4 rectT e.split), (78, VI (e.split.length : Int)), (79, VI (j : Int))], [])) (fun j => j ≤ (e.split).length) (fun j => (e.split).length - j) (0 : Nat) ?_ ?_
    ·
     (try dsimp only); omega
    rintro j I21 ih21
    try dsimp only at I21
    refine .br [.r []] (decide ((j : Int) < (e.split.length : Int))) (fun h21 => ?_) (fun h21 => ?_)
    ·
     (try simp only [decide_eq_true_eq, decide_eq_false_iff_not, Int.not_lt, Int.not_le] at h21)
     have hin : insB ((e.split).getD j default) (if 0 < (e.rows).length then newI e.rows else x.rows) (if 0 < (e.cols).length then newI e.cols else x.cols) = true := by first | exact f4 _ (getDX_mem (by omega)) | exact f5 _ (getDX_mem (by omega))
     refine .br [.r [(0, X (Xi rectT e.split (j : Int)))], .r [(3, X (Xc0 (fc_inside ((e.split.getD j default)) (if 0 < (e.rows).length then newI e.rows else x.rows) (if 0 < (e.cols).length then newI e.cols else x.cols) (by omega)) X0))]] (!(insB ((e.split.getD j default)) (if 0 < (e.rows).length then newI e.rows else x.rows) (if 0 < (e.cols).length then newI e.cols else x.cols))) (fun h23 => ?_) (fun h23 => ?_)
     ·
      (try simp only [Bool.not_eq_true', Bool.not_eq_false'] at h23)
      exfalso
      rw [hin] at h23; cases h23
     ·
      (try simp only [Bool.not_eq_true', Bool.not_eq_false'] at h23)
      refine .back [.r [(0, X (Xn ((j : Int) + 1)))]] [] (ih21 ((j + 1) : Nat) ?_ ?_)
      ·
       (try dsimp only); omega
      ·
       ((try dsimp only); omega)
    ·
     (try simp only [decide_eq_true_eq, decide_eq_false_iff_not, Int.not_lt, Int.not_le] at h21)
     refine .loop (α := Nat) [.r [], .u, .r [], .t, .r [(0, X (Xa (Xc ((0:Int) ≤ 1)) (Xc ((1 : Int) < ((2 : Nat) : Int)))) ⟨by decide, by decide⟩)], .r [(1, X (Xl rectT e.merge))]] 536 (fun j => ([(9, VI (if 0 < (e.rows).length then newI e.rows else x.rows)), (11, VI (if 0 < (e.cols).length then newI e.cols else x.cols)), (73, .t (.agg [TL 4 rectT e.split, TL 4 rectT e.merge])), (74, VI 1), (77, VL 4 rectT e.merge), (78, VI (e.merge.length : Int)), (79, VI (j : Int))], [])) (fun j => j ≤ (e.merge).length) (fun j => (e.merge).length - j) (0 : Nat) ?_ ?_
     ·
      (try dsimp only); omega
     rintro j I21 ih21
     try dsimp only at I21
     refine .br [.r []] (decide ((j : Int) < (e.merge.length : Int))) (fun h21 => ?_) (fun h21 => ?_)
     ·
      (try simp only [decide_eq_true_eq, decide_eq_false_iff_not, Int.not_lt, Int.not_le] at h21)
      have hin : insB ((e.merge).getD j default) (if 0 < (e.rows).length then newI e.rows else x.rows) (if 0 < (e.cols).length then newI e.cols else x.cols) = true := by first | exact f4 _ (getDX_mem (by omega)) | exact f5 _ (getDX_mem (by omega))
      refine .br [.r [(0, X (Xi rectT e.merge (j : Int)))], .r [(3, X (Xc0 (fc_inside ((e.merge.getD j default)) (if 0 < (e.rows).length then newI e.rows else x.rows) (if 0 < (e.cols).length then newI e.cols else x.cols) (by omega)) X0))]] (!(insB ((e.merge.getD j default)) (if 0 < (e.rows).length then newI e.rows else x.rows) (if 0 < (e.cols).length then newI e.cols else x.cols))) (fun h23 => ?_) (fun h23 => ?_)
      ·
       (try simp only [Bool.not_eq_true', Bool.not_eq_false'] at h23)
       exfalso
       rw [hin] at h23; cases h23
      ·
       (try simp only [Bool.not_eq_true', Bool.not_eq_false'] at h23)
       refine .back [.r [(0, X (Xn ((j : Int) + 1)))]] [] (ih21 ((j + 1) : Nat) ?_ ?_)
       ·
        (try dsimp only); omega
       ·
        ((try dsimp only); omega)
     ·
      (try simp only [decide_eq_true_eq, decide_eq_false_iff_not, Int.not_lt, Int.not_le] at h21)
      have e1 : ((nwS x.rows e.rows) : Int) = (if 0 < (e.rows).length then newI e.rows else x.rows) := by
       rfl
      have e2 : ((nwS x.cols e.cols) : Int) = (if 0 < (e.cols).length then newI e.cols else x.cols) := by
       rfl
      exact .finE [.r [], .u, .r [], .f, .r []] [] (fun (z0, z1) => (.tup [VI z0, VI z1, VI 0], [])) (((if 0 < (e.rows).length then newI e.rows else x.rows) : Int), ((if 0 < (e.cols).length then newI e.cols else x.cols) : Int)) (((nwS x.rows e.rows) : Int), ((nwS x.cols e.cols) : Int)) (pr e1 e2)
end Go.Ch
end
section
set_option linter.unusedVariables false
namespace Go.Ch
open Go Go.Ab

theorem idxF_spec {α : Type} [Inhabited α] (p : α → Bool) {l : List α} : ∀ (n i : Nat), l.length - i = n → (idxF p l i = -1 ∧ (∀ j, i ≤ j → j < l.length → p (l.getD j default) = false)) ∨
    ∃ k : Nat, idxF p l i = (k : Int) ∧ i ≤ k ∧ k < l.length ∧ p (l.getD k default) = true ∧ ∀ j, i ≤ j → j < k → p (l.getD j default) = false
  | 0, i, h => by rw [idxF, if_neg (by omega)]; exact .inl ⟨rfl, fun j h1 h2 => by omega⟩
  | n + 1, i, h => by
    have hi : i < l.length := by omega
    rw [idxF, if_pos hi]
    by_cases hp : p (l.getD i default) = true
    · rw [if_pos hp]; exact .inr ⟨i, rfl, Nat.le_refl _, hi, hp, fun j h1 h2 => by omega⟩
    · rw [if_neg hp]
      rcases idxF_spec p (l := l) n (i + 1) (by omega) with ⟨e, q⟩ | ⟨k, e, k1, k2, k3, k4⟩
      · refine .inl ⟨e, fun j h1 h2 => ?_⟩
        by_cases ej : i = j
        · rw [← ej]; simpa using hp
        · exact q j (by omega) h2
      · refine .inr ⟨k, e, by omega, k2, k3, fun j h1 h2 => ?_⟩
        by_cases ej : i = j
        · rw [← ej]; simpa using hp
        · exact k4 j (by omega) h2
def delL {α : Type} (p : α → Bool) (l : List α) : List α := l.filter (fun q => !p q)
theorem filt_all {α : Type} [Inhabited α] {p : α → Bool} {l : List α} (h : ∀ j, 0 ≤ j → j < l.length → p (l.getD j default) = false) : delL p l = l := by
  unfold delL
  rw [List.filter_eq_self]
  intro q hq
  obtain ⟨j, hj, rfl⟩ := mem_getDX hq
  rw [h j (by omega) hj]; rfl
/-- What the loop of DeleteFunc keeps. -/
structure DelI {α : Type} [Inhabited α] (p : α → Bool) (l o : List α) (i j : Nat) : Prop where
  len : o.length = l.length
  lt : i < j
  le : j ≤ l.length
  tk : o.take i = delL p (l.take j)
  dr : o.drop j = l.drop j
theorem DelI.start {α : Type} [Inhabited α] {p : α → Bool} {l : List α} {k : Nat} (h1 : k < l.length) (h2 : p (l.getD k default) = true) (h3 : ∀ j, 0 ≤ j → j < k → p (l.getD j default) = false) : DelI p l l k (k + 1) := by
  refine ⟨rfl, by omega, by omega, ?_, rfl⟩
  unfold delL
  rw [filt_succ _ h1, if_neg (by rw [h2]; decide), List.append_nil]
  symm
  rw [List.filter_eq_self]
  intro q hq
  obtain ⟨j, hj, rfl⟩ := mem_getDX hq
  rw [List.length_take] at hj
  rw [List.getD_eq_getElem?_getD, List.getElem?_take_of_lt (by omega), ← List.getD_eq_getElem?_getD, h3 j (by omega) (by omega)]; rfl
theorem DelI.at_ {α : Type} [Inhabited α] {p : α → Bool} {l o : List α} {i j : Nat} (h : DelI p l o i j) (hj : j < l.length) : o.getD j default = l.getD j default := by
  have e1 : o.drop j = o.getD j default :: o.drop (j + 1) := drop_succD (by have := h.len; omega)
  have e2 : l.drop j = l.getD j default :: l.drop (j + 1) := drop_succD hj
  have := h.dr
  rw [e1, e2] at this
  exact (List.cons.inj this).1
theorem DelI.skip {α : Type} [Inhabited α] {p : α → Bool} {l o : List α} {i j : Nat} (h : DelI p l o i j) (hj : j < l.length) (hp : p (o.getD j default) = true) : DelI p l o i (j + 1) := by
  have e := h.at_ hj
  rw [e] at hp
  refine ⟨h.len, by have := h.lt; omega, by omega, ?_, ?_⟩
  · rw [h.tk]; unfold delL; rw [filt_succ _ hj, if_neg (by rw [hp]; decide), List.append_nil]
  · have := congrArg (List.drop 1) h.dr
    rwa [List.drop_drop, List.drop_drop] at this
theorem DelI.keep {α : Type} [Inhabited α] {p : α → Bool} {l o : List α} {i j : Nat} (h : DelI p l o i j) (hj : j < l.length) (hp : p (o.getD j default) = false) : DelI p l (o.set i (o.getD j default)) (i + 1) (j + 1) := by
  have e := h.at_ hj
  have hlt := h.lt
  have hlen := h.len
  rw [e] at hp ⊢
  refine ⟨by rw [List.length_set]; exact hlen, by omega, by omega, ?_, ?_⟩
  · unfold delL
    rw [filt_succ _ hj, if_pos (by rw [hp]; rfl)]
    have : (o.set i (l.getD j default)).take (i + 1) = o.take i ++ [l.getD j default] := by
      rw [List.take_succ_eq_append_getElem (by rw [List.length_set]; omega), List.getElem_set_self, List.take_set_of_le (Nat.le_refl _)]
    rw [this, h.tk]; rfl
  · rw [List.drop_set_of_lt (by omega)]
    have := congrArg (List.drop 1) h.dr
    rwa [List.drop_drop, List.drop_drop] at this
theorem DelI.done {α : Type} [Inhabited α] {p : α → Bool} {l o : List α} {i j : Nat} (h : DelI p l o i j) (hj : ¬ j < l.length) : o.take i = delL p l := by
  rw [h.tk, List.take_of_length_le (by omega)]
theorem delL_len {α : Type} (p : α → Bool) (l : List α) : (delL p l).length ≤ l.length := List.length_filter_le _ _
end Go.Ch
end
section
set_option linter.unusedVariables false
set_option linter.unusedSimpArgs false
set_option maxRecDepth 100000
set_option maxHeartbeats 4000000
open Go Go.Proofs Go.Ab
namespace Go.Ch
theorem fc_idxF_rawR (l : List Rect) (a b c d : Int) (hn : l.length ≤ 100000000000) (hl : AllRB l) (hr : RB ⟨a, b, c, d⟩) : FC Tryz.prog 84 [.row 0 l.length, .fn 57 [.ptr 1 0]] (app emp [(0, OR 4 rectT l), (1, .box [VI a, VI b, VI c, VI d])]) (VI (idxF (fun q => meetB q ⟨a, b, c, d⟩) l 0)) (app emp [(0, OR 4 rectT l), (1, .box [VI a, VI b, VI c, VI d])]) := by
 refine .go Tryz.f84 ?_
 refine .loop (α := Nat) [.r [], .r []] 34 (fun i => ([(0, .row 0 l.length), (1, .fn 57 [.ptr 1 0]), (7, VI (l.length : Int)), (8, VI (i : Int))], [(0, OR 4 rectT l), (1, .box [VI a, VI b, VI c, VI d])])) (fun i => i ≤ l.length ∧ idxF (fun q => meetB q ⟨a, b, c, d⟩) l 0 = idxF (fun q => meetB q ⟨a, b, c, d⟩) l i) (fun i => l.length - i) (0 : Nat) ?_ ?_
 ·
  exact ⟨by omega, rfl⟩
 rintro i I2 ih2
 try dsimp only at I2
 refine .br [.r []] (decide ((i : Int) < (l.length : Int))) (fun h2 => ?_) (fun h2 => ?_)
 ·
  (try simp only [decide_eq_true_eq, decide_eq_false_iff_not, Int.not_lt, Int.not_le] at h2)
  have hm := hl _ (getDX_mem (l := l) (i := i) (by omega))
  refine .br [.r [], .r [(3, X (Xp rectT l (i : Int))), (4, X (Xe rectT l i)), (5, X (Xc3 98 [(0, 1)] (fc_raw1 ((l.getD i default)) a b c d (by assumption) (by assumption)) X0))]] (meetB ((l.getD i default)) ⟨a, b, c, d⟩) (fun h4 => ?_) (fun h4 => ?_)
  ·
   have e1 : ((idxF (fun q => meetB q ⟨a, b, c, d⟩) l 0) : Int) = (i : Int) := by
    rw [I2.2, idxF, if_pos (by omega), if_pos h4]
   exact .finE [.r []] [(0, 0), (1, 1)] (fun z0 => (VI z0, [(0, OR 4 rectT l), (1, .box [VI a, VI b, VI c, VI d])])) ((i : Int) : Int) ((idxF (fun q => meetB q ⟨a, b, c, d⟩) l 0) : Int) e1
  ·
   refine .back [.r [(0, X (Xn ((i : Int) + 1)))]] [(0, 0), (1, 1)] (ih2 ((i + 1) : Nat) ?_ ?_)
   ·
    refine ⟨by omega, ?_⟩
    rw [I2.2, idxF, if_pos (by omega), if_neg (by rw [h4]; decide)]
   ·
    ((try dsimp only); omega)
 ·
  (try simp only [decide_eq_true_eq, decide_eq_false_iff_not, Int.not_lt, Int.not_le] at h2)
  have e2 : ((idxF (fun q => meetB q ⟨a, b, c, d⟩) l 0) : Int) = -1 := by
   rw [I2.2, idxF, if_neg (by omega)]
  exact .finE [.r []] [(0, 0), (1, 1)] (fun z0 => (VI z0, [(0, OR 4 rectT l), (1, .box [VI a, VI b, VI c, VI d])])) (-1 : Int) ((idxF (fun q => meetB q ⟨a, b, c, d⟩) l 0) : Int) e2

theorem fc_delQ (l : List Rect) (a b c d : Int) (hn : l.length ≤ 100000000000) (hl : AllRB l) (hr : RB ⟨a, b, c, d⟩) : FC Tryz.prog 56 [.row 0 l.length, .fn 57 [.ptr 1 0]] (app emp [(0, OR 4 rectT l), (1, .box [VI a, VI b, VI c, VI d])]) (.row 2 ((delL (fun q => meetB q ⟨a, b, c, d⟩) l).length)) (app emp [(0, .gone), (1, .box [VI a, VI b, VI c, VI d]), (2, OR 4 rectT (delL (fun q => meetB q ⟨a, b, c, d⟩) l))]) := by
 refine .go Tryz.f56 ?_
 have sp := idxF_spec (fun q => meetB q ⟨a, b, c, d⟩) (l := l) _ 0 rfl
 refine .mid [.r []] ?_
 by_cases hd : 0 ≤ idxF (fun q => meetB q ⟨a, b, c, d⟩) l 0
 ·
  obtain ⟨k, hk, k1, k2, k3, k4⟩ := sp.resolve_left (fun q => by omega)
  refine .br [.r [(2, X (Xc4 [(0, 0), (1, 1)] (fc_idxF_rawR l a b c d (by omega) (by assumption) (by assumption)) X0))], .le (.eq 5 (VI (idxF (fun q => meetB q ⟨a, b, c, d⟩) l 0)) (VI (k : Int)) (.of_eq (by rw [hk]))), .r []] ((k : Int) == (-1)) (fun h2 => ?_) (fun h2 => ?_)
  ·
   (try simp only [beq_iff_eq, beq_eq_false_iff_ne, ne_eq] at h2)
   exfalso
   omega
  ·
   (try simp only [beq_iff_eq, beq_eq_false_iff_ne, ne_eq] at h2)
   refine .loop (α := Nat × Nat × (List Rect)) [.r [(1, X (Xn ((k : Int) + 1)))]] 82 (fun (i, j, o) => ([(0, .row 0 o.length), (1, .fn 57 [.ptr 1 0]), (5, VI (i : Int)), (6, VI (j : Int))], [(0, OR 4 rectT o), (1, .box [VI a, VI b, VI c, VI d])])) (fun (i, j, o) => DelI (fun q => meetB q ⟨a, b, c, d⟩) l o i j) (fun (i, j, o) => l.length - j) (k, (k + 1), l) ?_ ?_
   ·
    exact DelI.start k2 k3 k4
   rintro ⟨i, j, o⟩ I5 ih5
   replace I5 : DelI (fun q => meetB q ⟨a, b, c, d⟩) l o i j := I5
   have il := I5.len
   have ilt := I5.lt
   have ile := I5.le
   refine .br [.r []] (decide ((j : Int) < (o.length : Int))) (fun h5 => ?_) (fun h5 => ?_)
   ·
    (try simp only [decide_eq_true_eq, decide_eq_false_iff_not, Int.not_lt, Int.not_le] at h5)
    have hm : RB (o.getD j default) := by (rw [I5.at_ (by omega)]; exact hl _ (getDX_mem (by omega)))
    refine .br [.r [(2, X (Xp rectT o (j : Int))), (3, X (Xe rectT o j))], .r [(2, X (Xc3 178 [(0, 1)] (fc_raw1 ((o.getD j default)) a b c d (by assumption) (by assumption)) X0))]] (!(meetB ((o.getD j default)) ⟨a, b, c, d⟩)) (fun h8 => ?_) (fun h8 => ?_)
    ·
     (try simp only [Bool.not_eq_true', Bool.not_eq_false'] at h8)
     refine .back [.r [(3, X (Xp rectT o (i : Int))), (4, X (Xs 4 rectT 0 o i ((o.getD j default))))], .r [(1, X (Xn ((i : Int) + 1)))], .r [(1, X (Xn ((j : Int) + 1)))], .le (.eq 0 (.row 0 o.length) (.row 0 ((o.set i ((o.getD j default))).length)) (.of_eq (by simp only [List.length_set])))] [(0, 0), (1, 1)] (ih5 ((i + 1), (j + 1), (o.set i ((o.getD j default)))) ?_ ?_)
     ·
      exact I5.keep (by omega) h8
     ·
      ((try dsimp only); omega)
    ·
     (try simp only [Bool.not_eq_true', Bool.not_eq_false'] at h8)
     refine .back [.r [(1, X (Xn ((j : Int) + 1)))]] [(0, 0), (1, 1)] (ih5 (i, (j + 1), o) ?_ ?_)
     ·
      exact I5.skip (by omega) h8
     ·
      ((try dsimp only); omega)
   ·
    (try simp only [decide_eq_true_eq, decide_eq_false_iff_not, Int.not_lt, Int.not_le] at h5)
    have hdn := I5.done (by omega)
    have e1 : ((delL (fun q => meetB q ⟨a, b, c, d⟩) l) : List Rect) = (o.take i) := by
     first | exact hdn.symm | rw [hdn]
    have e2 : ((delL (fun q => meetB q ⟨a, b, c, d⟩) l).length : Nat) = (o.take i).length := by
     first | exact hdn.symm | rw [hdn]
    exact .finE [.r [(2, X (Xtl rectT o.length o (i : Int))), (3, X (Xclr rectT o.length i o))], .r [(2, X (Xcut' rectT 4 0 162 o.length i o (.agg [TI 0, TI 0, TI 0, TI 0]) (i : Int)))]] [(0, 0), (1, 1), (162, 2)] (fun (z0, z1) => (.row 2 z1, [(0, .gone), (1, .box [VI a, VI b, VI c, VI d]), (2, OR 4 rectT z0)])) (((o.take i) : List Rect), ((o.take i).length : Nat)) (((delL (fun q => meetB q ⟨a, b, c, d⟩) l) : List Rect), ((delL (fun q => meetB q ⟨a, b, c, d⟩) l).length : Nat)) (pr e1 e2)
 ·
  obtain ⟨hk, hall⟩ := sp.resolve_right (fun ⟨k, hk, q⟩ => by omega)
  have e3 : ((delL (fun q => meetB q ⟨a, b, c, d⟩) l) : List Rect) = l := by
   first | exact filt_all hall | rw [filt_all hall]
  have e4 : ((delL (fun q => meetB q ⟨a, b, c, d⟩) l).length : Nat) = l.length := by
   first | exact filt_all hall | rw [filt_all hall]
  exact .finE [.r [(2, X (Xc4 [(0, 0), (1, 1)] (fc_idxF_rawR l a b c d (by omega) (by assumption) (by assumption)) X0))], .le (.eq 5 (VI (idxF (fun q => meetB q ⟨a, b, c, d⟩) l 0)) (VI (-1)) (.of_eq (by rw [hk]))), .r [], .t, .le (.mv 0 l.length (List.map rectT l).length lm), .r []] [(0, 0), (1, 1), (58, 2)] (fun (z0, z1) => (.row 2 z1, [(0, .gone), (1, .box [VI a, VI b, VI c, VI d]), (2, OR 4 rectT z0)])) ((l : List Rect), (l.length : Nat)) (((delL (fun q => meetB q ⟨a, b, c, d⟩) l) : List Rect), ((delL (fun q => meetB q ⟨a, b, c, d⟩) l).length : Nat)) (pr e3 e4)
end Go.Ch
end
section
namespace Go.Ab
open Go Go.Proofs Go.RowKit Go.Shelf Go.Lib Go.Sort
open Go.Ch
set_option linter.unusedVariables false
set_option linter.unusedSimpArgs false

set_option maxHeartbeats 4000000 in
theorem compare_w (x y : Int) (W : World) : Calls Tryz.prog 62 #[.int .i64 x, .int .i64 y] W fun e w' => e = .returned (.int .i64 (cmpI x y)) ∧ w' = W := by
  have hcon := fun z W' => Tryz.cmp_isNaN_int2 z W'
  unfold cmpI
  by_cases h1 : x < y
  · rw [if_pos h1]
    go_enter Tryz.func62, Tryz.ntmps62
    go_wp2_with (go_at_call 87; refine (hcon _ _).mono ?_; rintro e w' ⟨rfl, rfl⟩)
    go_ret
    exact ⟨rfl, rfl⟩
  · rw [if_neg h1]
    by_cases h2 : x > y
    · rw [if_pos h2]
      go_enter Tryz.func62, Tryz.ntmps62
      go_wp2_with (go_at_call 87; refine (hcon _ _).mono ?_; rintro e w' ⟨rfl, rfl⟩)
      go_ret
      exact ⟨rfl, rfl⟩
    · rw [if_neg h2]
      go_enter Tryz.func62, Tryz.ntmps62
      go_wp2_with (go_at_call 87; refine (hcon _ _).mono ?_; rintro e w' ⟨rfl, rfl⟩)
      go_ret
      exact ⟨rfl, rfl⟩

set_option maxHeartbeats 8000000 in
theorem or_w (u v : Int) (B cap : Nat) (W : World) (h0 : W.cell? ⟨B, 0, none⟩ = some (.int .i64 u)) (h1 : W.cell? ⟨B, 1, none⟩ = some (.int .i64 v)) :
    Calls Tryz.prog 61 #[.slice (some ⟨B, 0, none⟩) 2 cap] W fun e w' => e = .returned (.int .i64 (Go.Ch.orL [u, v])) ∧ w' = W := by
  by_cases hu : u = 0
  · by_cases hv : v = 0
    · subst hu hv
      go_enter Tryz.func61, Tryz.ntmps61
      go_wp2
      go_rounds 3
      go_ret
      exact ⟨rfl, rfl⟩
    · subst hu
      have e : Go.Ch.orL [0, v] = v := by simp [Go.Ch.orL, hv]
      rw [e]
      clear e
      go_enter Tryz.func61, Tryz.ntmps61
      go_wp2
      go_rounds 3
      go_ret
      exact ⟨rfl, rfl⟩
  · have e : Go.Ch.orL [u, v] = u := by simp [Go.Ch.orL, hu]
    rw [e]
    clear e
    go_enter Tryz.func61, Tryz.ntmps61
    go_wp2
    go_rounds 3
    go_ret
    exact ⟨rfl, rfl⟩

theorem alloc_cell (W : World) (c : Array Value) (t : TypeId) (o : Nat) : (W.alloc (.cells c t)).cell? ⟨W.heap.size, o, none⟩ = c[o]? := by
  have h : (W.alloc (.cells c t)).heap[W.heap.size]? = some (.cells c t) := by (rw [alloc_eq_grow]; show (W.heap ++ #[.cells c t])[W.heap.size]? = _; simp)
  unfold World.cell?
  simp only [h]
  rfl
def encQ (r : Rect) : List Value := [.int .i64 r.row, .int .i64 r.col, .int .i64 r.h, .int .i64 r.w]
def cmpQ (a b : Rect) : Int := Go.Ch.orL [cmpI a.row b.row, cmpI a.col b.col]
set_option maxRecDepth 1000000 in
set_option maxHeartbeats 8000000 in
theorem raw2_w (x y : Rect) (W : World) : Calls Tryz.prog 60 #[.agg (encQ x).toArray, .agg (encQ y).toArray] W fun e w' => e = .returned (.int .i64 (cmpQ x y)) ∧ ∃ q os', w' = grow (W.drewN q) os' := by
  have hcmp := fun a b W' => compare_w a b W'
  unfold encQ cmpQ
  generalize x.row = x1
  generalize x.col = x2
  generalize x.h = x3
  generalize x.w = x4
  generalize y.row = y1
  generalize y.col = y2
  generalize y.h = y3
  generalize y.w = y4
  go_enter Tryz.func60, Tryz.ntmps60
  go_wp2_with (go_at_call 62; refine (hcmp _ _ _).mono ?_; rintro e w' ⟨rfl, rfl⟩)
  obtain ⟨OA, hA⟩ : ∃ o, Obj.cells #[Value.int .i64 x1, .int .i64 x2, .int .i64 x3, .int .i64 x4] 46 = o := ⟨_, rfl⟩
  obtain ⟨OB, hB⟩ : ∃ o, Obj.cells #[Value.int .i64 y1, .int .i64 y2, .int .i64 y3, .int .i64 y4] 46 = o := ⟨_, rfl⟩
  rw [hA, hB]
  refine wp_region_still_tail 10 (by kernel_rfl) (by kernel_rfl) ?_
  obtain ⟨W3, hW3⟩ : ∃ V, ((W.alloc OA).alloc OB).drew = V := ⟨_, rfl⟩
  have hg : W3 = grow (W.drewN 1) #[OA, OB] := by rw [← hW3, alloc_eq_grow, alloc_eq_grow, grow_grow]; rfl
  have p1 : W3.heap[W.heap.size]? = some OA := by rw [hg]; show (W.heap ++ #[OA, OB])[W.heap.size]? = _; simp
  have p2 : W3.heap[W.heap.size + 1]? = some OB := by rw [hg]; show (W.heap ++ #[OA, OB])[W.heap.size + 1]? = _; simp
  have c1 : W3.cell? ⟨W.heap.size, 0, none⟩ = some (.int .i64 x1) := by unfold World.cell?; simp only [p1]; rw [← hA]; rfl
  have c2 : W3.cell? ⟨W.heap.size, 1, none⟩ = some (.int .i64 x2) := by unfold World.cell?; simp only [p1]; rw [← hA]; rfl
  have c3 : W3.cell? ⟨W.heap.size + 1, 0, none⟩ = some (.int .i64 y1) := by unfold World.cell?; simp only [p2]; rw [← hB]; rfl
  have c4 : W3.cell? ⟨W.heap.size + 1, 1, none⟩ = some (.int .i64 y2) := by unfold World.cell?; simp only [p2]; rw [← hB]; rfl
  clear p1 p2
  have hx : ∃ q os, W3 = grow (W.drewN q) os := ⟨1, _, hg⟩
  clear hg
  change wpStill _ _ ((W.alloc OA).alloc OB).drew (fun a' => wpList _ _ _ _ a' ((W.alloc OA).alloc OB).drew) _ _
  rw [hW3]
  clear hW3 hA hB
  simp only [List.take_succ_cons, List.take_zero, List.drop_succ_cons, List.drop_zero]
  repeat still_step
  still_call (hcmp _ _ _)
  repeat still_step
  still_call (hcmp _ _ _)
  refine wpStill_nil ?_
  have hor : ∀ u v : Int, Calls Tryz.prog 61 #[.slice (some ⟨W3.heap.size, 0, none⟩) 2 2] (W3.alloc (.cells #[.int .i64 u, .int .i64 v] 3)) fun e w' => e = .returned (.int .i64 (Go.Ch.orL [u, v])) ∧ w' = W3.alloc (.cells #[.int .i64 u, .int .i64 v] 3) := fun u v =>
    or_w u v _ _ _ (alloc_cell _ _ _ 0) (alloc_cell _ _ _ 1)
  clear hcmp c1 c2 c3 c4
  go_wp2_with (go_at_call 61; refine (hor _ _).mono ?_; rintro e w' ⟨rfl, rfl⟩)
  clear hor
  go_ret
  obtain ⟨q, os, rfl⟩ := hx
  exact ⟨rfl, q, _, by rw [alloc_eq_grow, grow_grow]⟩
end Go.Ab
end
section
set_option linter.unusedVariables false
set_option linter.unusedSimpArgs false
namespace Go.Ch
open Go Go.Proofs Go.Ab Go.RowKit Go.Shelf Go.Sort

theorem cmpQ_def (a b : Rect) : cmpQ a b = if a.row < b.row then -1 else if a.row > b.row then 1 else if a.col < b.col then -1 else if a.col > b.col then 1 else 0 :=
  ordC_def ⟨a.row, a.col, { data := #[] }, 0, []⟩ ⟨b.row, b.col, { data := #[] }, 0, []⟩
theorem ltQ (a b : Rect) : ltOf cmpQ a b = befB a b := by
  unfold ltOf befB
  rw [cmpQ_def, Bool.eq_iff_iff]
  simp only [decide_eq_true_eq]
  repeat' split
  all_goals omega
theorem swoQ : SWO (ltOf cmpQ) where
  irrefl x := by rw [ltQ, bef_f]; omega
  trans x y z h1 h2 := by rw [ltQ, befB_iff] at *; omega
  ntrans x y z h1 h2 := by rw [ltQ, bef_f] at *; omega
def sortQ (l : List Rect) : List Rect := (pdq (ltOf cmpQ) l.toArray 0 l.toArray.size (Lib.bitLen l.toArray.size) true true).toList
theorem sortQ_spec (l : List Rect) : PermIn 0 l.toArray.size l.toArray (pdq (ltOf cmpQ) l.toArray 0 l.toArray.size (Lib.bitLen l.toArray.size) true true) ∧
    SortedIn (ltOf cmpQ) 0 l.toArray.size (pdq (ltOf cmpQ) l.toArray 0 l.toArray.size (Lib.bitLen l.toArray.size) true true) :=
  pdq_sorts (ltOf cmpQ) swoQ l.toArray 0 l.toArray.size (Lib.bitLen l.toArray.size) true true (Nat.zero_le _) (Nat.le_refl _) (Or.inl rfl)
theorem sortQ_perm (l : List Rect) : (sortQ l).Perm l := by
  obtain ⟨h1, h2, h3⟩ := (sortQ_spec l).1
  unfold sortQ
  generalize pdq (ltOf cmpQ) l.toArray 0 l.toArray.size (Lib.bitLen l.toArray.size) true true = d at *
  have e1 : d.extract 0 l.toArray.size = d := by rw [← h1]; exact Array.extract_size
  rw [e1, show l.toArray.extract 0 l.toArray.size = l.toArray from Array.extract_size] at h3
  simpa using h3
theorem sortQ_len (l : List Rect) : (sortQ l).length = l.length := (sortQ_perm l).length_eq
theorem sortQ_sorted (l : List Rect) : ∀ i j, i < j → j < l.length → befB ((sortQ l).getD j default) ((sortQ l).getD i default) = false := by
  have h := (sortQ_spec l).2
  have hl := sortQ_len l
  intro i j hi hj
  have := h i j (Nat.zero_le _) hi (by simpa using hj)
  rw [ltQ] at this
  unfold sortQ at *
  generalize pdq (ltOf cmpQ) l.toArray 0 l.toArray.size (Lib.bitLen l.toArray.size) true true = d at *
  have e : ∀ k, k < d.size → d[k]! = d.toList.getD k default := fun k hk => by
    rw [getElem!_pos d k hk, List.getD_eq_getElem?_getD, List.getElem?_eq_getElem (by simpa using hk)]; simp
  rw [Array.length_toList] at hl
  rwa [e j (by omega), e i (by omega)] at this
theorem flat_rect (l : List Rect) (t : Nat) (ht : t < l.length * 4) : (flat (l.map rectT))[t]? = some (.sc ((flatK encQ 4 l.toArray)[t]!)) := by
  have hi : t / 4 < l.length := by omega
  have h1 := flat_get (k := 4) (xs := l.map rectT) (i := t / 4) (X := rectT l[t / 4]) (fun x hx => by
    obtain ⟨r, _, rfl⟩ := List.mem_map.1 hx
    exact ⟨rfl, fun T hT => by simp only [rectT, Tree.cells, List.mem_cons, List.not_mem_nil, or_false] at hT; rcases hT with rfl | rfl | rfl | rfl <;> rfl⟩) (by rw [List.getElem?_map, List.getElem?_eq_getElem hi]; rfl) (j := t % 4) (by omega)
  rw [show t / 4 * 4 + t % 4 = t by omega] at h1
  rw [h1, get_flatK encQ 4 l.toArray t (by simpa using ht)]
  have e : l.toArray[t / 4]! = l[t / 4] := by rw [getElem!_pos l.toArray (t / 4) (by simpa using hi)]; simp
  rw [e]
  have h4 : t % 4 = 0 ∨ t % 4 = 1 ∨ t % 4 = 2 ∨ t % 4 = 3 := by omega
  rcases h4 with h | h | h | h <;> rw [h] <;> rfl

theorem grow_obj {P : Program} {F : Fen P} {S : Store} {m : Ab.Place} {w : World} (hS : SRel F S m w) (os : Array Obj) : SRel F S m (grow w os) ∧ FrameExt F S m w S m (grow w os) := by
  have hg : ∀ b, b < w.heap.size → (grow w os).heap[b]? = w.heap[b]? := fun b hb => by
    show (w.heap ++ os)[b]? = _
    rw [Array.getElem?_append_left hb]
  have hF : FrameExt F S m w S m (grow w os) := ⟨rfl, rfl, rfl, by show w.heap.size ≤ (w.heap ++ os).size; simp, fun b hb _ => hg b hb, fun id o h => ⟨o, h, Nat.le_refl _, fun _ => rfl, fun h => h, .inl rfl, o.same_refl⟩, fun id o h hn => by rw [h] at hn; cases hn⟩
  exact ⟨⟨fun id o h => (hS.objs id o h).persist hF (fun b hb => hg b (blk_lt hS h hb)), hS.inj, hS.avoid, fun b hb => Nat.lt_of_lt_of_le (hS.low b hb) hF.size, hS.held hF⟩, hF⟩
theorem upd_app (o o' : Ob) : upd (app emp [(0, o)]) 0 o' = app emp [(0, o')] := by
  funext i
  by_cases e : i = 0
  · subst e; rfl
  · rw [upd_ne e]
    show upd emp 0 o i = upd emp 0 o' i
    rw [upd_ne e, upd_ne e]
theorem mapB_at {w : World} {b : Nat} {c : Array Value} {e : TypeId} {fr : Nat × Nat} (f : Array Value → Array Value) (h : w.heap[b]? = some (.cells c e fr)) : (mapBlock w b f).heap[b]? = some (.cells (f c) e fr) := by
  unfold mapBlock
  simp only [Array.getElem?_modify, if_true, h]
  rfl
theorem mapB_ne {w : World} {b x : Nat} (f : Array Value → Array Value) (h : x ≠ b) : (mapBlock w b f).heap[x]? = w.heap[x]? := by
  unfold mapBlock
  simp only [Array.getElem?_modify]
  rw [if_neg (fun e => h e.symm)]

theorem fc_sortQ (l : List Rect) (hn : l.length ≤ 100000000000) : FC Tryz.prog 59 [.row 0 l.length, .fn 60 []] (app emp [(0, .row 4 false (l.map rectT))]) (.tup []) (app emp [(0, .row 4 false ((sortQ l).map rectT))]) := by
  intro F m w xs hS hl hv
  match xs, hl with
  | [x0, x1], _ =>
  have v0 := hv 0 _ _ rfl rfl
  have v1 := hv 1 _ _ rfl rfl
  have hs0 : app emp [(0, Ob.row 4 false (l.map rectT))] 0 = some (.row 4 false (l.map rectT)) := rfl
  obtain ⟨a1, a2, a3, a4, a5⟩ := hS.objs 0 _ hs0
  cases v1 with
  | fn _ _ us hlu _ =>
  obtain rfl : us = [] := List.length_eq_zero_iff.1 hlu
  cases v0 with
  | rowG _ _ L hs' => rw [hs0] at hs'; cases hs'
  | row _ _ k' fz' xs' L hs' hn' hu' =>
  rw [hs0] at hs'; cases hs'
  have hL := hu' (by simp)
  rw [hL] at a3 a4 a5
  rcases a5 with ⟨q1, q2⟩ | ⟨b, us, e, h1, h2, h3, h4, h5⟩
  · obtain ⟨L1, L2⟩ := L
    simp only at q1 q2
    subst q1 q2
    obtain rfl : l = [] := List.length_eq_zero_iff.1 (by have a3' : (List.map rectT l).length ≤ 0 := a3; rw [List.length_map] at a3'; omega)
    have key := AnyF.slices_SortFunc_none Tryz.sortQ none 0 (.func (.func 60) #[] #[]) w
    change Calls Tryz.prog 59 _ _ _ at key
    have e2 : sortQ [] = [] := List.length_eq_zero_iff.1 (sortQ_len [])
    refine key.mono ?_
    rintro e' w' ⟨rfl, rfl⟩
    rw [e2]
    exact ⟨_, m, rfl, hS, FrameExt.refl F _ m _, .tup [] [] rfl (fun i v u hv => by simp at hv)⟩
  · have hb : b < w.heap.size := (Array.getElem?_eq_some_iff.1 h2).1
    have hsz : l.length * 4 ≤ us.size := by rw [h3]; simp at a3; omega
    have hcell : ∀ (W : World) (c : Array Value) (o : Nat), W.heap[b]? = some (.cells c e (0, 0)) → W.cell? ⟨b, o, none⟩ = c[o]? := fun W c o h => by
      unfold World.cell?; simp only [h]; rfl
    have hH : HoldsK encQ 4 w b 0 l.toArray := fun j hj => by
      rw [size_flatK] at hj
      have hj' : j < l.length * 4 := by simpa using hj
      have hT := flat_rect l j hj'
      have hu : us[j]? = some us[j] := Array.getElem?_eq_getElem (by omega)
      have := h5 j _ _ hT hu
      refine ⟨?_, ?_⟩
      · rw [hcell w us _ h2, Nat.zero_add, hu]
        generalize us[j] = u at *
        generalize (flatK encQ 4 l.toArray)[j]! = v at *
        cases this
        rfl
      · unfold World.frozen?; simp only [h2]; simp
    have hsize : (pdq (ltOf cmpQ) l.toArray 0 l.toArray.size (Lib.bitLen l.toArray.size) true true).size = l.length := by have := sortQ_len l; unfold sortQ at this; simpa using this
    have key := AnyQ.slices_SortFunc_eq (α := Rect) Tryz.sortQ 4 Tryz.isAgg46 Tryz.sizeOf46 encQ (fun _ => rfl) (fun x v hv => by simp only [encQ, List.mem_cons, List.not_mem_nil, or_false] at hv; rcases hv with rfl | rfl | rfl | rfl <;> rfl) cmpQ swoQ 60 #[] b 0 L.2 l.toArray w (enters_of Tryz.func60 (by kernel_rfl) rfl)
      (fun m' os' dk _ x y => raw2_w x y _) hH hb (by simp; omega)
    change Calls Tryz.prog 59 _ _ _ at key
    obtain ⟨L1, L2⟩ := L
    simp only at h1
    subst h1
    have ea : (#[Value.slice (some ⟨b, 0, none⟩) l.toArray.size L2, .func (.func 60) #[] #[]] : Array Value) = [rowVal (some b, L2) l.length, .func (.func 60) #[] [].toArray].toArray := by simp [rowVal]
    rw [ea] at key
    refine key.mono ?_
    rintro e' w' ⟨rfl, n, os, rfl⟩
    unfold sortWorldK
    generalize hD : pdq (ltOf cmpQ) l.toArray 0 l.toArray.size (Lib.bitLen l.toArray.size) true true = D at *
    have hDl : D.toList = sortQ l := by unfold sortQ; rw [hD]
    have hDa : D = (sortQ l).toArray := by rw [← hDl]
    have hlen := sortQ_len l
    have hblk : (putRowK encQ 4 (Sort.ahead w n) b 0 D).heap[b]? = some (.cells (putCells id 0 (flatK encQ 4 D) us) e (0, 0)) := mapB_at _ h2
    have hE : ∀ x ∈ (sortQ l).map rectT, Elt 4 x := fun x hx => by
      obtain ⟨r, _, rfl⟩ := List.mem_map.1 hx
      exact ⟨rfl, fun T hT => by simp only [rectT, Tree.cells, List.mem_cons, List.not_mem_nil, or_false] at hT; rcases hT with rfl | rfl | rfl | rfl <;> rfl⟩
    have hone : ∀ j, j < D.size * 4 → ((flatK encQ 4 D)[j]!).oneCell' = true := fun j hj => by
      rw [get_flatK encQ 4 D j hj]
      have h4 : j % 4 = 0 ∨ j % 4 = 1 ∨ j % 4 = 2 ∨ j % 4 = 3 := by omega
      rcases h4 with h | h | h | h <;> rw [h] <;> rfl
    have hcu : ∀ (j : Nat) (u : Value), (putCells id 0 (flatK encQ 4 D) us)[j]? = some u → (j < D.size * 4 ∧ u = (flatK encQ 4 D)[j]!) ∨ (us[j]? = some u) := fun j u hu => by
      unfold putCells at hu
      rw [Array.getElem?_mapIdx, Option.map_eq_some_iff] at hu
      obtain ⟨x, hx, hxu⟩ := hu
      rw [size_flatK] at hxu
      split at hxu
      · rename_i hc
        exact .inl ⟨by omega, by rw [← hxu]; rfl⟩
      · exact .inr (by rw [hx, hxu])
    have r := rewrite_obj (o' := .row 4 false ((sortQ l).map rectT)) hS hs0 rfl (by rw [hL]) (w' := putRowK encQ 4 (Sort.ahead w n) b 0 D) rfl rfl rfl
      (by show (w.heap.modify b _).size = _; simp) (fun c hc => mapB_ne (w := Sort.ahead w n) _ hc) (by simp only [Ob.len, List.length_map]; omega) (by simp [Ob.same]) (fun hF => by
        rw [hL]
        refine ⟨a1, hE, by simp only [List.length_map] at a3 ⊢; omega, a4, .inr ⟨b, _, e, rfl, hblk, ?_, fun j u hu => ?_, fun j T u hT hu => ?_⟩⟩
        · unfold putCells; rw [Array.size_mapIdx]; exact h3
        · rcases hcu j u hu with ⟨hj, rfl⟩ | hu
          · exact hone j hj
          · exact h4 j u hu
        · have hj : j < (sortQ l).length * 4 := by
            have := (List.getElem?_eq_some_iff.1 hT).1
            rw [flat_len hE, List.length_map] at this; exact this
          rw [flat_rect _ j hj] at hT
          cases hT
          have hu2 : u = (flatK encQ 4 D)[j]! := by
            unfold putCells at hu
            rw [Array.getElem?_mapIdx, Option.map_eq_some_iff] at hu
            obtain ⟨x, hx, hxu⟩ := hu
            rw [if_pos ⟨Nat.zero_le _, by rw [size_flatK, hDa]; simpa using hj⟩] at hxu
            rw [← hxu]; rfl
          rw [hu2, hDa]
          exact .sc _ (by rw [← hDa]; exact hone j (by rw [hDa]; simpa using hj)))
    rw [upd_app] at r
    obtain ⟨g1, g2⟩ := grow_obj r.1 os
    exact ⟨_, m, rfl, g1, FrameExt.trans hS r.2 g2, .tup [] [] rfl (fun i v u hv => by simp at hv)⟩
end Go.Ch
end
section
set_option linter.unusedVariables false
namespace Go.Ch
open Go Go.Ab

def keepO (rows cols : List AxStep) (split : List Rect) (r : Rect) : Option Rect := if thrB (thrR r rows cols) = true ∧ hasQ split (thrR r rows cols) = false then some (thrR r rows cols) else none
def keepQ (l : List Rect) (rows cols : List AxStep) (split : List Rect) : List Rect := l.filterMap (keepO rows cols split)
theorem keepQ_succ {l : List Rect} {rows cols : List AxStep} {split : List Rect} {i : Nat} (h : i < l.length) : keepQ (l.take (i + 1)) rows cols split = keepQ (l.take i) rows cols split ++
    (if thrB (thrR (l.getD i default) rows cols) = true ∧ hasQ split (thrR (l.getD i default) rows cols) = false then [thrR (l.getD i default) rows cols] else []) := by
  unfold keepQ
  rw [take_succD h, List.filterMap_append]
  congr 1
  rw [List.filterMap_cons, List.filterMap_nil]
  unfold keepO
  by_cases h : thrB (thrR (l.getD i default) rows cols) = true ∧ hasQ split (thrR (l.getD i default) rows cols) = false
  · rw [if_pos h, if_pos h]
  · rw [if_neg h, if_neg h]
theorem keepQ_len (l : List Rect) (rows cols : List AxStep) (split : List Rect) : (keepQ l rows cols split).length ≤ l.length := List.length_filterMap_le _ _
theorem thrR_RB {r : Rect} {rows cols : List AxStep} (h : QIn rows cols r) : RB (thrR r rows cols) := by
  obtain ⟨hb, hr, hc⟩ := h
  unfold RB at hb ⊢
  unfold thrR
  by_cases c1 : 0 < rows.length <;> by_cases c2 : 0 < cols.length
  · obtain ⟨v1, w1⟩ := hr c1; obtain ⟨v2, w2⟩ := hc c2
    have b1 := hull_bd v1 w1; have b2 := hull_bd v2 w2
    simp only [if_pos c1, if_pos c2]; omega
  · obtain ⟨v1, w1⟩ := hr c1
    have b1 := hull_bd v1 w1
    simp only [if_pos c1, if_neg c2]; omega
  · obtain ⟨v2, w2⟩ := hc c2
    have b2 := hull_bd v2 w2
    simp only [if_neg c1, if_pos c2]; omega
  · simp only [if_neg c1, if_neg c2]; omega
def addQ (l : List Rect) (r : Rect) : List Rect := delL (fun q => meetB q r) l ++ [r]
theorem addQ_len (l : List Rect) (r : Rect) : (addQ l r).length ≤ l.length + 1 := by
  unfold addQ
  have := delL_len (fun q => meetB q r) l
  rw [List.length_append, List.length_singleton]; omega
theorem addQ_RB {l : List Rect} {r : Rect} (h : AllRB l) (hr : RB r) : AllRB (addQ l r) := fun q hq => by
  unfold addQ delL at hq
  rcases List.mem_append.1 hq with hq | hq
  · exact h q ((List.mem_filter.1 hq).1)
  · rw [List.mem_singleton.1 hq]; exact hr
theorem foldl_succ {α β : Type} [Inhabited α] (f : β → α → β) (b : β) {l : List α} {i : Nat} (h : i < l.length) : (l.take (i + 1)).foldl f b = f ((l.take i).foldl f b) (l.getD i default) := by
  rw [take_succD h, List.foldl_append]; rfl
theorem keepQ_RB {l : List Rect} {rows cols : List AxStep} {split : List Rect} (h : ∀ r ∈ l, QIn rows cols r) : AllRB (keepQ l rows cols split) := fun q hq => by
  unfold keepQ at hq
  obtain ⟨r, hr, he⟩ := List.mem_filterMap.1 hq
  unfold keepO at he
  split at he
  · cases he; exact thrR_RB (h r hr)
  · cases he
def rawGr (g : Grid) (e : GEd) : Grid := ⟨nwS g.rows e.rows, nwS g.cols e.cols, putL e.cells (movL g.cells e.rows e.cols), sortQ (e.merge.foldl addQ (keepQ g.merges e.rows e.cols e.split))⟩
/-- What Raw asks of its data. -/
structure RawIn (g : Grid) (e : GEd) : Prop where
  okr : 0 < e.rows.length → Valid e.rows
  okc : 0 < e.cols.length → Valid e.cols
  l1 : g.cells.length ≤ 10000000000
  l2 : e.cells.length ≤ 10000000000
  l3 : g.merges.length ≤ 10000000000
  l4 : e.merge.length ≤ 10000000000
  a1 : CAN 1000000000000 g.cells
  a2 : CAN 1000000000000 e.cells
  p1 : ∀ c ∈ g.cells, PIn e.rows c.row
  p2 : ∀ c ∈ g.cells, PIn e.cols c.col
  q : ∀ r ∈ g.merges, QIn e.rows e.cols r
  m : AllRB e.merge
def undoA (e : GEd) : GEd := ⟨undoX e.rows, undoX e.cols, [], [], []⟩
def undoE (g : Grid) (e : GEd) : GEd := backE (rawGr (rawGr g e) (undoA e)) g (undoX e.rows) (undoX e.cols)
/-- Data that fits, and that Raw can take. -/
structure AppIn (g : Grid) (e : GEd) : Prop where
  hg : gridE g = 0
  he : EdOk e
  hf : FitOk g e
  raw : RawIn g e
  l5 : e.split.length ≤ 10000000000
structure UndIn (g : Grid) (e : GEd) : Prop where
  app : AppIn g e
  raw : RawIn (rawGr g e) (undoA e)
  l1 : (rawGr (rawGr g e) (undoA e)).cells.length ≤ 100000000000
  l2 : (rawGr (rawGr g e) (undoA e)).merges.length ≤ 100000000000
  c1 : checkX (undoX e.rows) = 0
  c2 : checkX (undoX e.cols) = 0
/-! ### The search in a sorted list -/
def SortC (l : List Cell) : Prop := ∀ p q, p < q → q < l.length → ordC (l.getD p default) (l.getD q default) < 0
def lobC (l : List Cell) (t : Cell) : Nat := (l.takeWhile (fun c => decide (ordC c t < 0))).length
theorem lobC_all : ∀ (l : List Cell) (t : Cell), lobC l t ≤ l.length ∧ (∀ k, k < lobC l t → ordC (l.getD k default) t < 0) ∧ (lobC l t < l.length → ¬ ordC (l.getD (lobC l t) default) t < 0)
  | [], t => ⟨Nat.le_refl _, fun k h => absurd h (Nat.not_lt_zero _), fun h => absurd h (Nat.lt_irrefl _)⟩
  | c :: l, t => by
    obtain ⟨h1, h2, h3⟩ := lobC_all l t
    by_cases hc : ordC c t < 0
    · have e : lobC (c :: l) t = lobC l t + 1 := by unfold lobC; rw [List.takeWhile_cons, if_pos (decide_eq_true hc)]; rfl
      rw [e]
      refine ⟨by simp only [List.length_cons]; omega, fun k hk => ?_, fun hk => ?_⟩
      · cases k with
        | zero => exact hc
        | succ k => exact h2 k (by omega)
      · exact h3 (by simp only [List.length_cons] at hk; omega)
    · have e : lobC (c :: l) t = 0 := by unfold lobC; rw [List.takeWhile_cons, if_neg (by simpa using hc)]; rfl
      rw [e]
      exact ⟨Nat.zero_le _, fun k h => absurd h (Nat.not_lt_zero _), fun _ => hc⟩
theorem lobC_lt {l : List Cell} {t : Cell} {m : Nat} (hs : SortC l) (hm : m < l.length) (h : ordC (l.getD m default) t < 0) : m < lobC l t := by
  obtain ⟨h1, h2, h3⟩ := lobC_all l t
  refine Classical.byContradiction fun hn => ?_
  have h4 := h3 (by omega)
  by_cases e : lobC l t = m
  · rw [e] at h4; exact h4 h
  · have h5 := hs (lobC l t) m (by omega) hm
    rw [ordC_lt] at h h5 h4
    omega
theorem lobC_ge {l : List Cell} {t : Cell} {m : Nat} (h : ¬ ordC (l.getD m default) t < 0) : lobC l t ≤ m := by
  obtain ⟨h1, h2, h3⟩ := lobC_all l t
  exact Classical.byContradiction fun hn => h (h2 m (by omega))
def hasC (l : List Cell) (t : Cell) : Bool := decide ((lobC l t : Int) < (l.length : Int)) && ((ordC (l.getD (lobC l t) default) t) == 0)
end Go.Ch
end
section
set_option linter.unusedVariables false
set_option linter.unusedSimpArgs false
set_option maxRecDepth 100000
set_option maxHeartbeats 4000000
open Go Go.Proofs Go.Ab
namespace Go.Ch
theorem fc_graw (x : Grid) (e : GEd) (hi : RawIn x e) : FC Tryz.prog 29 [.t (gridT x), .t (gedT e)] (app emp []) (.t (gridT (rawGr x e))) (app emp []) := by
 refine .go Tryz.f29 ?_
 obtain ⟨vr, vk, l1, l2, l3, l4, a1, a2, p1, p2, hq, hm⟩ := hi
 have hml := movL_len x.cells e.rows e.cols
 refine .loop (α := Nat × (List Rect)) [.r [], .r [(4, X (Xc0 (fc_axsize x.rows e.rows (by assumption)) X0))], .r [(4, X (Xc0 (fc_axsize x.cols e.cols (by assumption)) X0))], .r [(8, X (Xc1 248 (fc_moved x.cells e.rows e.cols (by omega) (by assumption) (by assumption) (by assumption)) X0)), (11, X (Xc1 272 (fc_gput (movL x.cells e.rows e.cols) e.cells (by omega) (by omega) (by assumption)) X0))], .le (.nB 288 3 4), .r [(2, X (Xl rectT x.merges))]] 337 (fun (i, om) => ([(3, .ptr 8 0), (4, .ptr 16 0), (9, .ptr 288 0), (46, VL 4 rectT x.merges), (47, VI (x.merges.length : Int)), (48, VI (i : Int))], [(8, .box [VL 2 stepT e.rows, VL 2 stepT e.cols, VL 5 cellT e.cells, VL 4 rectT e.split, VL 4 rectT e.merge]), (16, .box [VI 0, VI 0, VN, VN]), (288, .box [VI (if 0 < (e.rows).length then newI e.rows else x.rows), VI (if 0 < (e.cols).length then newI e.cols else x.cols), VL 5 cellT (putL e.cells (movL x.cells e.rows e.cols)), .row 304 om.length]), (304, OR 4 rectT om)])) (fun (i, om) => i ≤ x.merges.length ∧ om = (keepQ (x.merges.take i) e.rows e.cols e.split)) (fun (i, om) => x.merges.length - i) (0, []) ?_ ?_
 ·
  exact ⟨by omega, rfl⟩
 rintro ⟨i, om⟩ I5 ih5
 try dsimp only at I5
 have ol : om.length ≤ i := by (rw [I5.2]; have := keepQ_len (x.merges.take i) e.rows e.cols e.split; simp at this; omega)
 refine .br [.r []] (decide ((i : Int) < (x.merges.length : Int))) (fun h5 => ?_) (fun h5 => ?_)
 ·
  (try simp only [decide_eq_true_eq, decide_eq_false_iff_not, Int.not_lt, Int.not_le] at h5)
  obtain ⟨g1, g2, g3⟩ := hq _ (getDX_mem (l := x.merges) (i := i) (by omega))
  refine .br [.r [(0, X (Xi rectT x.merges (i : Int)))], .r [(5, X (Xc0 (fc_through ((x.merges.getD i default)) e.rows e.cols (by assumption) (by assumption) (by assumption)) X0))], .r [(3, Xv 1 (thrB (thrR ((x.merges.getD i default)) e.rows e.cols)) X0), (5, Xv 2 (thrB (thrR ((x.merges.getD i default)) e.rows e.cols)) (Xc0 (fc_hasQ e.split ((thrR ((x.merges.getD i default)) e.rows e.cols))) X0)), (6, Xv 1 (thrB (thrR ((x.merges.getD i default)) e.rows e.cols)) X0), (7, X (Xk (thrB (thrR ((x.merges.getD i default)) e.rows e.cols))))]] ((thrB (thrR ((x.merges.getD i default)) e.rows e.cols)) && !(hasQ e.split ((thrR ((x.merges.getD i default)) e.rows e.cols)))) (fun h8 => ?_) (fun h8 => ?_)
  ·
   (try simp only [Bool.not_eq_true', Bool.not_eq_false', Bool.and_eq_true, Bool.and_eq_false_iff] at h8)
   refine .back [.r [(4, X (rowC rectT [((thrR ((x.merges.getD i default)) e.rows e.cols))] (Xap 4 rectT 304 om [((thrR ((x.merges.getD i default)) e.rows e.cols))])))], .r [(0, X (Xn ((i : Int) + 1)))]] [(8, 8), (16, 16), (288, 288), (304, 304)] (ih5 ((i + 1), (om ++ [((thrR ((x.merges.getD i default)) e.rows e.cols))])) ?_ ?_)
   ·
    refine ⟨by omega, ?_⟩
    rw [I5.2, keepQ_succ (by omega), if_pos h8]
   ·
    ((try dsimp only); omega)
  ·
   (try simp only [Bool.not_eq_true', Bool.not_eq_false', Bool.and_eq_true, Bool.and_eq_false_iff] at h8)
   refine .back [.r [(0, X (Xn ((i : Int) + 1)))]] [(8, 8), (16, 16), (288, 288), (304, 304)] (ih5 ((i + 1), om) ?_ ?_)
   ·
    refine ⟨by omega, ?_⟩
    rw [I5.2, keepQ_succ (by omega), if_neg (fun q => by rcases h8 with h | h; (rw [q.1] at h; cases h); (rw [q.2] at h; cases h)), List.append_nil]
   ·
    ((try dsimp only); omega)
 ·
  (try simp only [decide_eq_true_eq, decide_eq_false_iff_not, Int.not_lt, Int.not_le] at h5)
  refine .loop (α := Nat × (List Rect)) [.r [(2, X (Xl rectT e.merge))]] 377 (fun (j, on) => ([(4, .ptr 16 0), (9, .ptr 288 0), (77, VL 4 rectT e.merge), (78, VI (e.merge.length : Int)), (79, VI (j : Int))], [(16, .box [VI 0, VI 0, VN, VN]), (288, .box [VI (if 0 < (e.rows).length then newI e.rows else x.rows), VI (if 0 < (e.cols).length then newI e.cols else x.cols), VL 5 cellT (putL e.cells (movL x.cells e.rows e.cols)), .row 304 on.length]), (304, OR 4 rectT on)])) (fun (j, on) => j ≤ e.merge.length ∧ on = (e.merge.take j).foldl addQ (keepQ x.merges e.rows e.cols e.split) ∧ on.length ≤ x.merges.length + j ∧ AllRB on) (fun (j, on) => e.merge.length - j) (0, om) ?_ ?_
  ·
   exact ⟨by omega, by (rw [I5.2, List.take_of_length_le (by omega)]; rfl), by omega, by (rw [I5.2]; exact keepQ_RB (fun r hr => hq r (List.mem_of_mem_take hr)))⟩
  rintro ⟨j, on⟩ I12 ih12
  try dsimp only at I12
  have onl := I12.2.2.1
  have onb := I12.2.2.2
  refine .br [.r []] (decide ((j : Int) < (e.merge.length : Int))) (fun h12 => ?_) (fun h12 => ?_)
  ·
   (try simp only [decide_eq_true_eq, decide_eq_false_iff_not, Int.not_lt, Int.not_le] at h12)
   have hm1 : RB (e.merge.getD j default) := hm _ (getDX_mem (by omega))
   have hd : (delL (fun q => meetB q ⟨(e.merge.getD j default).row, (e.merge.getD j default).col, (e.merge.getD j default).h, (e.merge.getD j default).w⟩) on).length ≤ on.length := delL_len _ on
   have hd2 := addQ_len on (e.merge.getD j default)
   refine .back [.r [(0, X (Xi rectT e.merge (j : Int)))], .r [(3, X (Xc3 441 [(0, 304), (1, 401)] (fc_delQ on (((e.merge.getD j default)).row) (((e.merge.getD j default)).col) (((e.merge.getD j default)).h) (((e.merge.getD j default)).w) (by omega) (by assumption) (by assumption)) X0))], .r [(4, X (rowC rectT [({ row := (((e.merge.getD j default)).row), col := (((e.merge.getD j default)).col), h := (((e.merge.getD j default)).h), w := (((e.merge.getD j default)).w) } : Rect)] (Xap 4 rectT 441 (delL (fun q => meetB q ⟨(((e.merge.getD j default)).row), (((e.merge.getD j default)).col), (((e.merge.getD j default)).h), (((e.merge.getD j default)).w)⟩) on) [({ row := (((e.merge.getD j default)).row), col := (((e.merge.getD j default)).col), h := (((e.merge.getD j default)).h), w := (((e.merge.getD j default)).w) } : Rect)])) (by simp only [List.length_cons, List.length_nil]; omega))], .r [(0, X (Xn ((j : Int) + 1)))]] [(16, 16), (288, 288), (441, 304)] (ih12 ((j + 1), ((delL (fun q => meetB q ⟨(((e.merge.getD j default)).row), (((e.merge.getD j default)).col), (((e.merge.getD j default)).h), (((e.merge.getD j default)).w)⟩) on) ++ [({ row := (((e.merge.getD j default)).row), col := (((e.merge.getD j default)).col), h := (((e.merge.getD j default)).h), w := (((e.merge.getD j default)).w) } : Rect)])) ?_ ?_)
   ·
    exact ⟨by omega, by (rw [foldl_succ _ _ (by omega), ← I12.2.1]; rfl), Nat.le_trans hd2 (by omega), addQ_RB onb hm1⟩
   ·
    ((try dsimp only); omega)
  ·
   (try simp only [decide_eq_true_eq, decide_eq_false_iff_not, Int.not_lt, Int.not_le] at h12)
   have hsl : on.length = (sortQ on).length := (sortQ_len on).symm
   have q1 : on = e.merge.foldl addQ (keepQ x.merges e.rows e.cols e.split) := by rw [I12.2.1, List.take_of_length_le (by omega)]
   have e1 : ((rawGr x e) : Grid) = ({ rows := (if 0 < (e.rows).length then newI e.rows else x.rows), cols := (if 0 < (e.cols).length then newI e.cols else x.cols), cells := (putL e.cells (movL x.cells e.rows e.cols)), merges := (sortQ on) } : Grid) := by
    unfold rawGr; rw [q1]; rfl
   exact .finVE [.r [(2, X (Xc3 401 [(0, 304)] (fc_sortQ on (by omega)) X0))], .r []] [.fR 0 [(on.length : Nat) = (List.map rectT (sortQ on)).length] ⟨lm, trivial⟩] [] (fun z0 => (.t (gridT z0), [])) (({ rows := (if 0 < (e.rows).length then newI e.rows else x.rows), cols := (if 0 < (e.cols).length then newI e.cols else x.cols), cells := (putL e.cells (movL x.cells e.rows e.cols)), merges := (sortQ on) } : Grid) : Grid) ((rawGr x e) : Grid) e1
end Go.Ch
end
