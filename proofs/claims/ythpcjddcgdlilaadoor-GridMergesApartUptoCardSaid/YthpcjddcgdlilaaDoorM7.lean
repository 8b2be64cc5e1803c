/- Parts of the proof: ChGrid10, ChGrid11, GridPlain5, ChGrid12, GridSort0, GridSort, GridPlain6, ChGrid13, ChGrid14, ChGrid15, GridPlain7, ChGrid16, GridPlain8, ChGrid17, ChGrid18, GridPlain9, ChGrid19, GridCells, DeltaPlain, DeltaWrite, DeltaFold, DeltaUndo, DeltaAct, DeltaChange, DeltaAxis, GridMove. -/
import Derived.Test.YthpcjddcgdlilaaDoorM1
import Derived.Test.YthpcjddcgdlilaaDoorM2
import Derived.Test.YthpcjddcgdlilaaDoorM3
import Derived.Test.YthpcjddcgdlilaaDoorM4
import Derived.Test.YthpcjddcgdlilaaDoorM5
import Derived.Test.YthpcjddcgdlilaaDoorM6
import Derived.WalkKit
import Derived.WalkMore
import Derived.Handy
import Derived.StillTailTactics
import Derived.Shelf.SlSortCmp.WholeK
import Derived.Shelf.SlSortCmp.NoneTotal
section
set_option linter.unusedVariables false
set_option linter.unusedSimpArgs false
set_option maxRecDepth 100000
set_option maxHeartbeats 4000000
open Go Go.Proofs Go.Ab
namespace Go.Ch
theorem fc_checkEdit (e : GEd) (le : e.cells.length ≤ 100000000000 ∧ e.split.length ≤ 100000000000 ∧ e.merge.length ≤ 100000000000) (he : EdOk e) : FC Tryd.prog 27 [.t (gedT e)] (app emp []) (VI 0) (app emp []) := by
 refine .go Tryd.f27 ?_
 have hv1 := check_iff.2 he.okr
 have hv2 := check_iff.2 he.okc
 have hv3 := he.cells
 refine .br [.r [], .r [], .u, .r [], .t, .r [(0, X (Xa (Xc ((0:Int) ≤ 0)) (Xc ((0 : Int) < ((2 : Nat) : Int)))) ⟨by decide, by decide⟩)], .r [(1, X (Xc0 (fc_axCheck e.rows) X0))], .r []] ((checkX e.rows) != 0) (fun h5 => ?_) (fun h5 => ?_)
 ·
  (try simp only [bne_iff_ne, bne_eq_false_iff_eq, ne_eq] at h5)
  exfalso
  omega
 ·
  (try simp only [bne_iff_ne, bne_eq_false_iff_eq, ne_eq] at h5)
  refine .br [.r [], .u, .r [], .t, .r [(0, X (Xa (Xc ((0:Int) ≤ 1)) (Xc ((1 : Int) < ((2 : Nat) : Int)))) ⟨by decide, by decide⟩)], .r [(1, X (Xc0 (fc_axCheck e.cols) X0))], .r []] ((checkX e.cols) != 0) (fun h5 => ?_) (fun h5 => ?_)
  ·
   (try simp only [bne_iff_ne, bne_eq_false_iff_eq, ne_eq] at h5)
   exfalso
   omega
  ·
   (try simp only [bne_iff_ne, bne_eq_false_iff_eq, ne_eq] at h5)
   refine .br [.r [], .u, .r [], .f, .r [(2, X (Xc0 (fc_cells e.cells 2147483647 2147483647 true) X0))], .r []] ((cellsE e.cells 2147483647 2147483647 true 0) != 0) (fun h9 => ?_) (fun h9 => ?_)
   ·
    (try simp only [bne_iff_ne, bne_eq_false_iff_eq, ne_eq] at h9)
    exfalso
    omega
   ·
    (try simp only [bne_iff_ne, bne_eq_false_iff_eq, ne_eq] at h9)
    refine .loop (α := Nat) [.r [], .u, .r [], .t, .r [(1, X (Xa (Xc ((0:Int) ≤ 0)) (Xc ((0 : Int) < ((2 : Nat) : Int)))) ⟨by decide, by decide⟩)], .r [(1, X (Xl rectT e.split))]] 392 (fun j => ([(7, VI 0), (35, .t (.agg [TL 4 rectT e.split, TL 4 rectT e.merge])), (36, VI 0), (40, VL 4 rectT e.split), (41, VI (e.split.length : Int)), (42, VI (j : Int))], [])) (fun j => j ≤ (e.split).length) (fun j => (e.split).length - j) (0 : Nat) ?_ ?_
    ·
     (try dsimp only); omega
    rintro j I15 ih15
    try dsimp only at I15
    refine .br [.r []] (decide ((j : Int) < (e.split.length : Int))) (fun h15 => ?_) (fun h15 => ?_)
    ·
     (try simp only [decide_eq_true_eq, decide_eq_false_iff_not, Int.not_lt, Int.not_le] at h15)
     have hin : insB ((e.split).getD j default) 2147483647 2147483647 = true := by first | exact he.split _ (getDX_mem (by omega)) | exact (he.merge _ (getDX_mem (by omega))).1
     refine .br [.r [(0, X (Xi rectT e.split (j : Int)))], .r [(1, X (Xc0 (fc_inside ((e.split.getD j default)) 2147483647 2147483647 (by omega)) X0))]] (!(insB ((e.split.getD j default)) 2147483647 2147483647)) (fun h17 => ?_) (fun h17 => ?_)
     ·
      (try simp only [Bool.not_eq_true', Bool.not_eq_false'] at h17)
      exfalso
      rw [hin] at h17; cases h17
     ·
      (try simp only [Bool.not_eq_true', Bool.not_eq_false'] at h17)
      refine .br [.r [(4, Xv 1 false X0), (5, Xv 1 false X0), (6, X (Xk false)), (9, Xv 1 (false && ((((e.split.getD j default)).h) == 1)) X0), (10, Xv 1 (false && ((((e.split.getD j default)).h) == 1)) X0), (11, X (Xk (false && ((((e.split.getD j default)).h) == 1))))]] ((false && ((((e.split.getD j default)).h) == 1)) && ((((e.split.getD j default)).w) == 1)) (fun h19 => ?_) (fun h19 => ?_)
      ·
       (try simp only [Bool.and_eq_true, Bool.and_eq_false_iff, Bool.not_eq_true', Bool.not_eq_false', beq_iff_eq, beq_eq_false_iff_ne, ne_eq] at h19)
       exfalso
       first | (exact absurd h19.1.1 (by decide)) | (exact (he.merge _ (getDX_mem (l := e.merge) (i := j) (by omega))).2 ⟨by omega, by omega⟩)
      ·
       (try simp only [Bool.and_eq_true, Bool.and_eq_false_iff, Bool.not_eq_true', Bool.not_eq_false', beq_iff_eq, beq_eq_false_iff_ne, ne_eq] at h19)
       refine .back [.r [(0, X (Xn ((j : Int) + 1)))]] [] (ih15 ((j + 1) : Nat) ?_ ?_)
       ·
        (try dsimp only); omega
       ·
        ((try dsimp only); omega)
    ·
     (try simp only [decide_eq_true_eq, decide_eq_false_iff_not, Int.not_lt, Int.not_le] at h15)
     refine .loop (α := Nat) [.r [], .u, .r [], .t, .r [(1, X (Xa (Xc ((0:Int) ≤ 1)) (Xc ((1 : Int) < ((2 : Nat) : Int)))) ⟨by decide, by decide⟩)], .r [(1, X (Xl rectT e.merge))]] 480 (fun j => ([(7, VI 1), (35, .t (.agg [TL 4 rectT e.split, TL 4 rectT e.merge])), (36, VI 1), (40, VL 4 rectT e.merge), (41, VI (e.merge.length : Int)), (42, VI (j : Int))], [])) (fun j => j ≤ (e.merge).length) (fun j => (e.merge).length - j) (0 : Nat) ?_ ?_
     ·
      (try dsimp only); omega
     rintro j I15 ih15
     try dsimp only at I15
     refine .br [.r []] (decide ((j : Int) < (e.merge.length : Int))) (fun h15 => ?_) (fun h15 => ?_)
     ·
      (try simp only [decide_eq_true_eq, decide_eq_false_iff_not, Int.not_lt, Int.not_le] at h15)
      have hin : insB ((e.merge).getD j default) 2147483647 2147483647 = true := by first | exact he.split _ (getDX_mem (by omega)) | exact (he.merge _ (getDX_mem (by omega))).1
      refine .br [.r [(0, X (Xi rectT e.merge (j : Int)))], .r [(1, X (Xc0 (fc_inside ((e.merge.getD j default)) 2147483647 2147483647 (by omega)) X0))]] (!(insB ((e.merge.getD j default)) 2147483647 2147483647)) (fun h17 => ?_) (fun h17 => ?_)
      ·
       (try simp only [Bool.not_eq_true', Bool.not_eq_false'] at h17)
       exfalso
       rw [hin] at h17; cases h17
      ·
       (try simp only [Bool.not_eq_true', Bool.not_eq_false'] at h17)
       refine .br [.r [(4, Xv 1 true X0), (5, Xv 1 true X0), (6, X (Xk true)), (9, Xv 1 (true && ((((e.merge.getD j default)).h) == 1)) X0), (10, Xv 1 (true && ((((e.merge.getD j default)).h) == 1)) X0), (11, X (Xk (true && ((((e.merge.getD j default)).h) == 1))))]] ((true && ((((e.merge.getD j default)).h) == 1)) && ((((e.merge.getD j default)).w) == 1)) (fun h19 => ?_) (fun h19 => ?_)
       ·
        (try simp only [Bool.and_eq_true, Bool.and_eq_false_iff, Bool.not_eq_true', Bool.not_eq_false', beq_iff_eq, beq_eq_false_iff_ne, ne_eq] at h19)
        exfalso
        first | (exact absurd h19.1.1 (by decide)) | (exact (he.merge _ (getDX_mem (l := e.merge) (i := j) (by omega))).2 ⟨by omega, by omega⟩)
       ·
        (try simp only [Bool.and_eq_true, Bool.and_eq_false_iff, Bool.not_eq_true', Bool.not_eq_false', beq_iff_eq, beq_eq_false_iff_ne, ne_eq] at h19)
        refine .back [.r [(0, X (Xn ((j : Int) + 1)))]] [] (ih15 ((j + 1) : Nat) ?_ ?_)
        ·
         (try dsimp only); omega
        ·
         ((try dsimp only); omega)
     ·
      (try simp only [decide_eq_true_eq, decide_eq_false_iff_not, Int.not_lt, Int.not_le] at h15)
      exact .fin [.r [], .u, .r [], .f, .r []] []
end Go.Ch
end
section
set_option linter.unusedVariables false
set_option linter.unusedSimpArgs false
set_option maxRecDepth 100000
set_option maxHeartbeats 4000000
open Go Go.Proofs Go.Ab
namespace Go.Ch
theorem fc_fits (x : Grid) (e : GEd) (le : e.cells.length ≤ 100000000000 ∧ e.split.length ≤ 100000000000 ∧ e.merge.length ≤ 100000000000) (lm : x.merges.length ≤ 100000000000) (hx : gridE x = 0) (he : EdOk e) (hf : FitOk x e) : FC Tryd.prog 24 [.t (gridT x), .t (gedT e)] (app emp []) (.tup [VI (nwS x.rows e.rows), VI (nwS x.cols e.cols), VI 0]) (app emp []) := by
 refine .go Tryd.f24 ?_
 obtain ⟨f1, f2, f3, f4, f5⟩ := hf
 have hr := he.okr
 have hc := he.okc
 have hgb : 0 ≤ x.rows ∧ x.rows ≤ 2147483647 ∧ 0 ≤ x.cols ∧ x.cols ≤ 2147483647 := by (unfold gridE at hx; split at hx <;> omega)
 have nb1 := nwS_bd (n := x.rows) hr (by omega)
 have nb2 := nwS_bd (n := x.cols) hc (by omega)
 unfold nwS at nb1 nb2 f3 f4 f5
 refine .br [.r [], .r [(1, X (Xc0 (fc_gcheck x (by omega)) X0))], .r []] ((gridE x) != 0) (fun h2 => ?_) (fun h2 => ?_)
 ·
  (try simp only [bne_iff_ne, bne_eq_false_iff_eq, ne_eq] at h2)
  exfalso
  omega
 ·
  (try simp only [bne_iff_ne, bne_eq_false_iff_eq, ne_eq] at h2)
  refine .br [.r [(1, X (Xc0 (fc_checkEdit e (by assumption) (by assumption)) X0))], .r [], .f, .r [(4, X (Xc0 (fc_axsize x.rows e.rows (fun _ => hr)) X0))], .r [(4, X (Xc0 (fc_axsize x.cols e.cols (fun _ => hc)) X0))], .r [(4, Xv 1 (!(!(decide (0 < (e.rows).length → oldI e.rows = x.rows)))) X0), (5, X (Xk' (!(decide (0 < (e.rows).length → oldI e.rows = x.rows)))))]] (!(decide (0 < (e.rows).length → oldI e.rows = x.rows)) || !(decide (0 < (e.cols).length → oldI e.cols = x.cols))) (fun h9 => ?_) (fun h9 => ?_)
  ·
   (try simp only [decide_eq_true_eq, decide_eq_false_iff_not, Int.not_lt, Int.not_le, Bool.not_eq_true', Bool.not_eq_false', Bool.or_eq_true, Bool.or_eq_false_iff] at h9)
   exfalso
   rcases h9 with h | h; (exact h f1); (exact h f2)
  ·
   (try simp only [decide_eq_true_eq, decide_eq_false_iff_not, Int.not_lt, Int.not_le, Bool.not_eq_true', Bool.not_eq_false', Bool.or_eq_true, Bool.or_eq_false_iff] at h9)
   refine .loop (α := Nat) [.r [(2, X (Xl cellT e.cells))]] 360 (fun i => ([(3, .ptr 8 0), (9, VI (if 0 < (e.rows).length then newI e.rows else x.rows)), (11, VI (if 0 < (e.cols).length then newI e.cols else x.cols)), (52, VL 5 cellT e.cells), (53, VI (e.cells.length : Int)), (54, VI (i : Int))], [(8, .box [VL 2 stepT e.rows, VL 2 stepT e.cols, VL 5 cellT e.cells, VL 4 rectT e.split, VL 4 rectT e.merge])])) (fun i => i ≤ e.cells.length) (fun i => e.cells.length - i) (0 : Nat) ?_ ?_
   ·
    (try dsimp only); omega
   rintro i I12 ih12
   try dsimp only at I12
   refine .br [.r []] (decide ((i : Int) < (e.cells.length : Int))) (fun h12 => ?_) (fun h12 => ?_)
   ·
    (try simp only [decide_eq_true_eq, decide_eq_false_iff_not, Int.not_lt, Int.not_le] at h12)
    have hm := f3 _ (getDX_mem (l := e.cells) (i := i) (by omega))
    refine .br [.r [(0, X (Xi cellT e.cells (i : Int)))], .r [(6, Xv 1 (!(decide ((((e.cells.getD i default)).row) ≥ (if 0 < (e.rows).length then newI e.rows else x.rows)))) X0), (8, Xv 2 (!(decide ((((e.cells.getD i default)).row) ≥ (if 0 < (e.rows).length then newI e.rows else x.rows)))) X0), (9, X (Xk' (decide ((((e.cells.getD i default)).row) ≥ (if 0 < (e.rows).length then newI e.rows else x.rows)))))]] (decide ((((e.cells.getD i default)).row) ≥ (if 0 < (e.rows).length then newI e.rows else x.rows)) || decide ((((e.cells.getD i default)).col) ≥ (if 0 < (e.cols).length then newI e.cols else x.cols))) (fun h14 => ?_) (fun h14 => ?_)
    ·
     (try simp only [decide_eq_true_eq, decide_eq_false_iff_not, Int.not_lt, Int.not_le, ge_iff_le, Bool.or_eq_true, Bool.or_eq_false_iff] at h14)
     exfalso
     omega
    ·
     (try simp only [decide_eq_true_eq, decide_eq_false_iff_not, Int.not_lt, Int.not_le, ge_iff_le, Bool.or_eq_true, Bool.or_eq_false_iff] at h14)
     refine .back [.r [(0, X (Xn ((i : Int) + 1)))]] [(8, 8)] (ih12 ((i + 1) : Nat) ?_ ?_)
     ·
      (try dsimp only); omega
     ·
      ((try dsimp only); omega)
   ·
    (try simp only [decide_eq_true_eq, decide_eq_false_iff_not, Int.not_lt, Int.not_le] at h12)
    refine .loop (α := Nat) [.r [], .u, .r [], .t, .r [(0, X (Xa (Xc ((0:Int) ≤ 0)) (Xc ((0 : Int) < ((2 : Nat) : Int)))) ⟨by decide, by decide⟩)], .r [(1, X (Xl rectT e.split))]] 464 (fun j => ([(9, VI (if 0 < (e.rows).length then newI e.rows else x.rows)), (11, VI (if 0 < (e.cols).length then newI e.cols else x.cols)), (73, .t (.agg [TL 4 rectT e.split, TL 4 rectT e.merge])), (74, VI 0), (77, VL 4 rectT e.split), (78, VI (e.split.length : Int)), (79, VI (j : Int))], [])) (fun j => j ≤ (e.split).length) (fun j => (e.split).length - j) (0 : Nat) ?_ ?_
    ·
     (try dsimp only); omega
    rintro j I21 ih21
    try dsimp only at I21
    refine .br [.r []] (decide ((j : Int) < (e.split.length : Int))) (fun h21 => ?_) (fun h21 => ?_)
    ·
     (try simp only [decide_eq_true_eq, decide_eq_false_iff_not, Int.not_lt, Int.not_le] at h21)
     have hin : insB ((e.split).getD j default) (if 0 < (e.rows).length then newI e.rows else x.rows) (if 0 < (e.cols).length then newI e.cols else x.cols) = true := by first | exact f4 _ (getDX_mem (by omega)) | exact f5 _ (getDX_mem (by omega))
     refine .br [.r [(0, X (Xi rectT e.split (j : Int)))], .r [(3, X (Xc0 (fc_inside ((e.split.getD j default)) (if 0 < (e.rows).length then newI e.rows else x.rows) (if 0 < (e.cols).length then newI e.cols else x.cols) (by omega)) X0))]] (!(insB ((e.split.getD j default)) (if 0 < (e.rows).length then newI e.rows else x.rows) (if 0 < (e.cols).length then newI e.cols else x.cols))) (fun h23 => ?_) (fun h23 => ?_)
     ·
      (try simp only [Bool.not_eq_true', Bool.not_eq_false'] at h23)
      exfalso
      rw [hin] at h23; cases h23
     ·
      (try simp only [Bool.not_eq_true', Bool.not_eq_false'] at h23)
      refine .back [.r [(0, X (Xn ((j : Int) + 1)))]] [] (ih21 ((j + 1) : Nat) ?_ ?_)
      ·
       (try dsimp only); omega
      ·
       ((try dsimp only); omega)
    ·
     (try simp only [decide_eq_true_eq, decide_eq_false_iff_not, Int.not_lt, Int.not_le] at h21)
     refine .loop (α := Nat) [.r [], .u, .r [], .t, .r [(0, X (Xa (Xc ((0:Int) ≤ 1)) (Xc ((1 : Int) < ((2 : Nat) : Int)))) ⟨by decide, by decide⟩)], .r [(1, X (Xl rectT e.merge))]] 536 (fun j => ([(9, VI (if 0 < (e.rows).length then newI e.rows else x.rows)), (11, VI (if 0 < (e.cols).length then newI e.cols else x.cols)), (73, .t (.agg [TL 4 rectT e.split, TL 4 rectT e.merge])), (74, VI 1), (77, VL 4 rectT e.merge), (78, VI (e.merge.length : Int)), (79, VI (j : Int))], [])) (fun j => j ≤ (e.merge).length) (fun j => (e.merge).length - j) (0 : Nat) ?_ ?_
     ·
      (try dsimp only); omega
     rintro j I21 ih21
     try dsimp only at I21
     refine .br [.r []] (decide ((j : Int) < (e.merge.length : Int))) (fun h21 => ?_) (fun h21 => ?_)
     ·
      (try simp only [decide_eq_true_eq, decide_eq_false_iff_not, Int.not_lt, Int.not_le] at h21)
      have hin : insB ((e.merge).getD j default) (if 0 < (e.rows).length then newI e.rows else x.rows) (if 0 < (e.cols).length then newI e.cols else x.cols) = true := by first | exact f4 _ (getDX_mem (by omega)) | exact f5 _ (getDX_mem (by omega))
      refine .br [.r [(0, X (Xi rectT e.merge (j : Int)))], .r [(3, X (Xc0 (fc_inside ((e.merge.getD j default)) (if 0 < (e.rows).length then newI e.rows else x.rows) (if 0 < (e.cols).length then newI e.cols else x.cols) (by omega)) X0))]] (!(insB ((e.merge.getD j default)) (if 0 < (e.rows).length then newI e.rows else x.rows) (if 0 < (e.cols).length then newI e.cols else x.cols))) (fun h23 => ?_) (fun h23 => ?_)
      ·
       (try simp only [Bool.not_eq_true', Bool.not_eq_false'] at h23)
       exfalso
       rw [hin] at h23; cases h23
      ·
       (try simp only [Bool.not_eq_true', Bool.not_eq_false'] at h23)
       refine .back [.r [(0, X (Xn ((j : Int) + 1)))]] [] (ih21 ((j + 1) : Nat) ?_ ?_)
       ·
        (try dsimp only); omega
       ·
        ((try dsimp only); omega)
     ·
      (try simp only [decide_eq_true_eq, decide_eq_false_iff_not, Int.not_lt, Int.not_le] at h21)
      have e1 : ((nwS x.rows e.rows) : Int) = (if 0 < (e.rows).length then newI e.rows else x.rows) := by
       rfl
      have e2 : ((nwS x.cols e.cols) : Int) = (if 0 < (e.cols).length then newI e.cols else x.cols) := by
       rfl
      exact .finE [.r [], .u, .r [], .f, .r []] [] (fun (z0, z1) => (.tup [VI z0, VI z1, VI 0], [])) (((if 0 < (e.rows).length then newI e.rows else x.rows) : Int), ((if 0 < (e.cols).length then newI e.cols else x.cols) : Int)) (((nwS x.rows e.rows) : Int), ((nwS x.cols e.cols) : Int)) (pr e1 e2)
end Go.Ch
end
section
set_option linter.unusedVariables false
namespace Go.Ch
open Go Go.Ab

theorem idxF_spec {α : Type} [Inhabited α] (p : α → Bool) {l : List α} : ∀ (n i : Nat), l.length - i = n → (idxF p l i = -1 ∧ (∀ j, i ≤ j → j < l.length → p (l.getD j default) = false)) ∨
    ∃ k : Nat, idxF p l i = (k : Int) ∧ i ≤ k ∧ k < l.length ∧ p (l.getD k default) = true ∧ ∀ j, i ≤ j → j < k → p (l.getD j default) = false
  | 0, i, h => by rw [idxF, if_neg (by omega)]; exact .inl ⟨rfl, fun j h1 h2 => by omega⟩
  | n + 1, i, h => by
    have hi : i < l.length := by omega
    rw [idxF, if_pos hi]
    by_cases hp : p (l.getD i default) = true
    · rw [if_pos hp]; exact .inr ⟨i, rfl, Nat.le_refl _, hi, hp, fun j h1 h2 => by omega⟩
    · rw [if_neg hp]
      rcases idxF_spec p (l := l) n (i + 1) (by omega) with ⟨e, q⟩ | ⟨k, e, k1, k2, k3, k4⟩
      · refine .inl ⟨e, fun j h1 h2 => ?_⟩
        by_cases ej : i = j
        · rw [← ej]; simpa using hp
        · exact q j (by omega) h2
      · refine .inr ⟨k, e, by omega, k2, k3, fun j h1 h2 => ?_⟩
        by_cases ej : i = j
        · rw [← ej]; simpa using hp
        · exact k4 j (by omega) h2
def delL {α : Type} (p : α → Bool) (l : List α) : List α := l.filter (fun q => !p q)
theorem filt_all {α : Type} [Inhabited α] {p : α → Bool} {l : List α} (h : ∀ j, 0 ≤ j → j < l.length → p (l.getD j default) = false) : delL p l = l := by
  unfold delL
  rw [List.filter_eq_self]
  intro q hq
  obtain ⟨j, hj, rfl⟩ := mem_getDX hq
  rw [h j (by omega) hj]; rfl
/-- What the loop of DeleteFunc keeps. -/
structure DelI {α : Type} [Inhabited α] (p : α → Bool) (l o : List α) (i j : Nat) : Prop where
  len : o.length = l.length
  lt : i < j
  le : j ≤ l.length
  tk : o.take i = delL p (l.take j)
  dr : o.drop j = l.drop j
theorem DelI.start {α : Type} [Inhabited α] {p : α → Bool} {l : List α} {k : Nat} (h1 : k < l.length) (h2 : p (l.getD k default) = true) (h3 : ∀ j, 0 ≤ j → j < k → p (l.getD j default) = false) : DelI p l l k (k + 1) := by
  refine ⟨rfl, by omega, by omega, ?_, rfl⟩
  unfold delL
  rw [filt_succ _ h1, if_neg (by rw [h2]; decide), List.append_nil]
  symm
  rw [List.filter_eq_self]
  intro q hq
  obtain ⟨j, hj, rfl⟩ := mem_getDX hq
  rw [List.length_take] at hj
  rw [List.getD_eq_getElem?_getD, List.getElem?_take_of_lt (by omega), ← List.getD_eq_getElem?_getD, h3 j (by omega) (by omega)]; rfl
theorem DelI.at_ {α : Type} [Inhabited α] {p : α → Bool} {l o : List α} {i j : Nat} (h : DelI p l o i j) (hj : j < l.length) : o.getD j default = l.getD j default := by
  have e1 : o.drop j = o.getD j default :: o.drop (j + 1) := drop_succD (by have := h.len; omega)
  have e2 : l.drop j = l.getD j default :: l.drop (j + 1) := drop_succD hj
  have := h.dr
  rw [e1, e2] at this
  exact (List.cons.inj this).1
theorem DelI.skip {α : Type} [Inhabited α] {p : α → Bool} {l o : List α} {i j : Nat} (h : DelI p l o i j) (hj : j < l.length) (hp : p (o.getD j default) = true) : DelI p l o i (j + 1) := by
  have e := h.at_ hj
  rw [e] at hp
  refine ⟨h.len, by have := h.lt; omega, by omega, ?_, ?_⟩
  · rw [h.tk]; unfold delL; rw [filt_succ _ hj, if_neg (by rw [hp]; decide), List.append_nil]
  · have := congrArg (List.drop 1) h.dr
    rwa [List.drop_drop, List.drop_drop] at this
theorem DelI.keep {α : Type} [Inhabited α] {p : α → Bool} {l o : List α} {i j : Nat} (h : DelI p l o i j) (hj : j < l.length) (hp : p (o.getD j default) = false) : DelI p l (o.set i (o.getD j default)) (i + 1) (j + 1) := by
  have e := h.at_ hj
  have hlt := h.lt
  have hlen := h.len
  rw [e] at hp ⊢
  refine ⟨by rw [List.length_set]; exact hlen, by omega, by omega, ?_, ?_⟩
  · unfold delL
    rw [filt_succ _ hj, if_pos (by rw [hp]; rfl)]
    have : (o.set i (l.getD j default)).take (i + 1) = o.take i ++ [l.getD j default] := by
      rw [List.take_succ_eq_append_getElem (by rw [List.length_set]; omega), List.getElem_set_self, List.take_set_of_le (Nat.le_refl _)]
    rw [this, h.tk]; rfl
  · rw [List.drop_set_of_lt (by omega)]
    have := congrArg (List.drop 1) h.dr
    rwa [List.drop_drop, List.drop_drop] at this
theorem DelI.done {α : Type} [Inhabited α] {p : α → Bool} {l o : List α} {i j : Nat} (h : DelI p l o i j) (hj : ¬ j < l.length) : o.take i = delL p l := by
  rw [h.tk, List.take_of_length_le (by omega)]
theorem delL_len {α : Type} (p : α → Bool) (l : List α) : (delL p l).length ≤ l.length := List.length_filter_le _ _
end Go.Ch
end
section
set_option linter.unusedVariables false
set_option linter.unusedSimpArgs false
set_option maxRecDepth 100000
set_option maxHeartbeats 4000000
open Go Go.Proofs Go.Ab
namespace Go.Ch
theorem fc_idxF_rawR (l : List Rect) (a b c d : Int) (hn : l.length ≤ 100000000000) (hl : AllRB l) (hr : RB ⟨a, b, c, d⟩) : FC Tryd.prog 75 [.row 0 l.length, .fn 51 [.ptr 1 0]] (app emp [(0, OR 4 rectT l), (1, .box [VI a, VI b, VI c, VI d])]) (VI (idxF (fun q => meetB q ⟨a, b, c, d⟩) l 0)) (app emp [(0, OR 4 rectT l), (1, .box [VI a, VI b, VI c, VI d])]) := by
 refine .go Tryd.f75 ?_
 refine .loop (α := Nat) [.r [], .r []] 34 (fun i => ([(0, .row 0 l.length), (1, .fn 51 [.ptr 1 0]), (7, VI (l.length : Int)), (8, VI (i : Int))], [(0, OR 4 rectT l), (1, .box [VI a, VI b, VI c, VI d])])) (fun i => i ≤ l.length ∧ idxF (fun q => meetB q ⟨a, b, c, d⟩) l 0 = idxF (fun q => meetB q ⟨a, b, c, d⟩) l i) (fun i => l.length - i) (0 : Nat) ?_ ?_
 ·
  exact ⟨by omega, rfl⟩
 rintro i I2 ih2
 try dsimp only at I2
 refine .br [.r []] (decide ((i : Int) < (l.length : Int))) (fun h2 => ?_) (fun h2 => ?_)
 ·
  (try simp only [decide_eq_true_eq, decide_eq_false_iff_not, Int.not_lt, Int.not_le] at h2)
  have hm := hl _ (getDX_mem (l := l) (i := i) (by omega))
  refine .br [.r [], .r [(3, X (Xp rectT l (i : Int))), (4, X (Xe rectT l i)), (5, X (Xc3 98 [(0, 1)] (fc_raw1 ((l.getD i default)) a b c d (by assumption) (by assumption)) X0))]] (meetB ((l.getD i default)) ⟨a, b, c, d⟩) (fun h4 => ?_) (fun h4 => ?_)
  ·
   have e1 : ((idxF (fun q => meetB q ⟨a, b, c, d⟩) l 0) : Int) = (i : Int) := by
    rw [I2.2, idxF, if_pos (by omega), if_pos h4]
   exact .finE [.r []] [(0, 0), (1, 1)] (fun z0 => (VI z0, [(0, OR 4 rectT l), (1, .box [VI a, VI b, VI c, VI d])])) ((i : Int) : Int) ((idxF (fun q => meetB q ⟨a, b, c, d⟩) l 0) : Int) e1
  ·
   refine .back [.r [(0, X (Xn ((i : Int) + 1)))]] [(0, 0), (1, 1)] (ih2 ((i + 1) : Nat) ?_ ?_)
   ·
    refine ⟨by omega, ?_⟩
    rw [I2.2, idxF, if_pos (by omega), if_neg (by rw [h4]; decide)]
   ·
    ((try dsimp only); omega)
 ·
  (try simp only [decide_eq_true_eq, decide_eq_false_iff_not, Int.not_lt, Int.not_le] at h2)
  have e2 : ((idxF (fun q => meetB q ⟨a, b, c, d⟩) l 0) : Int) = -1 := by
   rw [I2.2, idxF, if_neg (by omega)]
  exact .finE [.r []] [(0, 0), (1, 1)] (fun z0 => (VI z0, [(0, OR 4 rectT l), (1, .box [VI a, VI b, VI c, VI d])])) (-1 : Int) ((idxF (fun q => meetB q ⟨a, b, c, d⟩) l 0) : Int) e2

theorem fc_delQ (l : List Rect) (a b c d : Int) (hn : l.length ≤ 100000000000) (hl : AllRB l) (hr : RB ⟨a, b, c, d⟩) : FC Tryd.prog 50 [.row 0 l.length, .fn 51 [.ptr 1 0]] (app emp [(0, OR 4 rectT l), (1, .box [VI a, VI b, VI c, VI d])]) (.row 2 ((delL (fun q => meetB q ⟨a, b, c, d⟩) l).length)) (app emp [(0, .gone), (1, .box [VI a, VI b, VI c, VI d]), (2, OR 4 rectT (delL (fun q => meetB q ⟨a, b, c, d⟩) l))]) := by
 refine .go Tryd.f50 ?_
 have sp := idxF_spec (fun q => meetB q ⟨a, b, c, d⟩) (l := l) _ 0 rfl
 refine .mid [.r []] ?_
 by_cases hd : 0 ≤ idxF (fun q => meetB q ⟨a, b, c, d⟩) l 0
 ·
  obtain ⟨k, hk, k1, k2, k3, k4⟩ := sp.resolve_left (fun q => by omega)
  refine .br [.r [(2, X (Xc4 [(0, 0), (1, 1)] (fc_idxF_rawR l a b c d (by omega) (by assumption) (by assumption)) X0))], .le (.eq 5 (VI (idxF (fun q => meetB q ⟨a, b, c, d⟩) l 0)) (VI (k : Int)) (.of_eq (by rw [hk]))), .r []] ((k : Int) == (-1)) (fun h2 => ?_) (fun h2 => ?_)
  ·
   (try simp only [beq_iff_eq, beq_eq_false_iff_ne, ne_eq] at h2)
   exfalso
   omega
  ·
   (try simp only [beq_iff_eq, beq_eq_false_iff_ne, ne_eq] at h2)
   refine .loop (α := Nat × Nat × (List Rect)) [.r [(1, X (Xn ((k : Int) + 1)))]] 82 (fun (i, j, o) => ([(0, .row 0 o.length), (1, .fn 51 [.ptr 1 0]), (5, VI (i : Int)), (6, VI (j : Int))], [(0, OR 4 rectT o), (1, .box [VI a, VI b, VI c, VI d])])) (fun (i, j, o) => DelI (fun q => meetB q ⟨a, b, c, d⟩) l o i j) (fun (i, j, o) => l.length - j) (k, (k + 1), l) ?_ ?_
   ·
    exact DelI.start k2 k3 k4
   rintro ⟨i, j, o⟩ I5 ih5
   replace I5 : DelI (fun q => meetB q ⟨a, b, c, d⟩) l o i j := I5
   have il := I5.len
   have ilt := I5.lt
   have ile := I5.le
   refine .br [.r []] (decide ((j : Int) < (o.length : Int))) (fun h5 => ?_) (fun h5 => ?_)
   ·
    (try simp only [decide_eq_true_eq, decide_eq_false_iff_not, Int.not_lt, Int.not_le] at h5)
    have hm : RB (o.getD j default) := by (rw [I5.at_ (by omega)]; exact hl _ (getDX_mem (by omega)))
    refine .br [.r [(2, X (Xp rectT o (j : Int))), (3, X (Xe rectT o j))], .r [(2, X (Xc3 178 [(0, 1)] (fc_raw1 ((o.getD j default)) a b c d (by assumption) (by assumption)) X0))]] (!(meetB ((o.getD j default)) ⟨a, b, c, d⟩)) (fun h8 => ?_) (fun h8 => ?_)
    ·
     (try simp only [Bool.not_eq_true', Bool.not_eq_false'] at h8)
     refine .back [.r [(3, X (Xp rectT o (i : Int))), (4, X (Xs 4 rectT 0 o i ((o.getD j default))))], .r [(1, X (Xn ((i : Int) + 1)))], .r [(1, X (Xn ((j : Int) + 1)))], .le (.eq 0 (.row 0 o.length) (.row 0 ((o.set i ((o.getD j default))).length)) (.of_eq (by simp only [List.length_set])))] [(0, 0), (1, 1)] (ih5 ((i + 1), (j + 1), (o.set i ((o.getD j default)))) ?_ ?_)
     ·
      exact I5.keep (by omega) h8
     ·
      ((try dsimp only); omega)
    ·
     (try simp only [Bool.not_eq_true', Bool.not_eq_false'] at h8)
     refine .back [.r [(1, X (Xn ((j : Int) + 1)))]] [(0, 0), (1, 1)] (ih5 (i, (j + 1), o) ?_ ?_)
     ·
      exact I5.skip (by omega) h8
     ·
      ((try dsimp only); omega)
   ·
    (try simp only [decide_eq_true_eq, decide_eq_false_iff_not, Int.not_lt, Int.not_le] at h5)
    have hdn := I5.done (by omega)
    have e1 : ((delL (fun q => meetB q ⟨a, b, c, d⟩) l) : List Rect) = (o.take i) := by
     first | exact hdn.symm | rw [hdn]
    have e2 : ((delL (fun q => meetB q ⟨a, b, c, d⟩) l).length : Nat) = (o.take i).length := by
     first | exact hdn.symm | rw [hdn]
    exact .finE [.r [(2, X (Xtl rectT o.length o (i : Int))), (3, X (Xclr rectT o.length i o))], .r [(2, X (Xcut' rectT 4 0 162 o.length i o (.agg [TI 0, TI 0, TI 0, TI 0]) (i : Int)))]] [(0, 0), (1, 1), (162, 2)] (fun (z0, z1) => (.row 2 z1, [(0, .gone), (1, .box [VI a, VI b, VI c, VI d]), (2, OR 4 rectT z0)])) (((o.take i) : List Rect), ((o.take i).length : Nat)) (((delL (fun q => meetB q ⟨a, b, c, d⟩) l) : List Rect), ((delL (fun q => meetB q ⟨a, b, c, d⟩) l).length : Nat)) (pr e1 e2)
 ·
  obtain ⟨hk, hall⟩ := sp.resolve_right (fun ⟨k, hk, q⟩ => by omega)
  have e3 : ((delL (fun q => meetB q ⟨a, b, c, d⟩) l) : List Rect) = l := by
   first | exact filt_all hall | rw [filt_all hall]
  have e4 : ((delL (fun q => meetB q ⟨a, b, c, d⟩) l).length : Nat) = l.length := by
   first | exact filt_all hall | rw [filt_all hall]
  exact .finE [.r [(2, X (Xc4 [(0, 0), (1, 1)] (fc_idxF_rawR l a b c d (by omega) (by assumption) (by assumption)) X0))], .le (.eq 5 (VI (idxF (fun q => meetB q ⟨a, b, c, d⟩) l 0)) (VI (-1)) (.of_eq (by rw [hk]))), .r [], .t, .le (.mv 0 l.length (List.map rectT l).length lm), .r []] [(0, 0), (1, 1), (58, 2)] (fun (z0, z1) => (.row 2 z1, [(0, .gone), (1, .box [VI a, VI b, VI c, VI d]), (2, OR 4 rectT z0)])) ((l : List Rect), (l.length : Nat)) (((delL (fun q => meetB q ⟨a, b, c, d⟩) l) : List Rect), ((delL (fun q => meetB q ⟨a, b, c, d⟩) l).length : Nat)) (pr e3 e4)
end Go.Ch
end
section
namespace Go.Ab
open Go Go.Proofs Go.RowKit Go.Shelf Go.Lib Go.Sort
open Go.Ch
set_option linter.unusedVariables false
set_option linter.unusedSimpArgs false

set_option maxHeartbeats 4000000 in
theorem compare_w (x y : Int) (W : World) : Calls Tryd.prog 56 #[.int .i64 x, .int .i64 y] W fun e w' => e = .returned (.int .i64 (cmpI x y)) ∧ w' = W := by
  have hcon := fun z W' => Tryd.cmp_isNaN_int2 z W'
  unfold cmpI
  by_cases h1 : x < y
  · rw [if_pos h1]
    go_enter Tryd.func56, Tryd.ntmps56
    go_wp2_with (go_at_call 78; refine (hcon _ _).mono ?_; rintro e w' ⟨rfl, rfl⟩)
    go_ret
    exact ⟨rfl, rfl⟩
  · rw [if_neg h1]
    by_cases h2 : x > y
    · rw [if_pos h2]
      go_enter Tryd.func56, Tryd.ntmps56
      go_wp2_with (go_at_call 78; refine (hcon _ _).mono ?_; rintro e w' ⟨rfl, rfl⟩)
      go_ret
      exact ⟨rfl, rfl⟩
    · rw [if_neg h2]
      go_enter Tryd.func56, Tryd.ntmps56
      go_wp2_with (go_at_call 78; refine (hcon _ _).mono ?_; rintro e w' ⟨rfl, rfl⟩)
      go_ret
      exact ⟨rfl, rfl⟩

set_option maxHeartbeats 8000000 in
theorem or_w (u v : Int) (B cap : Nat) (W : World) (h0 : W.cell? ⟨B, 0, none⟩ = some (.int .i64 u)) (h1 : W.cell? ⟨B, 1, none⟩ = some (.int .i64 v)) :
    Calls Tryd.prog 55 #[.slice (some ⟨B, 0, none⟩) 2 cap] W fun e w' => e = .returned (.int .i64 (Go.Ch.orL [u, v])) ∧ w' = W := by
  by_cases hu : u = 0
  · by_cases hv : v = 0
    · subst hu hv
      go_enter Tryd.func55, Tryd.ntmps55
      go_wp2
      go_rounds 3
      go_ret
      exact ⟨rfl, rfl⟩
    · subst hu
      have e : Go.Ch.orL [0, v] = v := by simp [Go.Ch.orL, hv]
      rw [e]
      clear e
      go_enter Tryd.func55, Tryd.ntmps55
      go_wp2
      go_rounds 3
      go_ret
      exact ⟨rfl, rfl⟩
  · have e : Go.Ch.orL [u, v] = u := by simp [Go.Ch.orL, hu]
    rw [e]
    clear e
    go_enter Tryd.func55, Tryd.ntmps55
    go_wp2
    go_rounds 3
    go_ret
    exact ⟨rfl, rfl⟩

theorem alloc_cell (W : World) (c : Array Value) (t : TypeId) (o : Nat) : (W.alloc (.cells c t)).cell? ⟨W.heap.size, o, none⟩ = c[o]? := by
  have h : (W.alloc (.cells c t)).heap[W.heap.size]? = some (.cells c t) := by (rw [alloc_eq_grow]; show (W.heap ++ #[.cells c t])[W.heap.size]? = _; simp)
  unfold World.cell?
  simp only [h]
  rfl
def encQ (r : Rect) : List Value := [.int .i64 r.row, .int .i64 r.col, .int .i64 r.h, .int .i64 r.w]
def cmpQ (a b : Rect) : Int := Go.Ch.orL [cmpI a.row b.row, cmpI a.col b.col]
set_option maxRecDepth 1000000 in
set_option maxHeartbeats 8000000 in
theorem raw2_w (x y : Rect) (W : World) : Calls Tryd.prog 54 #[.agg (encQ x).toArray, .agg (encQ y).toArray] W fun e w' => e = .returned (.int .i64 (cmpQ x y)) ∧ ∃ q os', w' = grow (W.drewN q) os' := by
  have hcmp := fun a b W' => compare_w a b W'
  unfold encQ cmpQ
  generalize x.row = x1
  generalize x.col = x2
  generalize x.h = x3
  generalize x.w = x4
  generalize y.row = y1
  generalize y.col = y2
  generalize y.h = y3
  generalize y.w = y4
  go_enter Tryd.func54, Tryd.ntmps54
  go_wp2_with (go_at_call 56; refine (hcmp _ _ _).mono ?_; rintro e w' ⟨rfl, rfl⟩)
  obtain ⟨OA, hA⟩ : ∃ o, Obj.cells #[Value.int .i64 x1, .int .i64 x2, .int .i64 x3, .int .i64 x4] 39 = o := ⟨_, rfl⟩
  obtain ⟨OB, hB⟩ : ∃ o, Obj.cells #[Value.int .i64 y1, .int .i64 y2, .int .i64 y3, .int .i64 y4] 39 = o := ⟨_, rfl⟩
  rw [hA, hB]
  refine wp_region_still_tail 10 (by kernel_rfl) (by kernel_rfl) ?_
  obtain ⟨W3, hW3⟩ : ∃ V, ((W.alloc OA).alloc OB).drew = V := ⟨_, rfl⟩
  have hg : W3 = grow (W.drewN 1) #[OA, OB] := by rw [← hW3, alloc_eq_grow, alloc_eq_grow, grow_grow]; rfl
  have p1 : W3.heap[W.heap.size]? = some OA := by rw [hg]; show (W.heap ++ #[OA, OB])[W.heap.size]? = _; simp
  have p2 : W3.heap[W.heap.size + 1]? = some OB := by rw [hg]; show (W.heap ++ #[OA, OB])[W.heap.size + 1]? = _; simp
  have c1 : W3.cell? ⟨W.heap.size, 0, none⟩ = some (.int .i64 x1) := by unfold World.cell?; simp only [p1]; rw [← hA]; rfl
  have c2 : W3.cell? ⟨W.heap.size, 1, none⟩ = some (.int .i64 x2) := by unfold World.cell?; simp only [p1]; rw [← hA]; rfl
  have c3 : W3.cell? ⟨W.heap.size + 1, 0, none⟩ = some (.int .i64 y1) := by unfold World.cell?; simp only [p2]; rw [← hB]; rfl
  have c4 : W3.cell? ⟨W.heap.size + 1, 1, none⟩ = some (.int .i64 y2) := by unfold World.cell?; simp only [p2]; rw [← hB]; rfl
  clear p1 p2
  have hx : ∃ q os, W3 = grow (W.drewN q) os := ⟨1, _, hg⟩
  clear hg
  change wpStill _ _ ((W.alloc OA).alloc OB).drew (fun a' => wpList _ _ _ _ a' ((W.alloc OA).alloc OB).drew) _ _
  rw [hW3]
  clear hW3 hA hB
  simp only [List.take_succ_cons, List.take_zero, List.drop_succ_cons, List.drop_zero]
  repeat still_step
  still_call (hcmp _ _ _)
  repeat still_step
  still_call (hcmp _ _ _)
  refine wpStill_nil ?_
  have hor : ∀ u v : Int, Calls Tryd.prog 55 #[.slice (some ⟨W3.heap.size, 0, none⟩) 2 2] (W3.alloc (.cells #[.int .i64 u, .int .i64 v] 3)) fun e w' => e = .returned (.int .i64 (Go.Ch.orL [u, v])) ∧ w' = W3.alloc (.cells #[.int .i64 u, .int .i64 v] 3) := fun u v =>
    or_w u v _ _ _ (alloc_cell _ _ _ 0) (alloc_cell _ _ _ 1)
  clear hcmp c1 c2 c3 c4
  go_wp2_with (go_at_call 55; refine (hor _ _).mono ?_; rintro e w' ⟨rfl, rfl⟩)
  clear hor
  go_ret
  obtain ⟨q, os, rfl⟩ := hx
  exact ⟨rfl, q, _, by rw [alloc_eq_grow, grow_grow]⟩
end Go.Ab
end
section
set_option linter.unusedVariables false
set_option linter.unusedSimpArgs false
namespace Go.Ch
open Go Go.Proofs Go.Ab Go.RowKit Go.Shelf Go.Sort

theorem cmpQ_def (a b : Rect) : cmpQ a b = if a.row < b.row then -1 else if a.row > b.row then 1 else if a.col < b.col then -1 else if a.col > b.col then 1 else 0 :=
  ordC_def ⟨a.row, a.col, { data := #[] }, 0, []⟩ ⟨b.row, b.col, { data := #[] }, 0, []⟩
theorem ltQ (a b : Rect) : ltOf cmpQ a b = befB a b := by
  unfold ltOf befB
  rw [cmpQ_def, Bool.eq_iff_iff]
  simp only [decide_eq_true_eq]
  repeat' split
  all_goals omega
theorem swoQ : SWO (ltOf cmpQ) where
  irrefl x := by rw [ltQ, bef_f]; omega
  trans x y z h1 h2 := by rw [ltQ, befB_iff] at *; omega
  ntrans x y z h1 h2 := by rw [ltQ, bef_f] at *; omega
def sortQ (l : List Rect) : List Rect := (pdq (ltOf cmpQ) l.toArray 0 l.toArray.size (Lib.bitLen l.toArray.size) true true).toList
theorem sortQ_spec (l : List Rect) : PermIn 0 l.toArray.size l.toArray (pdq (ltOf cmpQ) l.toArray 0 l.toArray.size (Lib.bitLen l.toArray.size) true true) ∧
    SortedIn (ltOf cmpQ) 0 l.toArray.size (pdq (ltOf cmpQ) l.toArray 0 l.toArray.size (Lib.bitLen l.toArray.size) true true) :=
  pdq_sorts (ltOf cmpQ) swoQ l.toArray 0 l.toArray.size (Lib.bitLen l.toArray.size) true true (Nat.zero_le _) (Nat.le_refl _) (Or.inl rfl)
theorem sortQ_perm (l : List Rect) : (sortQ l).Perm l := by
  obtain ⟨h1, h2, h3⟩ := (sortQ_spec l).1
  unfold sortQ
  generalize pdq (ltOf cmpQ) l.toArray 0 l.toArray.size (Lib.bitLen l.toArray.size) true true = d at *
  have e1 : d.extract 0 l.toArray.size = d := by rw [← h1]; exact Array.extract_size
  rw [e1, show l.toArray.extract 0 l.toArray.size = l.toArray from Array.extract_size] at h3
  simpa using h3
theorem sortQ_len (l : List Rect) : (sortQ l).length = l.length := (sortQ_perm l).length_eq
theorem sortQ_sorted (l : List Rect) : ∀ i j, i < j → j < l.length → befB ((sortQ l).getD j default) ((sortQ l).getD i default) = false := by
  have h := (sortQ_spec l).2
  have hl := sortQ_len l
  intro i j hi hj
  have := h i j (Nat.zero_le _) hi (by simpa using hj)
  rw [ltQ] at this
  unfold sortQ at *
  generalize pdq (ltOf cmpQ) l.toArray 0 l.toArray.size (Lib.bitLen l.toArray.size) true true = d at *
  have e : ∀ k, k < d.size → d[k]! = d.toList.getD k default := fun k hk => by
    rw [getElem!_pos d k hk, List.getD_eq_getElem?_getD, List.getElem?_eq_getElem (by simpa using hk)]; simp
  rw [Array.length_toList] at hl
  rwa [e j (by omega), e i (by omega)] at this
theorem flat_rect (l : List Rect) (t : Nat) (ht : t < l.length * 4) : (flat (l.map rectT))[t]? = some (.sc ((flatK encQ 4 l.toArray)[t]!)) := by
  have hi : t / 4 < l.length := by omega
  have h1 := flat_get (k := 4) (xs := l.map rectT) (i := t / 4) (X := rectT l[t / 4]) (fun x hx => by
    obtain ⟨r, _, rfl⟩ := List.mem_map.1 hx
    exact ⟨rfl, fun T hT => by simp only [rectT, Tree.cells, List.mem_cons, List.not_mem_nil, or_false] at hT; rcases hT with rfl | rfl | rfl | rfl <;> rfl⟩) (by rw [List.getElem?_map, List.getElem?_eq_getElem hi]; rfl) (j := t % 4) (by omega)
  rw [show t / 4 * 4 + t % 4 = t by omega] at h1
  rw [h1, get_flatK encQ 4 l.toArray t (by simpa using ht)]
  have e : l.toArray[t / 4]! = l[t / 4] := by rw [getElem!_pos l.toArray (t / 4) (by simpa using hi)]; simp
  rw [e]
  have h4 : t % 4 = 0 ∨ t % 4 = 1 ∨ t % 4 = 2 ∨ t % 4 = 3 := by omega
  rcases h4 with h | h | h | h <;> rw [h] <;> rfl

theorem grow_obj {P : Program} {F : Fen P} {S : Store} {m : Ab.Place} {w : World} (hS : SRel F S m w) (os : Array Obj) : SRel F S m (grow w os) ∧ FrameExt F S m w S m (grow w os) := by
  have hg : ∀ b, b < w.heap.size → (grow w os).heap[b]? = w.heap[b]? := fun b hb => by
    show (w.heap ++ os)[b]? = _
    rw [Array.getElem?_append_left hb]
  have hF : FrameExt F S m w S m (grow w os) := ⟨rfl, rfl, rfl, by show w.heap.size ≤ (w.heap ++ os).size; simp, fun b hb _ => hg b hb, fun id o h => ⟨o, h, Nat.le_refl _, fun _ => rfl, fun h => h, .inl rfl, o.same_refl⟩, fun id o h hn => by rw [h] at hn; cases hn⟩
  exact ⟨⟨fun id o h => (hS.objs id o h).persist hF (fun b hb => hg b (blk_lt hS h hb)), hS.inj, hS.avoid, fun b hb => Nat.lt_of_lt_of_le (hS.low b hb) hF.size, hS.held hF⟩, hF⟩
theorem upd_app (o o' : Ob) : upd (app emp [(0, o)]) 0 o' = app emp [(0, o')] := by
  funext i
  by_cases e : i = 0
  · subst e; rfl
  · rw [upd_ne e]
    show upd emp 0 o i = upd emp 0 o' i
    rw [upd_ne e, upd_ne e]
theorem mapB_at {w : World} {b : Nat} {c : Array Value} {e : TypeId} {fr : Nat × Nat} (f : Array Value → Array Value) (h : w.heap[b]? = some (.cells c e fr)) : (mapBlock w b f).heap[b]? = some (.cells (f c) e fr) := by
  unfold mapBlock
  simp only [Array.getElem?_modify, if_true, h]
  rfl
theorem mapB_ne {w : World} {b x : Nat} (f : Array Value → Array Value) (h : x ≠ b) : (mapBlock w b f).heap[x]? = w.heap[x]? := by
  unfold mapBlock
  simp only [Array.getElem?_modify]
  rw [if_neg (fun e => h e.symm)]

theorem fc_sortQ (l : List Rect) (hn : l.length ≤ 100000000000) : FC Tryd.prog 53 [.row 0 l.length, .fn 54 []] (app emp [(0, .row 4 false (l.map rectT))]) (.tup []) (app emp [(0, .row 4 false ((sortQ l).map rectT))]) := by
  intro F m w xs hS hl hv
  match xs, hl with
  | [x0, x1], _ =>
  have v0 := hv 0 _ _ rfl rfl
  have v1 := hv 1 _ _ rfl rfl
  have hs0 : app emp [(0, Ob.row 4 false (l.map rectT))] 0 = some (.row 4 false (l.map rectT)) := rfl
  obtain ⟨a1, a2, a3, a4, a5⟩ := hS.objs 0 _ hs0
  cases v1 with
  | fn _ _ us hlu _ =>
  obtain rfl : us = [] := List.length_eq_zero_iff.1 hlu
  cases v0 with
  | rowG _ _ L hs' => rw [hs0] at hs'; cases hs'
  | row _ _ k' fz' xs' L hs' hn' hu' =>
  rw [hs0] at hs'; cases hs'
  have hL := hu' (by simp)
  rw [hL] at a3 a4 a5
  rcases a5 with ⟨q1, q2⟩ | ⟨b, us, e, h1, h2, h3, h4, h5⟩
  · obtain ⟨L1, L2⟩ := L
    simp only at q1 q2
    subst q1 q2
    obtain rfl : l = [] := List.length_eq_zero_iff.1 (by have a3' : (List.map rectT l).length ≤ 0 := a3; rw [List.length_map] at a3'; omega)
    have key := AnyF.slices_SortFunc_none Tryd.sortQ none 0 (.func (.func 54) #[] #[]) w
    change Calls Tryd.prog 53 _ _ _ at key
    have e2 : sortQ [] = [] := List.length_eq_zero_iff.1 (sortQ_len [])
    refine key.mono ?_
    rintro e' w' ⟨rfl, rfl⟩
    rw [e2]
    exact ⟨_, m, rfl, hS, FrameExt.refl F _ m _, .tup [] [] rfl (fun i v u hv => by simp at hv)⟩
  · have hb : b < w.heap.size := (Array.getElem?_eq_some_iff.1 h2).1
    have hsz : l.length * 4 ≤ us.size := by rw [h3]; simp at a3; omega
    have hcell : ∀ (W : World) (c : Array Value) (o : Nat), W.heap[b]? = some (.cells c e (0, 0)) → W.cell? ⟨b, o, none⟩ = c[o]? := fun W c o h => by
      unfold World.cell?; simp only [h]; rfl
    have hH : HoldsK encQ 4 w b 0 l.toArray := fun j hj => by
      rw [size_flatK] at hj
      have hj' : j < l.length * 4 := by simpa using hj
      have hT := flat_rect l j hj'
      have hu : us[j]? = some us[j] := Array.getElem?_eq_getElem (by omega)
      have := h5 j _ _ hT hu
      refine ⟨?_, ?_⟩
      · rw [hcell w us _ h2, Nat.zero_add, hu]
        generalize us[j] = u at *
        generalize (flatK encQ 4 l.toArray)[j]! = v at *
        cases this
        rfl
      · unfold World.frozen?; simp only [h2]; simp
    have hsize : (pdq (ltOf cmpQ) l.toArray 0 l.toArray.size (Lib.bitLen l.toArray.size) true true).size = l.length := by have := sortQ_len l; unfold sortQ at this; simpa using this
    have key := AnyQ.slices_SortFunc_eq (α := Rect) Tryd.sortQ 4 Tryd.isAgg39 Tryd.sizeOf39 encQ (fun _ => rfl) (fun x v hv => by simp only [encQ, List.mem_cons, List.not_mem_nil, or_false] at hv; rcases hv with rfl | rfl | rfl | rfl <;> rfl) cmpQ swoQ 54 #[] b 0 L.2 l.toArray w (enters_of Tryd.func54 (by kernel_rfl) rfl)
      (fun m' os' dk _ x y => raw2_w x y _) hH hb (by simp; omega)
    change Calls Tryd.prog 53 _ _ _ at key
    obtain ⟨L1, L2⟩ := L
    simp only at h1
    subst h1
    have ea : (#[Value.slice (some ⟨b, 0, none⟩) l.toArray.size L2, .func (.func 54) #[] #[]] : Array Value) = [rowVal (some b, L2) l.length, .func (.func 54) #[] [].toArray].toArray := by simp [rowVal]
    rw [ea] at key
    refine key.mono ?_
    rintro e' w' ⟨rfl, n, os, rfl⟩
    unfold sortWorldK
    generalize hD : pdq (ltOf cmpQ) l.toArray 0 l.toArray.size (Lib.bitLen l.toArray.size) true true = D at *
    have hDl : D.toList = sortQ l := by unfold sortQ; rw [hD]
    have hDa : D = (sortQ l).toArray := by rw [← hDl]
    have hlen := sortQ_len l
    have hblk : (putRowK encQ 4 (Sort.ahead w n) b 0 D).heap[b]? = some (.cells (putCells id 0 (flatK encQ 4 D) us) e (0, 0)) := mapB_at _ h2
    have hE : ∀ x ∈ (sortQ l).map rectT, Elt 4 x := fun x hx => by
      obtain ⟨r, _, rfl⟩ := List.mem_map.1 hx
      exact ⟨rfl, fun T hT => by simp only [rectT, Tree.cells, List.mem_cons, List.not_mem_nil, or_false] at hT; rcases hT with rfl | rfl | rfl | rfl <;> rfl⟩
    have hone : ∀ j, j < D.size * 4 → ((flatK encQ 4 D)[j]!).oneCell' = true := fun j hj => by
      rw [get_flatK encQ 4 D j hj]
      have h4 : j % 4 = 0 ∨ j % 4 = 1 ∨ j % 4 = 2 ∨ j % 4 = 3 := by omega
      rcases h4 with h | h | h | h <;> rw [h] <;> rfl
    have hcu : ∀ (j : Nat) (u : Value), (putCells id 0 (flatK encQ 4 D) us)[j]? = some u → (j < D.size * 4 ∧ u = (flatK encQ 4 D)[j]!) ∨ (us[j]? = some u) := fun j u hu => by
      unfold putCells at hu
      rw [Array.getElem?_mapIdx, Option.map_eq_some_iff] at hu
      obtain ⟨x, hx, hxu⟩ := hu
      rw [size_flatK] at hxu
      split at hxu
      · rename_i hc
        exact .inl ⟨by omega, by rw [← hxu]; rfl⟩
      · exact .inr (by rw [hx, hxu])
    have r := rewrite_obj (o' := .row 4 false ((sortQ l).map rectT)) hS hs0 rfl (by rw [hL]) (w' := putRowK encQ 4 (Sort.ahead w n) b 0 D) rfl rfl rfl
      (by show (w.heap.modify b _).size = _; simp) (fun c hc => mapB_ne (w := Sort.ahead w n) _ hc) (by simp only [Ob.len, List.length_map]; omega) (by simp [Ob.same]) (fun hF => by
        rw [hL]
        refine ⟨a1, hE, by simp only [List.length_map] at a3 ⊢; omega, a4, .inr ⟨b, _, e, rfl, hblk, ?_, fun j u hu => ?_, fun j T u hT hu => ?_⟩⟩
        · unfold putCells; rw [Array.size_mapIdx]; exact h3
        · rcases hcu j u hu with ⟨hj, rfl⟩ | hu
          · exact hone j hj
          · exact h4 j u hu
        · have hj : j < (sortQ l).length * 4 := by
            have := (List.getElem?_eq_some_iff.1 hT).1
            rw [flat_len hE, List.length_map] at this; exact this
          rw [flat_rect _ j hj] at hT
          cases hT
          have hu2 : u = (flatK encQ 4 D)[j]! := by
            unfold putCells at hu
            rw [Array.getElem?_mapIdx, Option.map_eq_some_iff] at hu
            obtain ⟨x, hx, hxu⟩ := hu
            rw [if_pos ⟨Nat.zero_le _, by rw [size_flatK, hDa]; simpa using hj⟩] at hxu
            rw [← hxu]; rfl
          rw [hu2, hDa]
          exact .sc _ (by rw [← hDa]; exact hone j (by rw [hDa]; simpa using hj)))
    rw [upd_app] at r
    obtain ⟨g1, g2⟩ := grow_obj r.1 os
    exact ⟨_, m, rfl, g1, FrameExt.trans hS r.2 g2, .tup [] [] rfl (fun i v u hv => by simp at hv)⟩
end Go.Ch
end
section
set_option linter.unusedVariables false
namespace Go.Ch
open Go Go.Ab

def keepO (rows cols : List AxStep) (split : List Rect) (r : Rect) : Option Rect := if thrB (thrR r rows cols) = true ∧ hasQ split (thrR r rows cols) = false then some (thrR r rows cols) else none
def keepQ (l : List Rect) (rows cols : List AxStep) (split : List Rect) : List Rect := l.filterMap (keepO rows cols split)
theorem keepQ_succ {l : List Rect} {rows cols : List AxStep} {split : List Rect} {i : Nat} (h : i < l.length) : keepQ (l.take (i + 1)) rows cols split = keepQ (l.take i) rows cols split ++
    (if thrB (thrR (l.getD i default) rows cols) = true ∧ hasQ split (thrR (l.getD i default) rows cols) = false then [thrR (l.getD i default) rows cols] else []) := by
  unfold keepQ
  rw [take_succD h, List.filterMap_append]
  congr 1
  rw [List.filterMap_cons, List.filterMap_nil]
  unfold keepO
  by_cases h : thrB (thrR (l.getD i default) rows cols) = true ∧ hasQ split (thrR (l.getD i default) rows cols) = false
  · rw [if_pos h, if_pos h]
  · rw [if_neg h, if_neg h]
theorem keepQ_len (l : List Rect) (rows cols : List AxStep) (split : List Rect) : (keepQ l rows cols split).length ≤ l.length := List.length_filterMap_le _ _
theorem thrR_RB {r : Rect} {rows cols : List AxStep} (h : QIn rows cols r) : RB (thrR r rows cols) := by
  obtain ⟨hb, hr, hc⟩ := h
  unfold RB at hb ⊢
  unfold thrR
  by_cases c1 : 0 < rows.length <;> by_cases c2 : 0 < cols.length
  · obtain ⟨v1, w1⟩ := hr c1; obtain ⟨v2, w2⟩ := hc c2
    have b1 := hull_bd v1 w1; have b2 := hull_bd v2 w2
    simp only [if_pos c1, if_pos c2]; omega
  · obtain ⟨v1, w1⟩ := hr c1
    have b1 := hull_bd v1 w1
    simp only [if_pos c1, if_neg c2]; omega
  · obtain ⟨v2, w2⟩ := hc c2
    have b2 := hull_bd v2 w2
    simp only [if_neg c1, if_pos c2]; omega
  · simp only [if_neg c1, if_neg c2]; omega
def addQ (l : List Rect) (r : Rect) : List Rect := delL (fun q => meetB q r) l ++ [r]
theorem addQ_len (l : List Rect) (r : Rect) : (addQ l r).length ≤ l.length + 1 := by
  unfold addQ
  have := delL_len (fun q => meetB q r) l
  rw [List.length_append, List.length_singleton]; omega
theorem addQ_RB {l : List Rect} {r : Rect} (h : AllRB l) (hr : RB r) : AllRB (addQ l r) := fun q hq => by
  unfold addQ delL at hq
  rcases List.mem_append.1 hq with hq | hq
  · exact h q ((List.mem_filter.1 hq).1)
  · rw [List.mem_singleton.1 hq]; exact hr
theorem foldl_succ {α β : Type} [Inhabited α] (f : β → α → β) (b : β) {l : List α} {i : Nat} (h : i < l.length) : (l.take (i + 1)).foldl f b = f ((l.take i).foldl f b) (l.getD i default) := by
  rw [take_succD h, List.foldl_append]; rfl
theorem keepQ_RB {l : List Rect} {rows cols : List AxStep} {split : List Rect} (h : ∀ r ∈ l, QIn rows cols r) : AllRB (keepQ l rows cols split) := fun q hq => by
  unfold keepQ at hq
  obtain ⟨r, hr, he⟩ := List.mem_filterMap.1 hq
  unfold keepO at he
  split at he
  · cases he; exact thrR_RB (h r hr)
  · cases he
def rawGr (g : Grid) (e : GEd) : Grid := ⟨nwS g.rows e.rows, nwS g.cols e.cols, putL e.cells (movL g.cells e.rows e.cols), sortQ (e.merge.foldl addQ (keepQ g.merges e.rows e.cols e.split))⟩
/-- What Raw asks of its data. -/
structure RawIn (g : Grid) (e : GEd) : Prop where
  okr : 0 < e.rows.length → Valid e.rows
  okc : 0 < e.cols.length → Valid e.cols
  l1 : g.cells.length ≤ 10000000000
  l2 : e.cells.length ≤ 10000000000
  l3 : g.merges.length ≤ 10000000000
  l4 : e.merge.length ≤ 10000000000
  a1 : CAN 1000000000000 g.cells
  a2 : CAN 1000000000000 e.cells
  p1 : ∀ c ∈ g.cells, PIn e.rows c.row
  p2 : ∀ c ∈ g.cells, PIn e.cols c.col
  q : ∀ r ∈ g.merges, QIn e.rows e.cols r
  m : AllRB e.merge
def undoA (e : GEd) : GEd := ⟨undoX e.rows, undoX e.cols, [], [], []⟩
def undoE (g : Grid) (e : GEd) : GEd := backE (rawGr (rawGr g e) (undoA e)) g (undoX e.rows) (undoX e.cols)
/-- Data that fits, and that Raw can take. -/
structure AppIn (g : Grid) (e : GEd) : Prop where
  hg : gridE g = 0
  he : EdOk e
  hf : FitOk g e
  raw : RawIn g e
  l5 : e.split.length ≤ 10000000000
structure UndIn (g : Grid) (e : GEd) : Prop where
  app : AppIn g e
  raw : RawIn (rawGr g e) (undoA e)
  l1 : (rawGr (rawGr g e) (undoA e)).cells.length ≤ 100000000000
  l2 : (rawGr (rawGr g e) (undoA e)).merges.length ≤ 100000000000
  c1 : checkX (undoX e.rows) = 0
  c2 : checkX (undoX e.cols) = 0
/-! ### The search in a sorted list -/
def SortC (l : List Cell) : Prop := ∀ p q, p < q → q < l.length → ordC (l.getD p default) (l.getD q default) < 0
def lobC (l : List Cell) (t : Cell) : Nat := (l.takeWhile (fun c => decide (ordC c t < 0))).length
theorem lobC_all : ∀ (l : List Cell) (t : Cell), lobC l t ≤ l.length ∧ (∀ k, k < lobC l t → ordC (l.getD k default) t < 0) ∧ (lobC l t < l.length → ¬ ordC (l.getD (lobC l t) default) t < 0)
  | [], t => ⟨Nat.le_refl _, fun k h => absurd h (Nat.not_lt_zero _), fun h => absurd h (Nat.lt_irrefl _)⟩
  | c :: l, t => by
    obtain ⟨h1, h2, h3⟩ := lobC_all l t
    by_cases hc : ordC c t < 0
    · have e : lobC (c :: l) t = lobC l t + 1 := by unfold lobC; rw [List.takeWhile_cons, if_pos (decide_eq_true hc)]; rfl
      rw [e]
      refine ⟨by simp only [List.length_cons]; omega, fun k hk => ?_, fun hk => ?_⟩
      · cases k with
        | zero => exact hc
        | succ k => exact h2 k (by omega)
      · exact h3 (by simp only [List.length_cons] at hk; omega)
    · have e : lobC (c :: l) t = 0 := by unfold lobC; rw [List.takeWhile_cons, if_neg (by simpa using hc)]; rfl
      rw [e]
      exact ⟨Nat.zero_le _, fun k h => absurd h (Nat.not_lt_zero _), fun _ => hc⟩
theorem lobC_lt {l : List Cell} {t : Cell} {m : Nat} (hs : SortC l) (hm : m < l.length) (h : ordC (l.getD m default) t < 0) : m < lobC l t := by
  obtain ⟨h1, h2, h3⟩ := lobC_all l t
  refine Classical.byContradiction fun hn => ?_
  have h4 := h3 (by omega)
  by_cases e : lobC l t = m
  · rw [e] at h4; exact h4 h
  · have h5 := hs (lobC l t) m (by omega) hm
    rw [ordC_lt] at h h5 h4
    omega
theorem lobC_ge {l : List Cell} {t : Cell} {m : Nat} (h : ¬ ordC (l.getD m default) t < 0) : lobC l t ≤ m := by
  obtain ⟨h1, h2, h3⟩ := lobC_all l t
  exact Classical.byContradiction fun hn => h (h2 m (by omega))
def hasC (l : List Cell) (t : Cell) : Bool := decide ((lobC l t : Int) < (l.length : Int)) && ((ordC (l.getD (lobC l t) default) t) == 0)
end Go.Ch
end
section
set_option linter.unusedVariables false
set_option linter.unusedSimpArgs false
set_option maxRecDepth 100000
set_option maxHeartbeats 4000000
open Go Go.Proofs Go.Ab
namespace Go.Ch
theorem fc_graw (x : Grid) (e : GEd) (hi : RawIn x e) : FC Tryd.prog 25 [.t (gridT x), .t (gedT e)] (app emp []) (.t (gridT (rawGr x e))) (app emp []) := by
 refine .go Tryd.f25 ?_
 obtain ⟨vr, vk, l1, l2, l3, l4, a1, a2, p1, p2, hq, hm⟩ := hi
 have hml := movL_len x.cells e.rows e.cols
 refine .loop (α := Nat × (List Rect)) [.r [], .r [(4, X (Xc0 (fc_axsize x.rows e.rows (by assumption)) X0))], .r [(4, X (Xc0 (fc_axsize x.cols e.cols (by assumption)) X0))], .r [(8, X (Xc1 248 (fc_moved x.cells e.rows e.cols (by omega) (by assumption) (by assumption) (by assumption)) X0)), (11, X (Xc1 272 (fc_gput (movL x.cells e.rows e.cols) e.cells (by omega) (by omega) (by assumption)) X0))], .le (.nB 288 3 4), .r [(2, X (Xl rectT x.merges))]] 337 (fun (i, om) => ([(3, .ptr 8 0), (4, .ptr 16 0), (9, .ptr 288 0), (46, VL 4 rectT x.merges), (47, VI (x.merges.length : Int)), (48, VI (i : Int))], [(8, .box [VL 2 stepT e.rows, VL 2 stepT e.cols, VL 5 cellT e.cells, VL 4 rectT e.split, VL 4 rectT e.merge]), (16, .box [VI 0, VI 0, VN, VN]), (288, .box [VI (if 0 < (e.rows).length then newI e.rows else x.rows), VI (if 0 < (e.cols).length then newI e.cols else x.cols), VL 5 cellT (putL e.cells (movL x.cells e.rows e.cols)), .row 304 om.length]), (304, OR 4 rectT om)])) (fun (i, om) => i ≤ x.merges.length ∧ om = (keepQ (x.merges.take i) e.rows e.cols e.split)) (fun (i, om) => x.merges.length - i) (0, []) ?_ ?_
 ·
  exact ⟨by omega, rfl⟩
 rintro ⟨i, om⟩ I5 ih5
 try dsimp only at I5
 have ol : om.length ≤ i := by (rw [I5.2]; have := keepQ_len (x.merges.take i) e.rows e.cols e.split; simp at this; omega)
 refine .br [.r []] (decide ((i : Int) < (x.merges.length : Int))) (fun h5 => ?_) (fun h5 => ?_)
 ·
  (try simp only [decide_eq_true_eq, decide_eq_false_iff_not, Int.not_lt, Int.not_le] at h5)
  obtain ⟨g1, g2, g3⟩ := hq _ (getDX_mem (l := x.merges) (i := i) (by omega))
  refine .br [.r [(0, X (Xi rectT x.merges (i : Int)))], .r [(5, X (Xc0 (fc_through ((x.merges.getD i default)) e.rows e.cols (by assumption) (by assumption) (by assumption)) X0))], .r [(3, Xv 1 (thrB (thrR ((x.merges.getD i default)) e.rows e.cols)) X0), (5, Xv 2 (thrB (thrR ((x.merges.getD i default)) e.rows e.cols)) (Xc0 (fc_hasQ e.split ((thrR ((x.merges.getD i default)) e.rows e.cols))) X0)), (6, Xv 1 (thrB (thrR ((x.merges.getD i default)) e.rows e.cols)) X0), (7, X (Xk (thrB (thrR ((x.merges.getD i default)) e.rows e.cols))))]] ((thrB (thrR ((x.merges.getD i default)) e.rows e.cols)) && !(hasQ e.split ((thrR ((x.merges.getD i default)) e.rows e.cols)))) (fun h8 => ?_) (fun h8 => ?_)
  ·
   (try simp only [Bool.not_eq_true', Bool.not_eq_false', Bool.and_eq_true, Bool.and_eq_false_iff] at h8)
   refine .back [.r [(4, X (rowC rectT [((thrR ((x.merges.getD i default)) e.rows e.cols))] (Xap 4 rectT 304 om [((thrR ((x.merges.getD i default)) e.rows e.cols))])))], .r [(0, X (Xn ((i : Int) + 1)))]] [(8, 8), (16, 16), (288, 288), (304, 304)] (ih5 ((i + 1), (om ++ [((thrR ((x.merges.getD i default)) e.rows e.cols))])) ?_ ?_)
   ·
    refine ⟨by omega, ?_⟩
    rw [I5.2, keepQ_succ (by omega), if_pos h8]
   ·
    ((try dsimp only); omega)
  ·
   (try simp only [Bool.not_eq_true', Bool.not_eq_false', Bool.and_eq_true, Bool.and_eq_false_iff] at h8)
   refine .back [.r [(0, X (Xn ((i : Int) + 1)))]] [(8, 8), (16, 16), (288, 288), (304, 304)] (ih5 ((i + 1), om) ?_ ?_)
   ·
    refine ⟨by omega, ?_⟩
    rw [I5.2, keepQ_succ (by omega), if_neg (fun q => by rcases h8 with h | h; (rw [q.1] at h; cases h); (rw [q.2] at h; cases h)), List.append_nil]
   ·
    ((try dsimp only); omega)
 ·
  (try simp only [decide_eq_true_eq, decide_eq_false_iff_not, Int.not_lt, Int.not_le] at h5)
  refine .loop (α := Nat × (List Rect)) [.r [(2, X (Xl rectT e.merge))]] 377 (fun (j, on) => ([(4, .ptr 16 0), (9, .ptr 288 0), (77, VL 4 rectT e.merge), (78, VI (e.merge.length : Int)), (79, VI (j : Int))], [(16, .box [VI 0, VI 0, VN, VN]), (288, .box [VI (if 0 < (e.rows).length then newI e.rows else x.rows), VI (if 0 < (e.cols).length then newI e.cols else x.cols), VL 5 cellT (putL e.cells (movL x.cells e.rows e.cols)), .row 304 on.length]), (304, OR 4 rectT on)])) (fun (j, on) => j ≤ e.merge.length ∧ on = (e.merge.take j).foldl addQ (keepQ x.merges e.rows e.cols e.split) ∧ on.length ≤ x.merges.length + j ∧ AllRB on) (fun (j, on) => e.merge.length - j) (0, om) ?_ ?_
  ·
   exact ⟨by omega, by (rw [I5.2, List.take_of_length_le (by omega)]; rfl), by omega, by (rw [I5.2]; exact keepQ_RB (fun r hr => hq r (List.mem_of_mem_take hr)))⟩
  rintro ⟨j, on⟩ I12 ih12
  try dsimp only at I12
  have onl := I12.2.2.1
  have onb := I12.2.2.2
  refine .br [.r []] (decide ((j : Int) < (e.merge.length : Int))) (fun h12 => ?_) (fun h12 => ?_)
  ·
   (try simp only [decide_eq_true_eq, decide_eq_false_iff_not, Int.not_lt, Int.not_le] at h12)
   have hm1 : RB (e.merge.getD j default) := hm _ (getDX_mem (by omega))
   have hd : (delL (fun q => meetB q ⟨(e.merge.getD j default).row, (e.merge.getD j default).col, (e.merge.getD j default).h, (e.merge.getD j default).w⟩) on).length ≤ on.length := delL_len _ on
   have hd2 := addQ_len on (e.merge.getD j default)
   refine .back [.r [(0, X (Xi rectT e.merge (j : Int)))], .r [(3, X (Xc3 441 [(0, 304), (1, 401)] (fc_delQ on (((e.merge.getD j default)).row) (((e.merge.getD j default)).col) (((e.merge.getD j default)).h) (((e.merge.getD j default)).w) (by omega) (by assumption) (by assumption)) X0))], .r [(4, X (rowC rectT [({ row := (((e.merge.getD j default)).row), col := (((e.merge.getD j default)).col), h := (((e.merge.getD j default)).h), w := (((e.merge.getD j default)).w) } : Rect)] (Xap 4 rectT 441 (delL (fun q => meetB q ⟨(((e.merge.getD j default)).row), (((e.merge.getD j default)).col), (((e.merge.getD j default)).h), (((e.merge.getD j default)).w)⟩) on) [({ row := (((e.merge.getD j default)).row), col := (((e.merge.getD j default)).col), h := (((e.merge.getD j default)).h), w := (((e.merge.getD j default)).w) } : Rect)])) (by simp only [List.length_cons, List.length_nil]; omega))], .r [(0, X (Xn ((j : Int) + 1)))]] [(16, 16), (288, 288), (441, 304)] (ih12 ((j + 1), ((delL (fun q => meetB q ⟨(((e.merge.getD j default)).row), (((e.merge.getD j default)).col), (((e.merge.getD j default)).h), (((e.merge.getD j default)).w)⟩) on) ++ [({ row := (((e.merge.getD j default)).row), col := (((e.merge.getD j default)).col), h := (((e.merge.getD j default)).h), w := (((e.merge.getD j default)).w) } : Rect)])) ?_ ?_)
   ·
    exact ⟨by omega, by (rw [foldl_succ _ _ (by omega), ← I12.2.1]; rfl), Nat.le_trans hd2 (by omega), addQ_RB onb hm1⟩
   ·
    ((try dsimp only); omega)
  ·
   (try simp only [decide_eq_true_eq, decide_eq_false_iff_not, Int.not_lt, Int.not_le] at h12)
   have hsl : on.length = (sortQ on).length := (sortQ_len on).symm
   have q1 : on = e.merge.foldl addQ (keepQ x.merges e.rows e.cols e.split) := by rw [I12.2.1, List.take_of_length_le (by omega)]
   have e1 : ((rawGr x e) : Grid) = ({ rows := (if 0 < (e.rows).length then newI e.rows else x.rows), cols := (if 0 < (e.cols).length then newI e.cols else x.cols), cells := (putL e.cells (movL x.cells e.rows e.cols)), merges := (sortQ on) } : Grid) := by
    unfold rawGr; rw [q1]; rfl
   exact .finVE [.r [(2, X (Xc3 401 [(0, 304)] (fc_sortQ on (by omega)) X0))], .r []] [.fR 0 [(on.length : Nat) = (List.map rectT (sortQ on)).length] ⟨lm, trivial⟩] [] (fun z0 => (.t (gridT z0), [])) (({ rows := (if 0 < (e.rows).length then newI e.rows else x.rows), cols := (if 0 < (e.cols).length then newI e.cols else x.cols), cells := (putL e.cells (movL x.cells e.rows e.cols)), merges := (sortQ on) } : Grid) : Grid) ((rawGr x e) : Grid) e1
end Go.Ch
end
section
set_option linter.unusedVariables false
set_option linter.unusedSimpArgs false
set_option maxRecDepth 100000
set_option maxHeartbeats 4000000
open Go Go.Proofs Go.Ab
namespace Go.Ch
theorem fc_gapply (x : Grid) (e : GEd) (hi : AppIn x e) : FC Tryd.prog 9 [.t (gridT x), .t (gedT e)] (app emp []) (.tup [.t (gridT (rawGr x e)), VI 0]) (app emp []) := by
 refine .go Tryd.f9 ?_
 obtain ⟨hg, he, hf, hr, l5⟩ := hi
 have le : e.cells.length ≤ 100000000000 ∧ e.split.length ≤ 100000000000 ∧ e.merge.length ≤ 100000000000 := ⟨by have := hr.l2; omega, by omega, by have := hr.l4; omega⟩
 have lm := hr.l3
 have e1 : ((rawGr x e) : Grid) = ((rawGr x e)) := by
  (first | omega | with_reducible exact fun h => h | (intro hq; rw [hq]; done) | (intro hq; rw [hq]; rfl) | (simp only [List.length_map]; done) | (simp only [List.length_map]; omega) | (simp; omega) | (simp; done))
 exact .finVE [.r [], .r [(2, X (Xc0 (fc_fits x e (by assumption) (by omega) (by assumption) (by assumption) (by assumption)) X0))], .r [], .f, .r [(2, X (Xc1 144 (fc_graw x e (by assumption)) X0))]] [] [] (fun z0 => (.tup [.t (gridT z0), VI 0], [])) (((rawGr x e)) : Grid) ((rawGr x e) : Grid) e1

theorem fc_bsf (l : List Cell) (t : Cell) (hn : l.length ≤ 100000000000) (hs : SortC l) : FC Tryd.prog 63 [VL 5 cellT l, .t (cellT t), .fn 64 []] (app emp []) (.tup [VI (lobC l t : Int), VB (hasC l t)]) (app emp []) := by
 refine .go Tryd.f63 ?_
 refine .len 0 (fun hl0 => ?_)
 obtain ⟨s1, s2, s3⟩ := lobC_all l t
 refine .loop (α := Nat × Nat) [.r [], .r [(1, X (Xl cellT l))], .r []] 72 (fun (i, j) => ([(0, VL 5 cellT l), (2, .fn 64 []), (4, .ptr 0 0), (8, VI (l.length : Int)), (9, VI (i : Int)), (10, VI (j : Int))], [(0, .box [VI t.row, VI t.col, VS t.text, VI t.ref, VL 2 attrT t.attrs])])) (fun (i, j) => i ≤ lobC l t ∧ lobC l t ≤ j ∧ j ≤ l.length) (fun (i, j) => j - i) (0, l.length) ?_ ?_
 ·
  exact ⟨by omega, by omega, by omega⟩
 rintro ⟨i, j⟩ I3 ih3
 try dsimp only at I3
 refine .br [.r []] (decide ((i : Int) < (j : Int))) (fun h3 => ?_) (fun h3 => ?_)
 ·
  (try simp only [decide_eq_true_eq, decide_eq_false_iff_not, Int.not_lt, Int.not_le] at h3)
  obtain ⟨m, hm⟩ : ∃ m : Nat, ((i : Int) + (j : Int)) / 2 = (m : Int) := ⟨(i + j) / 2, by omega⟩
  refine .br [.r [(2, X (Xn ((i : Int) + (j : Int)))), (3, X (Xcv IntKind.u64 ((i : Int) + (j : Int))) (by simp [IntKind.wrap, IntKind.bits, IntKind.signed]; omega)), (4, X (Xsh IntKind.u64 1 (((i : Int) + (j : Int)).fdiv (2 ^ (min (1 : Int).toNat IntKind.u64.bits))) (((i : Int) + (j : Int)) / 2)) ⟨by decide, (by rw [Int.fdiv_eq_ediv_of_nonneg _ (by decide)]; rfl)⟩), (5, X (Xn (((i : Int) + (j : Int)) / 2)))], .le (.eq 11 (VI (((i : Int) + (j : Int)) / 2)) (VI (m : Int)) (.of_eq (by rw [← hm]))), .r [(3, X (Xi cellT l (m : Int))), (6, X (Xc0 (fc_order ((l.getD m default)) t) X0))]] (decide ((ordC ((l.getD m default)) t) < 0)) (fun h5 => ?_) (fun h5 => ?_)
  ·
   (try simp only [decide_eq_true_eq, decide_eq_false_iff_not, Int.not_lt, Int.not_le] at h5)
   refine .back [.r [(1, X (Xn ((m : Int) + 1)))]] [(0, 0)] (ih3 ((m + 1), j) ?_ ?_)
   ·
    have := lobC_lt hs (m := m) (by omega) h5
    exact ⟨by omega, by omega, by omega⟩
   ·
    ((try dsimp only); omega)
  ·
   (try simp only [decide_eq_true_eq, decide_eq_false_iff_not, Int.not_lt, Int.not_le] at h5)
   refine .back [.r []] [(0, 0)] (ih3 (i, m) ?_ ?_)
   ·
    have := lobC_ge (l := l) (t := t) (m := m) (by omega)
    exact ⟨by omega, by omega, by omega⟩
   ·
    ((try dsimp only); omega)
 ·
  (try simp only [decide_eq_true_eq, decide_eq_false_iff_not, Int.not_lt, Int.not_le] at h3)
  have hi : i = lobC l t := by omega
  have e1 : ((lobC l t : Int) : Int) = (i : Int) := by
   first | omega | (unfold hasC; rw [← hi])
  have e2 : ((hasC l t) : Bool) = (decide ((i : Int) < (l.length : Int)) && ((ordC ((l.getD i default)) t) == 0)) := by
   first | omega | (unfold hasC; rw [← hi])
  exact .finE [.r [(8, Xv 2 (decide ((i : Int) < (l.length : Int))) (Xi cellT l (i : Int))), (9, Xv 1 (decide ((i : Int) < (l.length : Int))) X0), (11, Xv 3 (decide ((i : Int) < (l.length : Int))) (Xc0 (fc_order ((l.getD i default)) t) X0)), (12, Xv 1 (decide ((i : Int) < (l.length : Int))) X0), (13, X (Xk (decide ((i : Int) < (l.length : Int)))))]] [] (fun (z0, z1) => (.tup [VI z0, VB z1], [])) (((i : Int) : Int), ((decide ((i : Int) < (l.length : Int)) && ((ordC ((l.getD i default)) t) == 0)) : Bool)) (((lobC l t : Int) : Int), ((hasC l t) : Bool)) (pr e1 e2)

theorem fc_find (l : List Cell) (m n : Int) (hn : l.length ≤ 100000000000) (hs : SortC l) : FC Tryd.prog 34 [VL 5 cellT l, VI m, VI n] (app emp []) (.tup [VI (lobC l (⟨m, n, { data := #[] }, 0, []⟩ : Cell) : Int), VB (hasC l (⟨m, n, { data := #[] }, 0, []⟩ : Cell))]) (app emp []) := by
 refine .go Tryd.f34 ?_
 refine .len 0 (fun hl0 => ?_)
 have e1 : ((lobC l (⟨m, n, { data := #[] }, 0, []⟩ : Cell) : Int) : Int) = (lobC l ({ row := m, col := n, text := { data := #[] }, ref := 0, attrs := [] } : Cell) : Int) := by
  (first | omega | with_reducible exact fun h => h | (intro hq; rw [hq]; done) | (intro hq; rw [hq]; rfl) | (simp only [List.length_map]; done) | (simp only [List.length_map]; omega) | (simp; omega) | (simp; done))
 have e2 : ((hasC l (⟨m, n, { data := #[] }, 0, []⟩ : Cell)) : Bool) = (hasC l ({ row := m, col := n, text := { data := #[] }, ref := 0, attrs := [] } : Cell)) := by
  (first | omega | with_reducible exact fun h => h | (intro hq; rw [hq]; done) | (intro hq; rw [hq]; rfl) | (simp only [List.length_map]; done) | (simp only [List.length_map]; omega) | (simp; omega) | (simp; done))
 exact .finE [.r [], .r [(3, X (Xf [(4, 2)])), (4, X (Xc0 (fc_bsf l ({ row := m, col := n, text := { data := #[] }, ref := 0, attrs := [] } : Cell) (by omega) (by assumption)) X0))]] [] (fun (z0, z1) => (.tup [VI z0, VB z1], [])) (((lobC l ({ row := m, col := n, text := { data := #[] }, ref := 0, attrs := [] } : Cell) : Int) : Int), ((hasC l ({ row := m, col := n, text := { data := #[] }, ref := 0, attrs := [] } : Cell)) : Bool)) (((lobC l (⟨m, n, { data := #[] }, 0, []⟩ : Cell) : Int) : Int), ((hasC l (⟨m, n, { data := #[] }, 0, []⟩ : Cell)) : Bool)) (pr e1 e2)

theorem fc_at (x : Grid) (m n : Int) (hn : x.cells.length ≤ 100000000000) (hs : SortC x.cells) (ha : CAN 1000000000000 x.cells) : FC Tryd.prog 16 [.t (gridT x), VI m, VI n] (app emp []) (.t (cellT (if hasC x.cells (⟨m, n, { data := #[] }, 0, []⟩ : Cell) = true then x.cells.getD (lobC x.cells (⟨m, n, { data := #[] }, 0, []⟩ : Cell)) default else (⟨m, n, { data := #[] }, 0, []⟩ : Cell)))) (app emp []) := by
 refine .go Tryd.f16 ?_
 refine .br [.r [], .r [(4, X (Xc0 (fc_find x.cells m n (by omega) (by assumption)) X0))], .r []] (!(hasC x.cells (⟨m, n, { data := #[] }, 0, []⟩ : Cell))) (fun h2 => ?_) (fun h2 => ?_)
 ·
  (try simp only [Bool.not_eq_true', Bool.not_eq_false'] at h2)
  have e1 : ((if hasC x.cells (⟨m, n, { data := #[] }, 0, []⟩ : Cell) = true then x.cells.getD (lobC x.cells (⟨m, n, { data := #[] }, 0, []⟩ : Cell)) default else (⟨m, n, { data := #[] }, 0, []⟩ : Cell)) : Cell) = ({ row := m, col := n, text := { data := #[] }, ref := 0, attrs := [] } : Cell) := by
   first | rw [if_pos (by assumption)] | rw [if_neg (by rw [h2]; decide)]
  exact .finVE [.r [], .le (.nB 8 4 2)] [.fR 0 [(0 : Nat) = (List.map attrT []).length] ⟨lm, trivial⟩] [] (fun z0 => (.t (cellT z0), [])) (({ row := m, col := n, text := { data := #[] }, ref := 0, attrs := [] } : Cell) : Cell) ((if hasC x.cells (⟨m, n, { data := #[] }, 0, []⟩ : Cell) = true then x.cells.getD (lobC x.cells (⟨m, n, { data := #[] }, 0, []⟩ : Cell)) default else (⟨m, n, { data := #[] }, 0, []⟩ : Cell)) : Cell) e1
 ·
  (try simp only [Bool.not_eq_true', Bool.not_eq_false'] at h2)
  have hh : lobC x.cells (⟨m, n, { data := #[] }, 0, []⟩ : Cell) < x.cells.length := by (unfold hasC at h2; simp only [Bool.and_eq_true, decide_eq_true_eq] at h2; omega)
  have hm := ha _ (getDX_mem hh)
  have e2 : ((if hasC x.cells (⟨m, n, { data := #[] }, 0, []⟩ : Cell) = true then x.cells.getD (lobC x.cells (⟨m, n, { data := #[] }, 0, []⟩ : Cell)) default else (⟨m, n, { data := #[] }, 0, []⟩ : Cell)) : Cell) = (((x.cells.getD (lobC x.cells (⟨m, n, { data := #[] }, 0, []⟩ : Cell)) default))) := by
   first | rw [if_pos (by assumption)] | rw [if_neg (by rw [h2]; decide)]
  exact .finVE [.r [(3, X (Xi cellT x.cells (lobC x.cells (⟨m, n, { data := #[] }, 0, []⟩ : Cell) : Int))), (5, X (Xc1 152 (fc_clone ((x.cells.getD (lobC x.cells (⟨m, n, { data := #[] }, 0, []⟩ : Cell)) default)) (by omega)) X0))]] [] [] (fun z0 => (.t (cellT z0), [])) ((((x.cells.getD (lobC x.cells (⟨m, n, { data := #[] }, 0, []⟩ : Cell)) default))) : Cell) ((if hasC x.cells (⟨m, n, { data := #[] }, 0, []⟩ : Cell) = true then x.cells.getD (lobC x.cells (⟨m, n, { data := #[] }, 0, []⟩ : Cell)) default else (⟨m, n, { data := #[] }, 0, []⟩ : Cell)) : Cell) e2
end Go.Ch
end
section
set_option linter.unusedVariables false
set_option linter.unusedSimpArgs false
set_option maxRecDepth 100000
set_option maxHeartbeats 4000000
open Go Go.Proofs Go.Ab
namespace Go.Ch
end Go.Ch
end
section
set_option linter.unusedVariables false
namespace Go.Ch
open Go Go.Ab

def plc (c : Cell) : Cell := ⟨c.row, c.col, { data := #[] }, 0, []⟩
def pairY (a b : GEd) : GEd :=
  ⟨pB a.rows b.rows, pB a.cols b.cols, movL b.cells (pA a.rows b.rows) (pA a.cols b.cols), rectL b.split (pA a.rows b.rows) (pA a.cols b.cols), rectL b.merge (pA a.rows b.rows) (pA a.cols b.cols)⟩
def pairX (a b : GEd) : GEd :=
  ⟨pA a.rows b.rows, pA a.cols b.cols, delL (fun c => hasC (movL b.cells (pA a.rows b.rows) (pA a.cols b.cols)) ⟨c.row, c.col, { data := #[] }, 0, []⟩) (movL a.cells (pB a.rows b.rows) (pB a.cols b.cols)), rectL a.split (pB a.rows b.rows) (pB a.cols b.cols), rectL a.merge (pB a.rows b.rows) (pB a.cols b.cols)⟩
/-- What one edit's parts ask of the changes that they go through. -/
structure ThrIn (e : GEd) (rows cols : List AxStep) : Prop where
  v1 : 0 < rows.length → Valid rows
  v2 : 0 < cols.length → Valid cols
  l1 : e.cells.length ≤ 100000000000
  l2 : e.split.length ≤ 100000000000
  l3 : e.merge.length ≤ 100000000000
  rch : RchOk e (mxS rows) (mxS cols)
  can : CAN 1000000000000 e.cells
  p1 : ∀ c ∈ e.cells, PIn rows c.row
  p2 : ∀ c ∈ e.cells, PIn cols c.col
  q1 : ∀ r ∈ e.split, QIn rows cols r
  q2 : ∀ r ∈ e.merge, QIn rows cols r
structure PairIn (a b : GEd) : Prop where
  ea : EdOk a
  eb : EdOk b
  pr : 0 < a.rows.length → 0 < b.rows.length → PairOk a.rows b.rows
  pc : 0 < a.cols.length → 0 < b.cols.length → PairOk a.cols b.cols
  l1 : a.rows.length ≤ 1000000000000 ∧ b.rows.length ≤ 1000000000000
  l2 : a.cols.length ≤ 1000000000000 ∧ b.cols.length ≤ 1000000000000
  ta : ThrIn a (pB a.rows b.rows) (pB a.cols b.cols)
  tb : ThrIn b (pA a.rows b.rows) (pA a.cols b.cols)
  srt : SortC (movL b.cells (pA a.rows b.rows) (pA a.cols b.cols))
end Go.Ch
end
section
set_option linter.unusedVariables false
set_option linter.unusedSimpArgs false
set_option maxRecDepth 100000
set_option maxHeartbeats 4000000
open Go Go.Proofs Go.Ab
namespace Go.Ch
end Go.Ch
end
section
set_option linter.unusedVariables false
namespace Go.Ch
open Go Go.Ab

/-- The number that a position draws. -/
def drwI (raw : List Int) (a i : Nat) (hi : Int) : Int := withinI (IntKind.i64.wrap (raw.getD (a % raw.length) default + ((i / raw.length : Nat) : Int))) 0 hi
def edC (raw : List Int) (text : ByteArray) (cols r c : Nat) : List Cell :=
  if raw.length = 0 then [] else if drwI raw (r * cols + c + 1) (r * cols + c) 7 = 0 then [⟨r, c, text, 0, []⟩] else if drwI raw (r * cols + c + 1) (r * cols + c) 7 = 1 then [⟨r, c, { data := #[] }, 0, []⟩] else []
def edR (raw : List Int) (text : ByteArray) (cols r c : Nat) : List Cell := (List.range c).flatMap (edC raw text cols r)
def edA (raw : List Int) (text : ByteArray) (cols r : Nat) : List Cell := (List.range r).flatMap fun r => edR raw text cols r cols
def fitR (raw : List Int) (n : Int) : List AxStep := stepsL (fitU raw n.toNat) 0 []
def edM (raw : List Int) (rows cols : Int) (ms : Bool) : List Rect :=
  if ms = true ∧ 1 < rows ∧ 1 < cols ∧ 0 < raw.length then [⟨withinI (raw.getD 0 default) 0 (rows - 2), withinI (raw.getD (raw.length - 1) default) 0 (cols - 2), 2, 2⟩] else []
def editE (x : Grid) (raw : List Int) (text : ByteArray) (ms : Bool) : GEd :=
  let R := fitR (raw.take (raw.length / 2)) x.rows
  let C := fitR (raw.drop (raw.length / 2)) x.cols
  ⟨R, C, edA raw text (newI C).toNat (newI R).toNat, [], edM raw (newI R) (newI C) ms⟩
theorem edR_succ (raw : List Int) (text : ByteArray) (cols r c : Nat) : edR raw text cols r (c + 1) = edR raw text cols r c ++ edC raw text cols r c := by
  unfold edR; rw [List.range_succ, List.flatMap_append]; simp
theorem edA_succ (raw : List Int) (text : ByteArray) (cols r : Nat) : edA raw text cols (r + 1) = edA raw text cols r ++ edR raw text cols r cols := by
  unfold edA; rw [List.range_succ, List.flatMap_append]; simp
theorem edC_len (raw : List Int) (text : ByteArray) (cols r c : Nat) : (edC raw text cols r c).length ≤ 1 := by
  unfold edC; repeat' split
  all_goals simp
theorem edR_len (raw : List Int) (text : ByteArray) (cols r : Nat) : ∀ c, (edR raw text cols r c).length ≤ c
  | 0 => by simp [edR]
  | c + 1 => by
    rw [edR_succ, List.length_append]
    have := edR_len raw text cols r c; have := edC_len raw text cols r c; omega
theorem edA_len (raw : List Int) (text : ByteArray) (cols : Nat) : ∀ r, (edA raw text cols r).length ≤ r * cols
  | 0 => by simp [edA]
  | r + 1 => by
    rw [edA_succ, List.length_append, Nat.succ_mul]
    have := edA_len raw text cols r; have := edR_len raw text cols r cols; omega
/-- The board's cells. -/
def bdT (v : Int) : ByteArray := ⟨#[UInt8.ofNat (97 + v).toNat]⟩
def bdC (raw : List Int) (cols r c : Nat) : List Cell := if 0 < raw.length then (if 1 < drwI raw (r * cols + c) (r * cols + c) 4 then [⟨r, c, bdT (drwI raw (r * cols + c) (r * cols + c) 4), 0, []⟩] else []) else []
def bdR (raw : List Int) (cols r c : Nat) : List Cell := (List.range c).flatMap (bdC raw cols r)
def bdA (raw : List Int) (cols r : Nat) : List Cell := (List.range r).flatMap fun r => bdR raw cols r cols
def boardG (rows cols : Int) (raw : List Int) : Grid := ⟨rows, cols, bdA raw cols.toNat rows.toNat, []⟩
end Go.Ch
end
section
set_option linter.unusedVariables false
set_option linter.unusedSimpArgs false
set_option maxRecDepth 100000
set_option maxHeartbeats 4000000
open Go Go.Proofs Go.Ab
namespace Go.Ch
end Go.Ch
end
section
set_option linter.unusedVariables false
set_option linter.unusedSimpArgs false
set_option maxRecDepth 100000
set_option maxHeartbeats 4000000
open Go Go.Proofs Go.Ab
namespace Go.Ch
theorem fc_editing (x : Grid) (raw : List Int) (text : ByteArray) (ms : Bool) (h1 : 0 ≤ x.rows ∧ x.rows ≤ 1000) (h2 : 0 ≤ x.cols ∧ x.cols ≤ 1000) : FC Tryd.prog 8 [.t (gridT x), VL 1 intT raw, VS text, VB ms] (app emp []) (.t (gedT (editE x raw text ms))) (app emp []) := by
 refine .go Tryd.f8 ?_
 refine .len 1 (fun hl1 => ?_)
 obtain ⟨Va, Oa, La, Ua⟩ := fit_ok (raw.take (raw.length / 2)) x.rows (by omega) (by omega)
 obtain ⟨Vb, Ob, Lb, Ub⟩ := fit_ok (raw.drop (raw.length / 2)) x.cols (by omega) (by omega)
 have hda : editE x raw text ms = ⟨(stepsL (fitU (raw.take (raw.length / 2)) (Int.toNat x.rows)) 0 []), (stepsL (fitU (raw.drop (raw.length / 2)) (Int.toNat x.cols)) 0 []), edA raw text (newI (stepsL (fitU (raw.drop (raw.length / 2)) (Int.toNat x.cols)) 0 [])).toNat (newI (stepsL (fitU (raw.take (raw.length / 2)) (Int.toNat x.rows)) 0 [])).toNat, [], edM raw (newI (stepsL (fitU (raw.take (raw.length / 2)) (Int.toNat x.rows)) 0 [])) (newI (stepsL (fitU (raw.drop (raw.length / 2)) (Int.toNat x.cols)) 0 [])) ms⟩ := rfl
 obtain ⟨rn, hrn⟩ : ∃ k : Nat, newI (stepsL (fitU (raw.take (raw.length / 2)) (Int.toNat x.rows)) 0 []) = (k : Int) := ⟨_, rfl⟩
 rw [hrn] at La Ua
 obtain ⟨cn, hcn⟩ : ∃ k : Nat, newI (stepsL (fitU (raw.drop (raw.length / 2)) (Int.toNat x.cols)) 0 []) = (k : Int) := ⟨_, rfl⟩
 rw [hcn] at Lb Ub
 rw [hrn, hcn] at hda
 refine .loop (α := Nat × (List Cell)) [.r [], .r [], .r [(1, X (Xl intT raw))], .le (.nB 16 2 5), .le (.nB 16 4 4), .r [(4, X (Xquo (raw.length : Int) 2)), (5, X (Xst intT 1 raw ((raw.length : Int) / 2))), (6, X (Xc1 98 (fc_fitting x.rows (raw.take (raw.length / 2)) (by omega)) X0)), (11, X (Xquo (raw.length : Int) 2)), (12, X (Xsd intT 1 raw ((raw.length : Int) / 2))), (13, X (Xc1 154 (fc_fitting x.cols (raw.drop (raw.length / 2)) (by omega)) X0))], .r [(2, X (Xc0 (fc_axLengths (stepsL (fitU (raw.take (raw.length / 2)) (Int.toNat x.rows)) 0 []) (by assumption)) X0))], .le (.eq 12 (VI (newI (stepsL (fitU (raw.take (raw.length / 2)) (Int.toNat x.rows)) 0 []))) (VI (rn : Int)) (.of_eq (by rw [hrn]))), .r [(2, X (Xc0 (fc_axLengths (stepsL (fitU (raw.drop (raw.length / 2)) (Int.toNat x.cols)) 0 []) (by assumption)) X0))], .le (.eq 15 (VI (newI (stepsL (fitU (raw.drop (raw.length / 2)) (Int.toNat x.cols)) 0 []))) (VI (cn : Int)) (.of_eq (by rw [hcn]))), .r []] 370 (fun (r, oa) => ([(1, VL 1 intT raw), (2, VS text), (3, VB ms), (8, .ptr 8 0), (9, .ptr 16 0), (10, VI (raw.length : Int)), (12, VI (rn : Int)), (15, VI (cn : Int)), (52, VI (rn : Int)), (53, VI (r : Int))], [(8, .box [VN, VN, VN, VN, VN]), (16, .box [VL 2 stepT (stepsL (fitU (raw.take (raw.length / 2)) (Int.toNat x.rows)) 0 []), VL 2 stepT (stepsL (fitU (raw.drop (raw.length / 2)) (Int.toNat x.cols)) 0 []), .row 48 oa.length, VN, .row 49 0]), (48, OR 5 cellT oa), (49, OR 4 rectT [])])) (fun (r, oa) => r ≤ rn ∧ oa = edA raw text cn r) (fun (r, oa) => rn - r) (0, []) ?_ ?_
 ·
  exact ⟨by omega, rfl⟩
 rintro ⟨r, oa⟩ I7 ih7
 try dsimp only at I7
 have ol : oa.length ≤ r * cn := by rw [I7.2]; exact edA_len raw text cn r
 refine .br [.r []] (decide ((r : Int) < (rn : Int))) (fun h7 => ?_) (fun h7 => ?_)
 ·
  (try simp only [decide_eq_true_eq, decide_eq_false_iff_not, Int.not_lt, Int.not_le] at h7)
  refine .loop (α := Nat × (List Cell)) [.r [], .r []] 410 (fun (c, ob) => ([(1, VL 1 intT raw), (2, VS text), (3, VB ms), (8, .ptr 8 0), (9, .ptr 16 0), (10, VI (raw.length : Int)), (12, VI (rn : Int)), (15, VI (cn : Int)), (17, VI (r : Int)), (52, VI (rn : Int)), (53, VI (r : Int)), (56, VI (cn : Int)), (57, VI (c : Int))], [(8, .box [VN, VN, VN, VN, VN]), (16, .box [VL 2 stepT (stepsL (fitU (raw.take (raw.length / 2)) (Int.toNat x.rows)) 0 []), VL 2 stepT (stepsL (fitU (raw.drop (raw.length / 2)) (Int.toNat x.cols)) 0 []), .row 48 ob.length, VN, .row 49 0]), (48, OR 5 cellT ob), (49, OR 4 rectT [])])) (fun (c, ob) => c ≤ cn ∧ ob = oa ++ edR raw text cn r c) (fun (c, ob) => cn - c) (0, oa) ?_ ?_
  ·
   exact ⟨by omega, by simp [edR]⟩
  rintro ⟨c, ob⟩ I10 ih10
  try dsimp only at I10
  have obl : ob.length ≤ r * cn + c := by (rw [I10.2, List.length_append]; have := edR_len raw text cn r c; omega)
  refine .br [.r []] (decide ((c : Int) < (cn : Int))) (fun h10 => ?_) (fun h10 => ?_)
  ·
   (try simp only [decide_eq_true_eq, decide_eq_false_iff_not, Int.not_lt, Int.not_le] at h10)
   refine .br [.r [], .r []] ((raw.length : Int) == 0) (fun h12 => ?_) (fun h12 => ?_)
   ·
    (try simp only [beq_iff_eq, beq_eq_false_iff_ne, ne_eq] at h12)
    refine .back [.r [(0, X (Xn ((c : Int) + 1)))]] [(8, 8), (16, 16), (48, 48), (49, 49)] (ih10 ((c + 1), ob) ?_ ?_)
    ·
     refine ⟨by omega, ?_⟩
     rw [I10.2, edR_succ]
     (first | (rw [hbc, List.append_assoc, if_pos (by omega)]) | (rw [hbc, List.append_assoc, if_neg (by omega), if_pos (by omega)]) | (rw [hbc, if_neg (by omega), if_neg (by omega), List.append_nil]) | (unfold edC; rw [if_pos (by omega), List.append_nil]))
    ·
     ((try dsimp only); omega)
   ·
    (try simp only [beq_iff_eq, beq_eq_false_iff_ne, ne_eq] at h12)
    have hmul : r * cn ≤ 10000000000 := Nat.le_trans (Nat.mul_le_mul (show r ≤ 100000 by omega) (show cn ≤ 100000 by omega)) (by decide)
    have hp : (r : Int) * (cn : Int) + (c : Int) = ((r * cn + c : Nat) : Int) := by rw [Int.natCast_add, Int.natCast_mul]
    have hmi : (r : Int) * (cn : Int) = ((r * cn : Nat) : Int) := (Int.natCast_mul ..).symm
    obtain ⟨p, hpn⟩ : ∃ p, r * cn + c = p := ⟨_, rfl⟩
    rw [hpn] at hp
    obtain ⟨v, hv⟩ : ∃ v, drwI raw (p + 1) p 7 = v := ⟨_, rfl⟩
    have hv2 : withinI (IntKind.i64.wrap (raw.getD (Int.toNat ((((p : Int) + 1) : Int) % (raw.length : Int))) default + (p : Int) / (raw.length : Int))) 0 7 = v := hv
    have hvb : 0 ≤ v ∧ v ≤ 7 := by rw [← hv2]; exact withinI_bd _ (by decide)
    have hbc : edC raw text cn r c = if v = 0 then [⟨r, c, text, 0, []⟩] else if v = 1 then [⟨r, c, { data := #[] }, 0, []⟩] else [] := by unfold edC; rw [if_neg (show ¬ raw.length = 0 by omega), hpn, hv]
    refine .br [.r [(2, X (Xn ((r : Int) * (cn : Int))) (by omega)), (4, X (Xn (((r : Int) * (cn : Int)) + (c : Int))))], .le (.eq 19 (VI (((r : Int) * (cn : Int)) + (c : Int))) (VI (p : Int)) (.of_eq (by rw [hp]))), .r [(2, X (Xn ((p : Int) + 1))), (4, X (Xrem ((p : Int) + 1) (raw.length : Int))), (5, X (Xi intT raw (((p : Int) + 1) % (raw.length : Int))) ⟨(Int.emod_nonneg _ (by omega)), (Int.emod_lt_of_pos _ (by omega))⟩), (9, X (Xquo (p : Int) (raw.length : Int))), (11, X (Xc0 (fc_within (IntKind.i64.wrap ((raw.getD (Int.toNat (((p : Int) + 1) % (raw.length : Int))) default) + ((p : Int) / (raw.length : Int)))) 0 7 (by omega)) X0))], .le (.eq 78 (VI (withinI (IntKind.i64.wrap ((raw.getD (Int.toNat (((p : Int) + 1) % (raw.length : Int))) default) + ((p : Int) / (raw.length : Int)))) 0 7)) (VI v) (.of_eq (by rw [hv2]))), .r []] (v == 0) (fun h15 => ?_) (fun h15 => ?_)
    ·
     (try simp only [beq_iff_eq, beq_eq_false_iff_ne, ne_eq] at h15)
     refine .back [.r [(5, X (Xf [(4, 2)])), (7, X (rowC cellT [({ row := (r : Int), col := (c : Int), text := text, ref := 0, attrs := [] } : Cell)] (Xap 5 cellT 48 ob [({ row := (r : Int), col := (c : Int), text := text, ref := 0, attrs := [] } : Cell)])) (by simp only [List.length_cons, List.length_nil]; omega))], .r [(0, X (Xn ((c : Int) + 1)))]] [(8, 8), (16, 16), (48, 48), (49, 49)] (ih10 ((c + 1), (ob ++ [({ row := (r : Int), col := (c : Int), text := text, ref := 0, attrs := [] } : Cell)])) ?_ ?_)
     ·
      refine ⟨by omega, ?_⟩
      rw [I10.2, edR_succ]
      (first | (rw [hbc, List.append_assoc, if_pos (by omega)]) | (rw [hbc, List.append_assoc, if_neg (by omega), if_pos (by omega)]) | (rw [hbc, if_neg (by omega), if_neg (by omega), List.append_nil]) | (unfold edC; rw [if_pos (by omega), List.append_nil]))
     ·
      ((try dsimp only); omega)
    ·
     (try simp only [beq_iff_eq, beq_eq_false_iff_ne, ne_eq] at h15)
     refine .br [.r []] (v == 1) (fun h17 => ?_) (fun h17 => ?_)
     ·
      (try simp only [beq_iff_eq, beq_eq_false_iff_ne, ne_eq] at h17)
      refine .back [.r [(4, X (Xf [(4, 2)])), (6, X (rowC cellT [({ row := (r : Int), col := (c : Int), text := { data := #[] }, ref := 0, attrs := [] } : Cell)] (Xap 5 cellT 48 ob [({ row := (r : Int), col := (c : Int), text := { data := #[] }, ref := 0, attrs := [] } : Cell)])) (by simp only [List.length_cons, List.length_nil]; omega))], .r [(0, X (Xn ((c : Int) + 1)))]] [(8, 8), (16, 16), (48, 48), (49, 49)] (ih10 ((c + 1), (ob ++ [({ row := (r : Int), col := (c : Int), text := { data := #[] }, ref := 0, attrs := [] } : Cell)])) ?_ ?_)
      ·
       refine ⟨by omega, ?_⟩
       rw [I10.2, edR_succ]
       (first | (rw [hbc, List.append_assoc, if_pos (by omega)]) | (rw [hbc, List.append_assoc, if_neg (by omega), if_pos (by omega)]) | (rw [hbc, if_neg (by omega), if_neg (by omega), List.append_nil]) | (unfold edC; rw [if_pos (by omega), List.append_nil]))
      ·
       ((try dsimp only); omega)
     ·
      (try simp only [beq_iff_eq, beq_eq_false_iff_ne, ne_eq] at h17)
      refine .back [.r [(0, X (Xn ((c : Int) + 1)))]] [(8, 8), (16, 16), (48, 48), (49, 49)] (ih10 ((c + 1), ob) ?_ ?_)
      ·
       refine ⟨by omega, ?_⟩
       rw [I10.2, edR_succ]
       (first | (rw [hbc, List.append_assoc, if_pos (by omega)]) | (rw [hbc, List.append_assoc, if_neg (by omega), if_pos (by omega)]) | (rw [hbc, if_neg (by omega), if_neg (by omega), List.append_nil]) | (unfold edC; rw [if_pos (by omega), List.append_nil]))
      ·
       ((try dsimp only); omega)
  ·
   (try simp only [decide_eq_true_eq, decide_eq_false_iff_not, Int.not_lt, Int.not_le] at h10)
   refine .back [.r [(0, X (Xn ((r : Int) + 1)))]] [(8, 8), (16, 16), (48, 48), (49, 49)] (ih7 ((r + 1), ob) ?_ ?_)
   ·
    refine ⟨by omega, ?_⟩
    rw [I10.2, I7.2, edA_succ, show c = cn by omega]
   ·
    ((try dsimp only); omega)
 ·
  (try simp only [decide_eq_true_eq, decide_eq_false_iff_not, Int.not_lt, Int.not_le] at h7)
  have hoa : edA raw text cn rn = oa := by rw [I7.2, show r = rn by omega]
  have hda2 : editE x raw text ms = ⟨(stepsL (fitU (raw.take (raw.length / 2)) (Int.toNat x.rows)) 0 []), (stepsL (fitU (raw.drop (raw.length / 2)) (Int.toNat x.cols)) 0 []), oa, [], edM raw (rn : Int) (cn : Int) ms⟩ := by rw [hda, ← hoa]; rfl
  refine .br [.r [(3, Xv 1 ms X0), (4, X (Xk ms)), (7, Xv 1 (ms && decide ((rn : Int) > 1)) X0), (8, X (Xk (ms && decide ((rn : Int) > 1)))), (11, Xv 1 ((ms && decide ((rn : Int) > 1)) && decide ((cn : Int) > 1)) X0), (12, X (Xk ((ms && decide ((rn : Int) > 1)) && decide ((cn : Int) > 1))))]] (((ms && decide ((rn : Int) > 1)) && decide ((cn : Int) > 1)) && decide ((raw.length : Int) > 0)) (fun h21 => ?_) (fun h21 => ?_)
  ·
   (try simp only [decide_eq_true_eq, decide_eq_false_iff_not, Int.not_lt, Int.not_le, gt_iff_lt, Bool.and_eq_true, Bool.and_eq_false_iff, Bool.not_eq_true', Bool.not_eq_false'] at h21)
   have e1 : ((editE x raw text ms) : GEd) = ({ rows := (stepsL (fitU (raw.take (raw.length / 2)) (Int.toNat x.rows)) 0 []), cols := (stepsL (fitU (raw.drop (raw.length / 2)) (Int.toNat x.cols)) 0 []), cells := oa, split := [], merge := ([] ++ [({ row := (withinI (raw.getD 0 default) 0 ((rn : Int) - 2)), col := (withinI (raw.getD (raw.length - 1) default) 0 ((cn : Int) - 2)), h := 2, w := 2 } : Rect)]) } : GEd) := by
    rw [hda2]; unfold edM
    (first | (rw [if_pos (by simp_all)]; rfl) | (rw [if_neg (fun q => by (obtain ⟨q1, q2, q3, q4⟩ := q; rcases h21 with ((h | h) | h) | h; (rw [q1] at h; cases h); (omega); (omega); (omega)))]))
   exact .finVE [.r [(3, X (Xi intT raw 0)), (6, X (Xn ((rn : Int) - 2))), (7, X (Xc0 (fc_within (raw.getD 0 default) 0 ((rn : Int) - 2) (by omega)) X0)), (10, X (Xn ((raw.length : Int) - 1))), (11, X (Xi' intT raw ((raw.length : Int) - 1) (raw.length - 1))), (14, X (Xn ((cn : Int) - 2))), (15, X (Xc0 (fc_within (raw.getD (raw.length - 1) default) 0 ((cn : Int) - 2) (by omega)) X0)), (18, X (rowC rectT [({ row := (withinI (raw.getD 0 default) 0 ((rn : Int) - 2)), col := (withinI (raw.getD (raw.length - 1) default) 0 ((cn : Int) - 2)), h := 2, w := 2 } : Rect)] (Xap 4 rectT 49 [] [({ row := (withinI (raw.getD 0 default) 0 ((rn : Int) - 2)), col := (withinI (raw.getD (raw.length - 1) default) 0 ((cn : Int) - 2)), h := 2, w := 2 } : Rect)])))], .r [], .le (.nB 8 3 4)] [.fR 0 [(oa.length : Nat) = (List.map cellT oa).length, (0 : Nat) = (List.map rectT []).length, ((([] ++ [({ row := (withinI (raw.getD 0 default) 0 ((rn : Int) - 2)), col := (withinI (raw.getD (raw.length - 1) default) 0 ((cn : Int) - 2)), h := 2, w := 2 } : Rect)]).length) : Nat) = (List.map rectT ([] ++ [({ row := (withinI (raw.getD 0 default) 0 ((rn : Int) - 2)), col := (withinI (raw.getD (raw.length - 1) default) 0 ((cn : Int) - 2)), h := 2, w := 2 } : Rect)])).length] ⟨lm, lm, lm, trivial⟩] [] (fun z0 => (.t (gedT z0), [])) (({ rows := (stepsL (fitU (raw.take (raw.length / 2)) (Int.toNat x.rows)) 0 []), cols := (stepsL (fitU (raw.drop (raw.length / 2)) (Int.toNat x.cols)) 0 []), cells := oa, split := [], merge := ([] ++ [({ row := (withinI (raw.getD 0 default) 0 ((rn : Int) - 2)), col := (withinI (raw.getD (raw.length - 1) default) 0 ((cn : Int) - 2)), h := 2, w := 2 } : Rect)]) } : GEd) : GEd) ((editE x raw text ms) : GEd) e1
  ·
   (try simp only [decide_eq_true_eq, decide_eq_false_iff_not, Int.not_lt, Int.not_le, gt_iff_lt, Bool.and_eq_true, Bool.and_eq_false_iff, Bool.not_eq_true', Bool.not_eq_false'] at h21)
   have e2 : ((editE x raw text ms) : GEd) = ({ rows := (stepsL (fitU (raw.take (raw.length / 2)) (Int.toNat x.rows)) 0 []), cols := (stepsL (fitU (raw.drop (raw.length / 2)) (Int.toNat x.cols)) 0 []), cells := oa, split := [], merge := [] } : GEd) := by
    rw [hda2]; unfold edM
    (first | (rw [if_pos (by simp_all)]; rfl) | (rw [if_neg (fun q => by (obtain ⟨q1, q2, q3, q4⟩ := q; rcases h21 with ((h | h) | h) | h; (rw [q1] at h; cases h); (omega); (omega); (omega)))]))
   exact .finVE [.r [], .le (.nB 8 3 4)] [.fR 0 [(oa.length : Nat) = (List.map cellT oa).length, (0 : Nat) = (List.map rectT []).length, (0 : Nat) = (List.map rectT []).length] ⟨lm, lm, lm, trivial⟩] [] (fun z0 => (.t (gedT z0), [])) (({ rows := (stepsL (fitU (raw.take (raw.length / 2)) (Int.toNat x.rows)) 0 []), cols := (stepsL (fitU (raw.drop (raw.length / 2)) (Int.toNat x.cols)) 0 []), cells := oa, split := [], merge := [] } : GEd) : GEd) ((editE x raw text ms) : GEd) e2
end Go.Ch
end
section
set_option linter.unusedVariables false
namespace Go.Ch
open Go Go.Ab

def gP : Grid := ⟨1, 1, [], []⟩
def cP : Cell := ⟨0, 0, { data := #[120] }, 0, []⟩
def eP : GEd := ⟨[], [], [cP], [], []⟩
theorem valid_nil : Valid [] := check_iff.1 (by decide +kernel)
theorem probe_gr : gridE gP = 0 := by decide +kernel
theorem probe_ed : edE eP = 0 := by decide +kernel
theorem probe_fit : fitE gP eP = 0 := by decide +kernel
theorem probe_app : AppIn gP eP where
  hg := probe_gr
  he := edE_ok probe_ed
  hf := fitE_ok probe_fit
  raw := ⟨fun h => absurd h (by decide), fun h => absurd h (by decide), by decide, by decide, by decide, by decide, fun c hc => (by cases hc), fun c hc => (by rw [List.mem_singleton.1 hc]; decide), fun c hc => (by cases hc), fun c hc => (by cases hc), fun r hr => (by cases hr), fun r hr => (by cases hr)⟩
  l5 := by decide
theorem probe_cells : (rawGr gP eP).cells = [cP] := by
  show putL [cP] (movL [] [] []) = [cP]
  have h1 : movL [] [] [] = [] := rfl
  have he : emptyC cP = false := by decide +kernel
  rw [h1, putL, putC, he]
  rfl
theorem probe_sort : SortC (rawGr gP eP).cells := by
  rw [probe_cells]
  intro p q h1 h2
  simp only [List.length_cons, List.length_nil] at h2
  omega
theorem probe_can : CAN 1000000000000 (rawGr gP eP).cells := by
  rw [probe_cells]
  intro c hc
  rw [List.mem_singleton.1 hc]; decide
end Go.Ch
end
section
set_option linter.unusedVariables false
set_option linter.unusedSimpArgs false
set_option maxRecDepth 100000
set_option maxHeartbeats 4000000
open Go Go.Proofs Go.Ab
namespace Go.Ch
theorem fc_grids  : FC Tryd.prog 5 [] (app emp []) (VB true) (app emp []) := by
 refine .go Tryd.f5 ?_
 have P1 := probe_app
 have P2 := probe_sort
 have P3 := probe_can
 have P4 := probe_cells
 unfold eP cP gP at P1 P2 P3 P4
 have P5 := congrArg List.length P4
 rw [List.length_singleton] at P5
 have e1 : (((true && (((((rawGr ({ rows := 1, cols := 1, cells := [], merges := [] } : Grid) ({ rows := [], cols := [], cells := [({ row := 0, col := 0, text := { data := #[120] }, ref := 0, attrs := [] } : Cell)], split := [], merge := [] } : GEd))).cells).length : Int) == 1)) && seq (((if hasC (((rawGr ({ rows := 1, cols := 1, cells := [], merges := [] } : Grid) ({ rows := [], cols := [], cells := [({ row := 0, col := 0, text := { data := #[120] }, ref := 0, attrs := [] } : Cell)], split := [], merge := [] } : GEd)))).cells (⟨0, 0, { data := #[] }, 0, []⟩ : Cell) = true then (((rawGr ({ rows := 1, cols := 1, cells := [], merges := [] } : Grid) ({ rows := [], cols := [], cells := [({ row := 0, col := 0, text := { data := #[120] }, ref := 0, attrs := [] } : Cell)], split := [], merge := [] } : GEd)))).cells.getD (lobC (((rawGr ({ rows := 1, cols := 1, cells := [], merges := [] } : Grid) ({ rows := [], cols := [], cells := [({ row := 0, col := 0, text := { data := #[120] }, ref := 0, attrs := [] } : Cell)], split := [], merge := [] } : GEd)))).cells (⟨0, 0, { data := #[] }, 0, []⟩ : Cell)) default else (⟨0, 0, { data := #[] }, 0, []⟩ : Cell))).text) ({ data := #[120] })) : Bool) = true := by
  rw [P4]; decide +kernel
 exact .finE [.r [], .r [(0, X (Xf [(2, 5), (3, 4)])), (1, X (Xf [(4, 2)])), (3, X (Xf [(0, 2), (1, 2), (3, 4), (4, 4)])), (4, X (Xc1 40 (fc_gapply ({ rows := 1, cols := 1, cells := [], merges := [] } : Grid) ({ rows := [], cols := [], cells := [({ row := 0, col := 0, text := { data := #[120] }, ref := 0, attrs := [] } : Cell)], split := [], merge := [] } : GEd) (by assumption)) (rowC cellT [({ row := 0, col := 0, text := { data := #[120] }, ref := 0, attrs := [] } : Cell)] X0)))], .r [(4, Xv 1 true X0), (5, Xv 1 true (Xl cellT (((rawGr ({ rows := 1, cols := 1, cells := [], merges := [] } : Grid) ({ rows := [], cols := [], cells := [({ row := 0, col := 0, text := { data := #[120] }, ref := 0, attrs := [] } : Cell)], split := [], merge := [] } : GEd))).cells))), (6, Xv 1 true X0), (7, X (Xk true)), (10, Xv 1 (true && (((((rawGr ({ rows := 1, cols := 1, cells := [], merges := [] } : Grid) ({ rows := [], cols := [], cells := [({ row := 0, col := 0, text := { data := #[120] }, ref := 0, attrs := [] } : Cell)], split := [], merge := [] } : GEd))).cells).length : Int) == 1)) (Xc1 176 (fc_at ((rawGr ({ rows := 1, cols := 1, cells := [], merges := [] } : Grid) ({ rows := [], cols := [], cells := [({ row := 0, col := 0, text := { data := #[120] }, ref := 0, attrs := [] } : Cell)], split := [], merge := [] } : GEd))) 0 0 (by omega) (by assumption) (by assumption)) X0)), (11, Xv 1 (true && (((((rawGr ({ rows := 1, cols := 1, cells := [], merges := [] } : Grid) ({ rows := [], cols := [], cells := [({ row := 0, col := 0, text := { data := #[120] }, ref := 0, attrs := [] } : Cell)], split := [], merge := [] } : GEd))).cells).length : Int) == 1)) X0), (12, Xv 1 (true && (((((rawGr ({ rows := 1, cols := 1, cells := [], merges := [] } : Grid) ({ rows := [], cols := [], cells := [({ row := 0, col := 0, text := { data := #[120] }, ref := 0, attrs := [] } : Cell)], split := [], merge := [] } : GEd))).cells).length : Int) == 1)) X0), (13, X (Xk (true && (((((rawGr ({ rows := 1, cols := 1, cells := [], merges := [] } : Grid) ({ rows := [], cols := [], cells := [({ row := 0, col := 0, text := { data := #[120] }, ref := 0, attrs := [] } : Cell)], split := [], merge := [] } : GEd))).cells).length : Int) == 1))))]] [] (fun z0 => (VB z0, [])) (((true && (((((rawGr ({ rows := 1, cols := 1, cells := [], merges := [] } : Grid) ({ rows := [], cols := [], cells := [({ row := 0, col := 0, text := { data := #[120] }, ref := 0, attrs := [] } : Cell)], split := [], merge := [] } : GEd))).cells).length : Int) == 1)) && seq (((if hasC (((rawGr ({ rows := 1, cols := 1, cells := [], merges := [] } : Grid) ({ rows := [], cols := [], cells := [({ row := 0, col := 0, text := { data := #[120] }, ref := 0, attrs := [] } : Cell)], split := [], merge := [] } : GEd)))).cells (⟨0, 0, { data := #[] }, 0, []⟩ : Cell) = true then (((rawGr ({ rows := 1, cols := 1, cells := [], merges := [] } : Grid) ({ rows := [], cols := [], cells := [({ row := 0, col := 0, text := { data := #[120] }, ref := 0, attrs := [] } : Cell)], split := [], merge := [] } : GEd)))).cells.getD (lobC (((rawGr ({ rows := 1, cols := 1, cells := [], merges := [] } : Grid) ({ rows := [], cols := [], cells := [({ row := 0, col := 0, text := { data := #[120] }, ref := 0, attrs := [] } : Cell)], split := [], merge := [] } : GEd)))).cells (⟨0, 0, { data := #[] }, 0, []⟩ : Cell)) default else (⟨0, 0, { data := #[] }, 0, []⟩ : Cell))).text) ({ data := #[120] })) : Bool) (true : Bool) e1.symm
end Go.Ch
end
section
set_option linter.unusedVariables false
namespace Go.Ch
open Go Go.Ab

/-- Strictly ascending. -/
def Asc : List Cell → Prop
  | [] => True
  | c :: l => (∀ x ∈ l, ordC c x < 0) ∧ Asc l
theorem ordC_trans {a b c : Cell} (h1 : ordC a b < 0) (h2 : ordC b c < 0) : ordC a c < 0 := by
  rw [ordC_lt] at *; omega
theorem ordC_le_trans {a b c : Cell} (h1 : ordC a b ≤ 0) (h2 : ordC b c < 0) : ordC a c < 0 := by
  have : ¬ 0 < ordC a b := by omega
  rw [ordC_lt] at *
  rw [ordC_def] at h1
  repeat' split at h1
  all_goals omega
theorem ordC_flip {a b : Cell} : 0 < ordC a b ↔ ordC b a < 0 := by
  rw [ordC_lt, ordC_def]; repeat' split
  all_goals omega
theorem asc_sort : ∀ {l : List Cell}, Asc l → SortC l
  | [], _, p, q, h1, h2 => by simp at h2
  | c :: l, ⟨h, k⟩, p, q, h1, h2 => by
    cases q with
    | zero => omega
    | succ q =>
      cases p with
      | zero => exact h _ (getDX_mem (by simpa using h2))
      | succ p => exact asc_sort k p q (by omega) (by simpa using h2)
theorem cellsE_all {l : List Cell} {m n : Int} {o : Bool} : ∀ (k i : Nat), l.length - i = k →
    (cellsE l m n o i = 0 ↔ ∀ j, i ≤ j → j < l.length → cellE (l.getD j default) m n o = 0 ∧ (0 < j → ordC (l.getD (j - 1) default) (l.getD j default) < 0))
  | 0, i, h => by
    rw [cellsE, if_neg (by omega)]
    exact ⟨fun _ j h1 h2 => by omega, fun _ => rfl⟩
  | k + 1, i, h => by
    have ih := cellsE_all (l := l) (m := m) (n := n) (o := o) k (i + 1) (by omega)
    rw [cellsE, if_pos (by omega)]
    by_cases c1 : cellE (l.getD i default) m n o = 0
    · rw [if_neg (fun q => q c1)]
      by_cases c2 : 0 < i ∧ 0 ≤ ordC (l.getD (i - 1) default) (l.getD i default)
      · rw [if_pos c2]
        refine ⟨fun q => (by cases q), fun q => ?_⟩
        have := (q i (Nat.le_refl _) (by omega)).2 c2.1
        omega
      · rw [if_neg c2, ih]
        refine ⟨fun q j h1 h2 => ?_, fun q j h1 h2 => q j (by omega) h2⟩
        by_cases e : i = j
        · subst e; exact ⟨c1, fun h0 => by omega⟩
        · exact q j (by omega) h2
    · rw [if_pos c1]
      exact ⟨fun q => absurd q c1, fun q => (q i (Nat.le_refl _) (by omega)).1⟩
theorem asc_adj : ∀ {l : List Cell}, (∀ j, 0 < j → j < l.length → ordC (l.getD (j - 1) default) (l.getD j default) < 0) → Asc l
  | [], _ => trivial
  | [c], _ => ⟨fun x hx => (by cases hx), trivial⟩
  | c :: d :: l, h => by
    have h1 : ordC c d < 0 := h 1 (by decide) (by simp)
    have ih := asc_adj (l := d :: l) (fun j h0 hj => by
      have := h (j + 1) (by omega) (by simp only [List.length_cons] at hj ⊢; omega)
      obtain ⟨j, rfl⟩ : ∃ q, j = q + 1 := ⟨j - 1, by omega⟩
      exact this)
    refine ⟨fun x hx => ?_, ih⟩
    rcases List.mem_cons.1 hx with rfl | hx
    · exact h1
    · exact ordC_trans h1 (ih.1 x hx)
theorem cellsE_iff {l : List Cell} {m n : Int} {o : Bool} : cellsE l m n o 0 = 0 ↔ (∀ c ∈ l, cellE c m n o = 0) ∧ Asc l := by
  rw [cellsE_all _ 0 rfl]
  constructor
  · intro h
    refine ⟨fun c hc => ?_, asc_adj (fun j h0 hj => (h j (Nat.zero_le _) hj).2 h0)⟩
    obtain ⟨j, hj, rfl⟩ := mem_getDX hc
    exact (h j (Nat.zero_le _) hj).1
  · rintro ⟨h1, h2⟩ j _ hj
    exact ⟨h1 _ (getDX_mem hj), fun h0 => asc_sort h2 (j - 1) j (by omega) hj⟩
/-- One cell's conditions. -/
theorem cellE_iff {c : Cell} {m n : Int} {o : Bool} : cellE c m n o = 0 ↔ (0 ≤ c.row ∧ c.row < m ∧ 0 ≤ c.col ∧ c.col < n) ∧ (0 ≤ c.ref ∧ c.ref ≤ 1073741824) ∧ textG c.text = true ∧ chkA false c.attrs 0 = 0 ∧ (o = false → emptyC c = false) := by
  unfold cellE
  by_cases c1 : c.row < 0 ∨ m ≤ c.row ∨ c.col < 0 ∨ n ≤ c.col
  · rw [if_pos c1]; exact ⟨fun q => (by cases q), fun q => by omega⟩
  · rw [if_neg c1]
    by_cases c2 : c.ref < 0 ∨ 1073741824 < c.ref
    · rw [if_pos c2]; exact ⟨fun q => (by cases q), fun q => by omega⟩
    · rw [if_neg c2]
      by_cases c3 : textG c.text = false
      · rw [if_pos c3]; exact ⟨fun q => (by cases q), fun q => by rw [q.2.2.1] at c3; cases c3⟩
      · rw [if_neg c3]
        by_cases c4 : chkA false c.attrs 0 = 0
        · rw [if_neg (fun q => q c4)]
          by_cases c5 : emptyC c = true ∧ o = false
          · rw [if_pos c5]; exact ⟨fun q => (by cases q), fun q => by have := q.2.2.2.2 c5.2; rw [c5.1] at this; cases this⟩
          · rw [if_neg c5]
            refine ⟨fun _ => ⟨by omega, by omega, by simpa using c3, c4, fun ho => ?_⟩, fun _ => rfl⟩
            cases he : emptyC c with
            | false => rfl
            | true => exact absurd ⟨he, ho⟩ c5
        · rw [if_pos c4]; exact ⟨fun q => absurd q c4, fun q => q.2.2.2.1⟩
/-! ### What putting gives -/
theorem put_mem : ∀ (ns l : List Cell) (y : Cell), y ∈ putL ns l → (y ∈ ns ∧ emptyC y = false) ∨ y ∈ l
  | [], l, y, h => .inr h
  | c :: ns, [], y, h => by
    rw [putL, putC] at h
    rcases List.mem_append.1 h with h | h
    · cases he : emptyC c with
      | true => rw [he, if_pos rfl] at h; cases h
      | false => rw [he, if_neg (by decide)] at h; rw [List.mem_singleton.1 h]; exact .inl ⟨by simp, he⟩
    · rcases put_mem ns [] y h with ⟨h1, h2⟩ | h
      · exact .inl ⟨by simp [h1], h2⟩
      · exact .inr h
  | c :: ns, x :: l, y, h => by
    have ih := put_mem (c :: ns) l y
    rw [putL] at ih
    rw [putL, putC] at h
    split at h
    · rcases List.mem_cons.1 h with rfl | h
      · exact .inr (by simp)
      · rcases ih h with h | h
        · exact .inl h
        · exact .inr (by simp [h])
    · have hcase : ∀ (r : List Cell), (∀ z ∈ r, z ∈ x :: l) → y ∈ (if emptyC c = true then [] else [c]) ++ putL ns r → (∀ z, z ∈ putL ns r → (z ∈ ns ∧ emptyC z = false) ∨ z ∈ r) → (y ∈ c :: ns ∧ emptyC y = false) ∨ y ∈ x :: l := fun r hr h hi => by
        rcases List.mem_append.1 h with h | h
        · cases he : emptyC c with
          | true => rw [he, if_pos rfl] at h; cases h
          | false => rw [he, if_neg (by decide)] at h; rw [List.mem_singleton.1 h]; exact .inl ⟨by simp, he⟩
        · rcases hi y h with ⟨h1, h2⟩ | h
          · exact .inl ⟨by simp [h1], h2⟩
          · exact .inr (hr y h)
      split at h
      · exact hcase l (fun z hz => by simp [hz]) h (fun z => put_mem ns l z)
      · exact hcase (x :: l) (fun z hz => hz) h (fun z => put_mem ns (x :: l) z)
termination_by ns l => ns.length + l.length
end Go.Ch
end
section
set_option linter.unusedVariables false
set_option linter.unusedSimpArgs false
namespace Go.Ch
open Go Go.Ab

structure DStep where
  kind : Int
  n : Int
  attrs : List Attr
  elems : List Elem
instance : Inhabited DStep := ⟨⟨0, 0, [], []⟩⟩
def dstepT (s : DStep) : Tree := .agg [.sc (.int .i64 s.kind), .sc (.int .i64 s.n), .lst 2 (s.attrs.map attrT), .lst 3 (s.elems.map elemT)]
def AN (n : Nat) (l : List Elem) : Prop := ∀ x ∈ l, x.attrs.length ≤ n
def stepD (s : DStep) : Int :=
  if s.kind = 1 then (if s.n ≠ 0 ∨ 0 < s.attrs.length then 4 else if s.elems.length = 0 then 11 else partE s.elems 0)
  else if s.kind = 0 ∨ s.kind = 2 then
    (if 0 < s.elems.length ∨ (s.kind = 2 ∧ 0 < s.attrs.length) then 4 else if s.n < 1 ∨ 2147483647 < s.n then 2 else chkA true s.attrs 0)
  else 8
def szD (s : DStep) : Int := if s.kind = 1 then (s.elems.length : Int) else s.n
def DOk (s : DStep) : Prop :=
  (s.kind = 1 ∧ s.n = 0 ∧ s.attrs = [] ∧ s.elems ≠ [] ∧ ∀ x ∈ s.elems, elemE x = 0) ∨
  ((s.kind = 0 ∨ s.kind = 2) ∧ s.elems = [] ∧ (s.kind = 2 → s.attrs = []) ∧ 1 ≤ s.n ∧ s.n ≤ 2147483647 ∧ VG true s.attrs)
theorem len0 {α : Type} {l : List α} : ¬ 0 < l.length ↔ l = [] := by
  rw [Nat.not_lt, Nat.le_zero, List.length_eq_zero_iff]
/-- Neighbours that a delta must not have. -/
def adjD (w x : DStep) : Bool := ((w.kind == x.kind) && ((x.kind != 0) || sameL w.attrs x.attrs)) || ((w.kind == 2) && (x.kind == 1))
theorem adjD_yes {w x : DStep} : adjD w x = true ↔ (w.kind = x.kind ∧ (¬ x.kind = 0 ∨ sameL w.attrs x.attrs = true)) ∨ (w.kind = 2 ∧ x.kind = 1) := by
  unfold adjD; simp
/-- Bounds on the lists inside. -/
def DN (n : Nat) (l : List DStep) : Prop := ∀ s ∈ l, s.elems.length ≤ n ∧ s.attrs.length ≤ n ∧ AN n s.elems
theorem DN.at_ {n : Nat} {l : List DStep} (h : DN n l) {k : Nat} (hk : k < l.length) : (l.getD k default).elems.length ≤ n ∧ (l.getD k default).attrs.length ≤ n ∧ AN n (l.getD k default).elems := by
  refine h _ ?_
  rw [show l.getD k default = l[k] by simp [List.getD, List.getElem?_eq_getElem hk]]
  exact List.getElem_mem hk
def chkD (l : List DStep) (i : Nat) (b a : Int) : Int :=
  if i < l.length then
    if stepD (l.getD i default) ≠ 0 then stepD (l.getD i default)
    else if 0 < i ∧ adjD (l.getD (i - 1) default) (l.getD i default) = true then 5
    else chkD l (i + 1) (if (l.getD i default).kind ≠ 1 then min (b + (l.getD i default).n) 2147483648 else b) (if (l.getD i default).kind ≠ 2 then min (a + szD (l.getD i default)) 2147483648 else a)
  else if 2147483647 < b ∨ 2147483647 < a then 3 else 0
termination_by l.length - i
def checkD (l : List DStep) : Int := chkD l 0 0 0
def oS (s : DStep) : Int := if s.kind = 1 then 0 else s.n
def nS (s : DStep) : Int := if s.kind = 2 then 0 else szD s
def oldD : List DStep → Int
  | [] => 0
  | s :: l => oS s + oldD l
def newD : List DStep → Int
  | [] => 0
  | s :: l => nS s + newD l
def DForm : List DStep → Prop
  | [] => True
  | [s] => DOk s
  | s :: t :: l => DOk s ∧ adjD s t = false ∧ DForm (t :: l)
def DFormAt (l : List DStep) (i : Nat) : Prop := ∀ k, i ≤ k → k < l.length → DOk (l.getD k default) ∧ (0 < k → adjD (l.getD (k - 1) default) (l.getD k default) = false)
theorem dropD {α : Type} [Inhabited α] {l : List α} {i : Nat} (h : i < l.length) : l.drop i = l.getD i default :: l.drop (i + 1) := by
  rw [List.drop_eq_getElem_cons h]; simp [List.getD, List.getElem?_eq_getElem h]
theorem atD_drop {l : List DStep} {i : Nat} (h : DFormAt l i) : ∀ s ∈ l.drop i, DOk s := by
  intro s hs
  obtain ⟨k, hk, e⟩ := List.mem_iff_getElem.1 hs
  rw [List.length_drop] at hk
  have := (h (i + k) (by omega) (by omega)).1
  rw [List.getElem_drop] at e
  rw [← e]
  simpa [List.getD, List.getElem?_eq_getElem (show i + k < l.length by omega)] using this
theorem at_of_dform : ∀ {l : List DStep}, DForm l → DFormAt l 0
  | [], _ => fun k h1 h2 => by simp at h2
  | [s], h => fun k h1 h2 => by
    have : k = 0 := by simp at h2; omega
    subst this
    exact ⟨h, fun h0 => by omega⟩
  | s :: t :: l, h => fun k h1 h2 => by
    obtain ⟨a, b, c⟩ := h
    rcases k with _ | k
    · exact ⟨a, fun h0 => by omega⟩
    · have := at_of_dform c k (Nat.zero_le _) (by simp at h2 ⊢; omega)
      rw [List.getD_cons_succ]
      refine ⟨this.1, fun _ => ?_⟩
      rcases k with _ | k
      · exact b
      · rw [Nat.add_sub_cancel, List.getD_cons_succ]
        have e := this.2 (by omega)
        rw [Nat.add_sub_cancel] at e
        exact e
def DValid (l : List DStep) : Prop := DForm l ∧ oldD l ≤ 2147483647 ∧ newD l ≤ 2147483647
theorem DForm.all {l : List DStep} (h : DForm l) : ∀ s ∈ l, DOk s := by
  have := atD_drop (at_of_dform h)
  simpa using this

/-! ### The reference's check -/
def adjR (w x : DStep) : Prop := if x.kind = 1 then w.kind ≠ 0 else if x.kind = 2 then w.kind = 2 else w.kind = 0 ∧ sameL w.attrs x.attrs = true
instance (w x : DStep) : Decidable (adjR w x) := by unfold adjR; infer_instance
def chkR (l : List DStep) (i : Nat) (b a : Int) : Int :=
  if i < l.length then
    if stepD (l.getD i default) ≠ 0 then stepD (l.getD i default)
    else if 0 < i ∧ adjR (l.getD (i - 1) default) (l.getD i default) then 5
    else chkR l (i + 1) (if (l.getD i default).kind ≠ 1 ∧ b < 2147483648 then b + (l.getD i default).n else b) (if (l.getD i default).kind ≠ 2 ∧ a < 2147483648 then a + ((l.getD i default).n + (l.getD i default).elems.length) else a)
  else if 2147483647 < b ∨ 2147483647 < a then 3 else 0
termination_by l.length - i
def refD (l : List DStep) : Int := chkR l 0 0 0
def sumNs : List DStep → Int
  | [] => 0
  | s :: l => s.n + sumNs l
/-- Sizes of the strings inside. -/
def sameDS (x y : DStep) : Bool := ((x.kind == y.kind) && (x.n == y.n)) && (sameL x.attrs y.attrs && sameF x.elems y.elems)

/-! ### Units -/
inductive DU where
  | K (c : List Attr)
  | A (e : Elem)
  | C
def exS (s : DStep) : List DU := if s.kind = 1 then s.elems.map .A else if s.kind = 2 then List.replicate s.n.toNat .C else List.replicate s.n.toNat (.K s.attrs)
def exD : List DStep → List DU
  | [] => []
  | s :: l => exS s ++ exD l
theorem exD_app (a b : List DStep) : exD (a ++ b) = exD a ++ exD b := by
  induction a with
  | nil => rfl
  | cons s a ih => simp [exD, ih]
/-- An element changed by an attribute change. -/
def chgE (c : List Attr) (x : Elem) : Elem := ⟨x.char, x.ref, fm rawG x.attrs c⟩
def applyU : List DU → List Elem → List Elem
  | [], _ => []
  | .A e :: u, l => e :: applyU u l
  | .K c :: u, x :: l => chgE c x :: applyU u l
  | .C :: u, _ :: l => applyU u l
  | .K _ :: u, [] => applyU u []
  | .C :: u, [] => applyU u []
def undoU : List DU → List Elem → List DU
  | [], _ => []
  | .A _ :: u, l => .C :: undoU u l
  | .K c :: u, x :: l => .K (fm chgG (fm rawG x.attrs c) x.attrs) :: undoU u l
  | .C :: u, x :: l => .A x :: undoU u l
  | .K _ :: u, [] => undoU u []
  | .C :: u, [] => undoU u []
def oldN : List DU → Nat
  | [] => 0
  | .A _ :: u => oldN u
  | _ :: u => oldN u + 1
def newN : List DU → Nat
  | [] => 0
  | .C :: u => newN u
  | _ :: u => newN u + 1
def UOk : List DU → Prop
  | [] => True
  | .K c :: u => VG true c ∧ UOk u
  | _ :: u => UOk u
inductive DSw : List DU → List DU → Prop
  | refl (u : List DU) : DSw u u
  | cons (x : DU) {u v : List DU} (h : DSw u v) : DSw (x :: u) (x :: v)
  | swap (e : Elem) (u : List DU) : DSw (.A e :: .C :: u) (.C :: .A e :: u)
  | symm {u v : List DU} (h : DSw u v) : DSw v u
  | trans {u v w : List DU} (h : DSw u v) (k : DSw v w) : DSw u w
theorem DSw.left (w : List DU) {u v : List DU} (h : DSw u v) : DSw (w ++ u) (w ++ v) := by
  induction w with
  | nil => exact h
  | cons x w ih => exact .cons x ih
theorem DSw.right (w : List DU) {u v : List DU} (h : DSw u v) : DSw (u ++ w) (v ++ w) := by
  induction h with
  | refl u => exact .refl _
  | cons x _ ih => exact .cons x ih
  | swap e u => exact .swap e _
  | symm _ ih => exact .symm ih
  | trans _ _ a b => exact .trans a b
theorem dsw_lens {u v : List DU} (h : DSw u v) : oldN u = oldN v ∧ newN u = newN v := by
  induction h with
  | refl u => exact ⟨rfl, rfl⟩
  | cons x _ ih => cases x <;> simp [oldN, newN, ih.1, ih.2]
  | swap e u => exact ⟨rfl, rfl⟩
  | symm _ ih => exact ⟨ih.1.symm, ih.2.symm⟩
  | trans _ _ a b => exact ⟨a.1.trans b.1, a.2.trans b.2⟩
theorem dsw_C_As (e : List Elem) (u : List DU) : DSw (.C :: (e.map .A ++ u)) (e.map .A ++ .C :: u) := by
  induction e with
  | nil => exact .refl _
  | cons x e ih => exact .trans (.symm (.swap x _)) (.cons _ ih)
theorem dsw_Cs_As (c : Nat) (e : List Elem) (u : List DU) : DSw (List.replicate c .C ++ (e.map .A ++ u)) (e.map .A ++ (List.replicate c .C ++ u)) := by
  induction c with
  | zero => exact .refl _
  | succ c ih => exact .trans (.cons _ ih) (dsw_C_As e _)
def rawD (l : List Elem) (d : List DStep) : List Elem := applyU (exD d) l
end Go.Ch
end
section
set_option linter.unusedVariables false
set_option linter.unusedSimpArgs false
namespace Go.Ch
open Go Go.Ab

structure DWr where
  out : List DStep
  add : List Elem
  cut : Int
def flushD (w : DWr) : List DStep := w.out ++ (if 0 < w.add.length then [⟨1, 0, [], w.add⟩] else []) ++ (if 0 < w.cut then [⟨2, w.cut, [], []⟩] else [])
def keepD (l : List DStep) (n : Int) (c : List Attr) : List DStep :=
  if 0 < l.length ∧ (l.getD (l.length - 1) default).kind = 0 ∧ sameL (l.getD (l.length - 1) default).attrs c = true then
    l.set (l.length - 1) ⟨(l.getD (l.length - 1) default).kind, (l.getD (l.length - 1) default).n + n, (l.getD (l.length - 1) default).attrs, (l.getD (l.length - 1) default).elems⟩
  else l ++ [⟨0, n, c, []⟩]
/-- A step without the bound on its count. -/
def DOkW (s : DStep) : Prop :=
  (s.kind = 1 ∧ s.n = 0 ∧ s.attrs = [] ∧ s.elems ≠ [] ∧ ∀ x ∈ s.elems, elemE x = 0) ∨
  ((s.kind = 0 ∨ s.kind = 2) ∧ s.elems = [] ∧ (s.kind = 2 → s.attrs = []) ∧ 1 ≤ s.n ∧ VG true s.attrs)
def AdjOk : List DStep → Prop
  | [] => True
  | [_] => True
  | s :: t :: l => adjD s t = false ∧ AdjOk (t :: l)
theorem adj_snoc : ∀ {l : List DStep} {s : DStep}, AdjOk l → (∀ t, l.getLast? = some t → adjD t s = false) → AdjOk (l ++ [s])
  | [], s, _, _ => trivial
  | [x], s, _, h => ⟨h x rfl, trivial⟩
  | x :: y :: l, s, hf, h => ⟨hf.1, adj_snoc (l := y :: l) hf.2 (fun t ht => h t (by simpa [List.getLast?_cons_cons] using ht))⟩
theorem adjD_eq' {w x x' : DStep} (k : x'.kind = x.kind) (a : x'.attrs = x.attrs) : adjD w x' = adjD w x := by unfold adjD; rw [k, a]
theorem adj_last : ∀ {l : List DStep} {s s' : DStep}, AdjOk (l ++ [s]) → s'.kind = s.kind → s'.attrs = s.attrs → AdjOk (l ++ [s'])
  | [], s, s', _, _, _ => trivial
  | [x], s, s', h, k, a => ⟨by rw [adjD_eq' k a]; exact h.1, trivial⟩
  | x :: y :: l, s, s', h, k, a => ⟨h.1, adj_last (l := y :: l) h.2 k a⟩
theorem dform_of : ∀ {l : List DStep}, (∀ s ∈ l, DOk s) → AdjOk l → DForm l
  | [], _, _ => trivial
  | [s], h, _ => h s (by simp)
  | s :: t :: l, h, k => ⟨h s (by simp), k.1, dform_of (fun x hx => h x (by simp at hx ⊢; exact .inr hx)) k.2⟩
theorem oSW {s : DStep} (h : DOkW s) : 0 ≤ oS s ∧ 0 ≤ nS s ∧ (s.kind ≠ 1 → oS s = s.n) ∧ 0 ≤ s.n := by
  unfold oS nS szD
  rcases h with ⟨k, n, a, e, _⟩ | ⟨k, _, _, n1, _⟩
  · have : 0 < s.elems.length := List.length_pos_iff.2 e
    rw [if_pos k, if_neg (by omega), if_pos k]
    exact ⟨Int.le_refl _, by omega, fun q => absurd k q, by omega⟩
  · have k1 : ¬ s.kind = 1 := by omega
    simp only [if_neg k1]
    refine ⟨by omega, by (split <;> omega), fun _ => trivial, by omega⟩
theorem sumsW : ∀ {l : List DStep}, (∀ s ∈ l, DOkW s) → 0 ≤ oldD l ∧ 0 ≤ newD l ∧ ∀ s ∈ l, s.kind ≠ 1 → s.n ≤ oldD l
  | [], _ => ⟨Int.le_refl _, Int.le_refl _, fun s hs => by cases hs⟩
  | s :: l, h => by
    have h1 := oSW (h s (by simp))
    have h2 := sumsW (l := l) (fun t ht => h t (by simp [ht]))
    simp only [oldD, newD]
    refine ⟨by omega, by omega, fun t ht k => ?_⟩
    rcases List.mem_cons.1 ht with rfl | ht
    · have := h1.2.2.1 k; omega
    · have := h2.2.2 t ht k; omega
theorem valid_of {l : List DStep} (h : ∀ s ∈ l, DOkW s) (ha : AdjOk l) (h1 : oldD l ≤ 2147483647) (h2 : newD l ≤ 2147483647) : DValid l := by
  refine ⟨dform_of (fun s hs => ?_) ha, h1, h2⟩
  rcases h s hs with q | ⟨a, b, c, d, e⟩
  · exact .inl q
  · have := (sumsW h).2.2 s hs (by omega)
    exact .inr ⟨a, b, c, d, by omega, e⟩
theorem oldN_app (u v : List DU) : oldN (u ++ v) = oldN u + oldN v := by
  induction u with
  | nil => simp [oldN]
  | cons x u ih => cases x <;> simp [oldN, ih] <;> omega
theorem newN_app (u v : List DU) : newN (u ++ v) = newN u + newN v := by
  induction u with
  | nil => simp [newN]
  | cons x u ih => cases x <;> simp [newN, ih] <;> omega
theorem lens_As (e : List Elem) : oldN (e.map .A) = 0 ∧ newN (e.map .A) = e.length := by
  induction e with
  | nil => exact ⟨rfl, rfl⟩
  | cons x e ih => simp [oldN, newN, ih]
theorem lens_Cs (n : Nat) : oldN (List.replicate n .C) = n ∧ newN (List.replicate n .C) = 0 := by
  induction n with
  | zero => exact ⟨rfl, rfl⟩
  | succ n ih => simp [List.replicate_succ, oldN, newN, ih]
theorem lens_Ks (n : Nat) (c : List Attr) : oldN (List.replicate n (.K c)) = n ∧ newN (List.replicate n (.K c)) = n := by
  induction n with
  | zero => exact ⟨rfl, rfl⟩
  | succ n ih => simp [List.replicate_succ, oldN, newN, ih]
theorem lens_S {s : DStep} (h : DOkW s) : (oldN (exS s) : Int) = oS s ∧ (newN (exS s) : Int) = nS s := by
  unfold exS oS nS szD
  rcases h with ⟨k, n, a, e, _⟩ | ⟨k, _, _, n1, _⟩
  · rw [if_pos k, if_pos k, if_neg (by omega), if_pos k, (lens_As _).1, (lens_As _).2]; exact ⟨rfl, rfl⟩
  · have k1 : ¬ s.kind = 1 := by omega
    by_cases k2 : s.kind = 2
    · simp only [if_neg k1, if_pos k2]
      rw [(lens_Cs _).1, (lens_Cs _).2]; omega
    · simp only [if_neg k1, if_neg k2]
      rw [(lens_Ks _ _).1, (lens_Ks _ _).2]; omega
theorem lens_D : ∀ {l : List DStep}, (∀ s ∈ l, DOkW s) → (oldN (exD l) : Int) = oldD l ∧ (newN (exD l) : Int) = newD l
  | [], _ => ⟨rfl, rfl⟩
  | s :: l, h => by
    have h1 := lens_S (h s (by simp))
    have h2 := lens_D (l := l) (fun t ht => h t (by simp [ht]))
    simp only [exD, oldD, newD]
    rw [oldN_app, newN_app]
    omega
def exDW (w : DWr) : List DU := exD w.out ++ (w.add.map .A ++ List.replicate w.cut.toNat .C)
structure GoodD (w : DWr) : Prop where
  ok : ∀ s ∈ w.out, DOkW s
  adj : AdjOk w.out
  last : ∀ t, w.out.getLast? = some t → t.kind = 0
  add : ∀ x ∈ w.add, elemE x = 0
  cut : 0 ≤ w.cut
theorem goodD0 : GoodD ⟨[], [], 0⟩ := ⟨fun s h => (by cases h), trivial, fun t h => (by cases h), fun x h => (by cases h), Int.le_refl _⟩
theorem flushD_ex {w : DWr} (h : GoodD w) : exD (flushD w) = exDW w := by
  have h2 := h.cut
  unfold flushD exDW
  rw [exD_app, exD_app, List.append_assoc]
  congr 2
  · split
    · simp [exD, exS]
    · rw [show w.add = [] from len0.1 (by omega)]; rfl
  · split
    · simp [exD, exS]
    · rw [show w.cut.toNat = 0 by omega]; rfl
theorem adj_1 {t s : DStep} (h : t.kind ≠ s.kind) (h2 : ¬ (t.kind = 2 ∧ s.kind = 1)) : adjD t s = false := by
  cases e : adjD t s
  · rfl
  · rcases adjD_yes.1 e with ⟨a, _⟩ | a
    · exact absurd a h
    · exact absurd a h2
theorem vg_nil : VG true [] := (chk_iff (e := true) (l := [])).1 (by rw [chkA]; rfl)
theorem flushD_ok {w : DWr} (h : GoodD w) : (∀ s ∈ flushD w, DOkW s) ∧ AdjOk (flushD w) := by
  have h2 := h.cut
  have o1 : 0 < w.add.length → DOkW ⟨1, 0, [], w.add⟩ := fun q => .inl ⟨rfl, rfl, rfl, List.length_pos_iff.1 q, h.add⟩
  have o2 : 0 < w.cut → DOkW ⟨2, w.cut, [], []⟩ := fun q => .inr ⟨.inr rfl, rfl, fun _ => rfl, q, vg_nil⟩
  refine ⟨fun s hs => ?_, ?_⟩
  · unfold flushD at hs
    simp only [List.mem_append] at hs
    rcases hs with (hs | hs) | hs
    · exact h.ok s hs
    · split at hs
      · rename_i q; rw [List.mem_singleton] at hs; subst hs; exact o1 q
      · cases hs
    · split at hs
      · rename_i q; rw [List.mem_singleton] at hs; subst hs; exact o2 q
      · cases hs
  · unfold flushD
    by_cases ha : 0 < w.add.length
    · rw [if_pos ha]
      have f1 : AdjOk (w.out ++ [⟨1, 0, [], w.add⟩]) := adj_snoc h.adj (fun t ht => by
        have := h.last t ht
        exact adj_1 (by simp only; omega) (by omega))
      by_cases hc : 0 < w.cut
      · rw [if_pos hc]
        refine adj_snoc f1 (fun t ht => ?_)
        rw [List.getLast?_concat] at ht
        cases ht
        exact adj_1 (by show (1 : Int) ≠ 2; decide) (by show ¬ ((1 : Int) = 2 ∧ (2 : Int) = 1); decide)
      · rw [if_neg hc, List.append_nil]; exact f1
    · rw [if_neg ha, List.append_nil]
      by_cases hc : 0 < w.cut
      · rw [if_pos hc]
        refine adj_snoc h.adj (fun t ht => ?_)
        have := h.last t ht
        exact adj_1 (by simp only; omega) (by omega)
      · rw [if_neg hc, List.append_nil]; exact h.adj
theorem lastD {l : List DStep} (h : 0 < l.length) : l = l.take (l.length - 1) ++ [l.getD (l.length - 1) default] := by
  conv => lhs; rw [← List.take_append_drop (l.length - 1) l]
  congr 1
  rw [List.drop_eq_getElem_cons (by omega), List.drop_eq_nil_of_le (by omega)]
  simp [List.getD, List.getElem?_eq_getElem (show l.length - 1 < l.length by omega)]
theorem lastD_mem {l : List DStep} (h : 0 < l.length) : l.getD (l.length - 1) default ∈ l := by
  rw [show l.getD (l.length - 1) default = l[l.length - 1] by simp [List.getD, List.getElem?_eq_getElem (show l.length - 1 < l.length by omega)]]
  exact List.getElem_mem _
theorem setD {l : List DStep} (h : 0 < l.length) (s : DStep) : l.set (l.length - 1) s = l.take (l.length - 1) ++ [s] := by
  rw [List.set_eq_take_append_cons_drop, if_pos (by omega), List.drop_eq_nil_of_le (by omega)]
theorem keepD_ok {l : List DStep} {n : Int} {c : List Attr} (ho : ∀ s ∈ l, DOkW s) (hf : AdjOk l) (hn : 1 ≤ n) (hc : VG true c) :
    (∀ s ∈ keepD l n c, DOkW s) ∧ AdjOk (keepD l n c) ∧ (∀ t, (keepD l n c).getLast? = some t → t.kind = 0) ∧ exD (keepD l n c) = exD l ++ List.replicate n.toNat (.K c) := by
  unfold keepD
  split
  · rename_i hc
    obtain ⟨h0, hk, ha⟩ := hc
    rw [sameL_eq] at ha
    generalize hx : l.getD (l.length - 1) default = x at hk ha ⊢
    have hl := lastD h0
    rw [hx] at hl
    rw [setD h0]
    have hox : DOkW x := ho x (by rw [hl]; simp)
    have hx2 : x.elems = [] ∧ 1 ≤ x.n ∧ VG true x.attrs := by
      rcases hox with ⟨k, _⟩ | ⟨_, a, _, b, d⟩
      · omega
      · exact ⟨a, b, d⟩
    refine ⟨fun s hs => ?_, adj_last (s := x) (by rw [← hl]; exact hf) rfl rfl, fun t ht => ?_, ?_⟩
    · rw [List.mem_append] at hs
      rcases hs with hs | hs
      · exact ho s (List.mem_of_mem_take hs)
      · rw [List.mem_singleton] at hs; subst hs
        exact .inr ⟨.inl hk, hx2.1, fun q => by simp only at q; omega, by simp only; omega, hx2.2.2⟩
    · rw [List.getLast?_concat] at ht; cases ht; exact hk
    · conv => rhs; rw [hl]
      rw [exD_app, exD_app, List.append_assoc]
      congr 1
      simp only [exD, List.append_nil, exS]
      rw [if_neg (by omega), if_neg (by omega), if_neg (by omega), if_neg (by omega), ha, show (x.n + n).toNat = x.n.toNat + n.toNat by omega]
      exact List.replicate_append_replicate.symm
  · rename_i hq
    refine ⟨fun s hs => ?_, adj_snoc hf (fun t ht => ?_), fun t ht => ?_, by rw [exD_app]; simp [exD, exS]⟩
    · rw [List.mem_append] at hs
      rcases hs with hs | hs
      · exact ho s hs
      · rw [List.mem_singleton] at hs; subst hs
        exact .inr ⟨.inl rfl, rfl, fun q => (by cases q), hn, hc⟩
    · have h0 : 0 < l.length := by
        rcases l with _ | ⟨y, l⟩
        · cases ht
        · simp
      have hl : l.getLast? = some (l.getD (l.length - 1) default) := by
        conv => lhs; rw [lastD h0]
        rw [List.getLast?_concat]
      rw [hl] at ht
      cases ht
      cases e : adjD (l.getD (l.length - 1) default) ⟨0, n, c, []⟩
      · rfl
      · rcases adjD_yes.1 e with ⟨a, b | b⟩ | ⟨_, b⟩
        · exact absurd rfl b
        · exact absurd ⟨h0, a, b⟩ hq
        · cases b
    · rw [List.getLast?_concat] at ht; cases ht; rfl
theorem GoodD.keep {w : DWr} {n : Int} {c : List Attr} (h : GoodD w) (hn : 1 ≤ n) (hc : VG true c) :
    GoodD ⟨keepD (flushD w) n c, [], 0⟩ ∧ exDW ⟨keepD (flushD w) n c, [], 0⟩ = exDW w ++ List.replicate n.toNat (.K c) := by
  obtain ⟨q1, q2, q3, q4⟩ := keepD_ok (flushD_ok h).1 (flushD_ok h).2 hn hc
  refine ⟨⟨q1, q2, q3, fun x hx => (by cases hx), Int.le_refl _⟩, ?_⟩
  rw [← flushD_ex h, ← q4]
  simp [exDW]
theorem GoodD.elems {w : DWr} {e : List Elem} (h : GoodD w) (he : ∀ x ∈ e, elemE x = 0) :
    GoodD ⟨w.out, w.add ++ e, w.cut⟩ ∧ DSw (exDW ⟨w.out, w.add ++ e, w.cut⟩) (exDW w ++ e.map .A) := by
  refine ⟨⟨h.ok, h.adj, h.last, fun x hx => ?_, h.cut⟩, ?_⟩
  · rcases List.mem_append.1 hx with hx | hx
    · exact h.add x hx
    · exact he x hx
  · unfold exDW
    simp only [List.map_append, List.append_assoc]
    refine .left _ (.left _ ?_)
    have := dsw_Cs_As w.cut.toNat e []
    simp only [List.append_nil] at this
    exact .symm this
theorem GoodD.cuts {w : DWr} {n : Int} (h : GoodD w) (hn : 0 ≤ n) :
    GoodD ⟨w.out, w.add, w.cut + n⟩ ∧ exDW ⟨w.out, w.add, w.cut + n⟩ = exDW w ++ List.replicate n.toNat .C := by
  have h2 := h.cut
  refine ⟨⟨h.ok, h.adj, h.last, h.add, by simp only; omega⟩, ?_⟩
  unfold exDW
  simp only [List.append_assoc]
  rw [show (w.cut + n).toNat = w.cut.toNat + n.toNat by omega, ← List.replicate_append_replicate]
theorem GoodD.valid {w : DWr} {u : List DU} (h : GoodD w) (hs : DSw (exDW w) u) (h1 : oldN u ≤ 2147483647) (h2 : newN u ≤ 2147483647) :
    DValid (flushD w) ∧ DSw (exD (flushD w)) u ∧ oldD (flushD w) = oldN u ∧ newD (flushD w) = newN u := by
  have hk := flushD_ok h
  have he := flushD_ex h
  have hl := dsw_lens hs
  have hd := lens_D hk.1
  rw [he] at hd
  refine ⟨valid_of hk.1 hk.2 (by omega) (by omega), by rw [he]; exact hs, by omega, by omega⟩
end Go.Ch
end
section
set_option linter.unusedVariables false
set_option linter.unusedSimpArgs false
namespace Go.Ch
open Go Go.Ab

def putU (w : DWr) : DU → DWr
  | .K c => ⟨keepD (flushD w) 1 c, [], 0⟩
  | .A e => ⟨w.out, w.add ++ [e], w.cut⟩
  | .C => ⟨w.out, w.add, w.cut + 1⟩
def foldD (w : DWr) : List DU → DWr
  | [] => w
  | u :: us => foldD (putU w u) us
theorem foldD_As (e : List Elem) (us : List DU) : ∀ w : DWr, foldD w (e.map .A ++ us) = foldD ⟨w.out, w.add ++ e, w.cut⟩ us := by
  induction e with
  | nil => intro w; simp
  | cons x e ih => intro w; simp only [List.map_cons, List.cons_append, foldD, putU]; rw [ih]; simp
theorem foldD_Cs (n : Nat) (us : List DU) : ∀ w : DWr, foldD w (List.replicate n .C ++ us) = foldD ⟨w.out, w.add, w.cut + n⟩ us := by
  induction n with
  | zero => intro w; simp
  | succ n ih => intro w; simp only [List.replicate_succ, List.cons_append, foldD, putU]; rw [ih]; simp only; rw [show w.cut + 1 + (n : Int) = w.cut + ((n + 1 : Nat) : Int) by omega]
theorem flushD_nil (l : List DStep) : flushD ⟨l, [], 0⟩ = l := by simp [flushD]
theorem keepD_keepD {l : List DStep} {m n : Int} {c : List Attr} : keepD (keepD l m c) n c = keepD l (m + n) c := by
  unfold keepD
  by_cases h : 0 < l.length ∧ (l.getD (l.length - 1) default).kind = 0 ∧ sameL (l.getD (l.length - 1) default).attrs c = true
  · rw [if_pos h, if_pos h, setD h.1, setD h.1]
    generalize l.getD (l.length - 1) default = x at *
    have e : ∀ y : DStep, (List.take (l.length - 1) l ++ [y]).getD ((List.take (l.length - 1) l ++ [y]).length - 1) default = y := fun y => by simp
    rw [e, if_pos ⟨by simp, h.2.1, h.2.2⟩, setD (by simp)]
    have t : ∀ y : DStep, (List.take (l.length - 1) l ++ [y]).take ((List.take (l.length - 1) l ++ [y]).length - 1) = List.take (l.length - 1) l := fun y => by simp
    rw [t, Int.add_assoc]
  · rw [if_neg h, if_neg h]
    have e : ∀ y : DStep, (l ++ [y]).getD ((l ++ [y]).length - 1) default = y := fun y => by simp
    rw [e, if_pos ⟨by simp, rfl, sameL_self c⟩, setD (by simp)]
    simp
theorem foldD_Ks (c : List Attr) (us : List DU) : ∀ (n : Nat) (w : DWr), foldD w (List.replicate (n + 1) (.K c) ++ us) = foldD ⟨keepD (flushD w) ((n + 1 : Nat) : Int) c, [], 0⟩ us
  | 0, w => by simp [foldD, putU]
  | n + 1, w => by
    rw [List.replicate_succ, List.cons_append, foldD, foldD_Ks c us n]
    simp only [putU]
    rw [flushD_nil, keepD_keepD, show (1 : Int) + ((n + 1 : Nat) : Int) = ((n + 1 + 1 : Nat) : Int) by omega]
def UnitOk : DU → Prop
  | .K c => VG true c ∧ c.length ≤ 400000000000
  | .A e => elemE e = 0 ∧ e.attrs.length ≤ 400000000000
  | .C => True
/-- Bounds of what the writer holds. -/
structure WBd (w : DWr) : Prop where
  out : DN 400000000000 w.out
  add : AN 400000000000 w.add
theorem WBd.flush {w : DWr} (h : WBd w) (hl : w.add.length ≤ 400000000000) : DN 400000000000 (flushD w) := by
  intro s hs
  unfold flushD at hs
  simp only [List.mem_append] at hs
  rcases hs with (hs | hs) | hs
  · exact h.out s hs
  · split at hs
    · rw [List.mem_singleton] at hs; subst hs; exact ⟨hl, by simp, h.add⟩
    · cases hs
  · split at hs
    · rw [List.mem_singleton] at hs; subst hs; exact ⟨by simp, by simp, fun x hx => by cases hx⟩
    · cases hs
theorem WBd.keep {w : DWr} {n : Int} {c : List Attr} (h : WBd w) (hl : w.add.length ≤ 400000000000) (hc : c.length ≤ 400000000000) : WBd ⟨keepD (flushD w) n c, [], 0⟩ := by
  have hf := h.flush hl
  refine ⟨fun s hs => ?_, fun x hx => by cases hx⟩
  simp only at hs
  unfold keepD at hs
  split at hs
  · rename_i q
    rw [setD q.1, List.mem_append] at hs
    rcases hs with hs | hs
    · exact hf s (List.mem_of_mem_take hs)
    · rw [List.mem_singleton] at hs; subst hs
      have := hf _ (lastD_mem q.1)
      exact this
  · rw [List.mem_append] at hs
    rcases hs with hs | hs
    · exact hf s hs
    · rw [List.mem_singleton] at hs; subst hs; exact ⟨by simp, hc, fun x hx => by cases hx⟩
theorem exS_len {s : DStep} (h : DOkW s) : 1 ≤ (exS s).length ∧ (s.kind ≠ 1 → s.n ≤ (exS s).length) ∧ 0 ≤ s.n ∧ (s.kind = 1 → s.n = 0) := by
  unfold exS
  rcases h with ⟨k, n, a, e, _⟩ | ⟨k, _, _, n1, _⟩
  · rw [if_pos k, List.length_map]
    have : 0 < s.elems.length := List.length_pos_iff.2 e
    exact ⟨this, fun q => absurd k q, by omega, fun _ => n⟩
  · have k1 : ¬ s.kind = 1 := by omega
    rw [if_neg k1]
    refine ⟨?_, fun _ => ?_, by omega, fun q => absurd q k1⟩ <;> split <;> simp <;> omega
theorem exD_len : ∀ {l : List DStep}, (∀ s ∈ l, DOkW s) → l.length ≤ (exD l).length ∧ ∀ s ∈ l, 0 ≤ s.n ∧ s.n ≤ ((exD l).length : Int)
  | [], _ => ⟨Nat.le_refl _, fun s hs => by cases hs⟩
  | s :: l, h => by
    have h1 := exS_len (h s (by simp))
    have h2 := exD_len (l := l) (fun t ht => h t (by simp [ht]))
    simp only [exD, List.length_append, List.length_cons]
    refine ⟨by omega, fun t ht => ?_⟩
    rcases List.mem_cons.1 ht with rfl | ht
    · refine ⟨h1.2.2.1, ?_⟩
      by_cases k : t.kind = 1
      · have := h1.2.2.2 k; omega
      · have := h1.2.1 k; omega
    · have := h2.2 t ht; omega
/-- The writer, what it is still to be fed, how much that is in all, and where it ends. -/
structure DI (w : DWr) (us : List DU) (T : Nat) (G : DWr) : Prop where
  good : GoodD w
  wb : WBd w
  units : ∀ u ∈ us, UnitOk u
  len : (exDW w).length + us.length = T
  small : T ≤ 8589934592
  eq : foldD w us = G
variable {w G : DWr} {us : List DU} {T : Nat}
theorem DI.bd (h : DI w us T G) : w.out.length ≤ T ∧ w.add.length ≤ T ∧ 0 ≤ w.cut ∧ w.cut ≤ T ∧ us.length ≤ T ∧ T ≤ 8589934592 ∧ w.add.length + us.length ≤ T ∧ w.cut + us.length ≤ T := by
  have h1 := (exD_len h.good.ok).1
  have h2 := h.good.cut
  have h3 := h.len
  have h4 := h.small
  unfold exDW at h3
  simp only [List.length_append, List.length_replicate, List.length_map] at h3
  omega
theorem DI.keep {n : Nat} {c : List Attr} (h : DI w (List.replicate (n + 1) (.K c) ++ us) T G) : DI ⟨keepD (flushD w) ((n + 1 : Nat) : Int) c, [], 0⟩ us T G := by
  have hu := h.units (.K c) (by rw [List.replicate_succ]; simp)
  have hb := h.bd
  obtain ⟨g1, g2⟩ := h.good.keep (n := ((n + 1 : Nat) : Int)) (by omega) hu.1
  refine ⟨g1, h.wb.keep (by omega) hu.2, fun u hu => h.units u (by simp [hu]), ?_, h.small, ?_⟩
  · have h3 := h.len
    rw [g2]
    simp only [List.length_append, List.length_replicate] at h3 ⊢
    omega
  · rw [← h.eq, foldD_Ks]
theorem dsw_len {u v : List DU} (h : DSw u v) : u.length = v.length := by
  induction h with
  | refl u => rfl
  | cons x _ ih => simp [ih]
  | swap e u => rfl
  | symm _ ih => exact ih.symm
  | trans _ _ a b => exact a.trans b
theorem DI.elems {e : List Elem} (h : DI w (e.map .A ++ us) T G) : DI ⟨w.out, w.add ++ e, w.cut⟩ us T G := by
  have hu : ∀ x ∈ e, UnitOk (.A x) := fun x hx => h.units (.A x) (by simp [hx])
  obtain ⟨g1, g2⟩ := h.good.elems (e := e) (fun x hx => (hu x hx).1)
  refine ⟨g1, ⟨h.wb.out, fun x hx => ?_⟩, fun u hu => h.units u (by simp [hu]), ?_, h.small, ?_⟩
  · rcases List.mem_append.1 hx with hx | hx
    · exact h.wb.add x hx
    · exact (hu x hx).2
  · have h3 := h.len
    rw [dsw_len g2]
    simp only [List.length_append, List.length_map] at h3 ⊢
    omega
  · rw [← h.eq, foldD_As]
theorem DI.cuts {n : Nat} (h : DI w (List.replicate n .C ++ us) T G) : DI ⟨w.out, w.add, w.cut + n⟩ us T G := by
  obtain ⟨g1, g2⟩ := h.good.cuts (n := (n : Int)) (by omega)
  refine ⟨g1, ⟨h.wb.out, h.wb.add⟩, fun u hu => h.units u (by simp [hu]), ?_, h.small, ?_⟩
  · have h3 := h.len
    rw [g2]
    simp only [List.length_append, List.length_replicate] at h3 ⊢
    omega
  · rw [← h.eq, foldD_Cs]
theorem DI.done (h : DI w [] T G) : w = G := h.eq
def doneD (us : List DU) : List DStep := flushD (foldD ⟨[], [], 0⟩ us)
theorem DI.start (h : ∀ u ∈ us, UnitOk u) (hs : us.length ≤ 8589934592) : DI ⟨[], [], 0⟩ us us.length (foldD ⟨[], [], 0⟩ us) :=
  ⟨goodD0, ⟨fun s h => (by cases h), fun x h => (by cases h)⟩, h, by simp [exDW, exD], hs, rfl⟩
end Go.Ch
end
section
set_option linter.unusedVariables false
set_option linter.unusedSimpArgs false
namespace Go.Ch
open Go Go.Ab

def bk (c : List Attr) (x : Elem) : List Attr := fm chgG (fm rawG x.attrs c) x.attrs
def KOk (us : List DU) : Prop := (∀ c, DU.K c ∈ us → VG true c ∧ c.length ≤ 100000000000) ∧ (∀ e, DU.A e ∈ us → elemE e = 0 ∧ e.attrs.length ≤ 100000000000)
def EOk (r : List Elem) : Prop := ∀ x ∈ r, elemE x = 0 ∧ x.attrs.length ≤ 100000000000
theorem KOk.tail {u : DU} {us : List DU} (h : KOk (u :: us)) : KOk us := ⟨fun c hc => h.1 c (by simp [hc]), fun e he => h.2 e (by simp [he])⟩
theorem EOk.tail {x : Elem} {r : List Elem} (h : EOk (x :: r)) : EOk r := fun y hy => h y (by simp [hy])
def undoD (f : List Elem) (l : List DStep) : List DStep := doneD (undoU (exD l) f)
variable {w G : DWr} {us : List DU} {T : Nat}
theorem DI.run {g : Elem → List Attr} {t : List Elem} {j : Nat} (hj : j < t.length) (h : DI w ((t.drop j).map (fun x => DU.K (g x)) ++ us) T G) :
    UnitOk (.K (g (t.getD j default))) ∧ DI ⟨keepD (flushD w) 1 (g (t.getD j default)), [], 0⟩ ((t.drop (j + 1)).map (fun x => DU.K (g x)) ++ us) T G := by
  rw [dropD hj, List.map_cons, List.cons_append] at h
  exact ⟨h.units _ (by simp), h.keep (n := 0)⟩
theorem DN.mono {m n : Nat} {l : List DStep} (h : DN m l) (hm : m ≤ n) : DN n l := fun s hs => ⟨Nat.le_trans (h s hs).1 hm, Nat.le_trans (h s hs).2.1 hm, fun x hx => Nat.le_trans ((h s hs).2.2 x hx) hm⟩
theorem EOk.an {f : List Elem} (h : EOk f) : AN 400000000000 f := fun x hx => by have := (h x hx).2; omega
theorem EOk.take {f : List Elem} (h : EOk f) (n : Nat) : EOk (f.take n) := fun x hx => h x (List.mem_of_mem_take hx)
theorem EOk.drop {f : List Elem} (h : EOk f) (n : Nat) : EOk (f.drop n) := fun x hx => h x (List.mem_of_mem_drop hx)
end Go.Ch
end
section
set_option linter.unusedVariables false
set_option linter.unusedSimpArgs false
namespace Go.Ch
open Go Go.Ab

def elemsT (l : List Elem) : Tree := .lst 3 (l.map elemT)
def boolT (b : Bool) : Tree := .sc (.bool b)
def attrsT (l : List Attr) : Tree := .lst 2 (l.map attrT)
structure Act where
  ins : List (List Elem)
  cut : List Bool
  set : List (List Attr)
def actT (x : Act) : Tree := .agg [.lst 1 (x.ins.map elemsT), .lst 1 (x.cut.map boolT), .lst 1 (x.set.map attrsT)]
/-- What is left from place i on, as units. -/
def actR (x : Act) (i : Nat) : List DU :=
  if i < x.cut.length then (x.ins.getD i default).map .A ++ ((if x.cut.getD i default = true then .C else .K (x.set.getD i default)) :: actR x (i + 1))
  else (x.ins.getD i default).map .A
termination_by x.cut.length - i
def tailR (x : Act) (i : Nat) : List DU := if i < x.cut.length then (if x.cut.getD i default = true then .C else .K (x.set.getD i default)) :: actR x (i + 1) else []
variable {w G : DWr} {us : List DU} {T : Nat}
theorem DI.of_eq {o o' : List DStep} {a : List Elem} {c : Int} (e : o' = o) (h : DI ⟨o, a, c⟩ us T G) : DI ⟨o', a, c⟩ us T G := e ▸ h
end Go.Ch
end
section
set_option linter.unusedVariables false
set_option linter.unusedSimpArgs false
namespace Go.Ch
open Go Go.Ab

def onB : ByteArray := { data := #[111, 110] }
def boldB : ByteArray := { data := #[98, 111, 108, 100] }
def insE (tag : ByteArray) (i j : Nat) : Elem := ⟨65 + ((i : Int) + (j : Int)) % 26, 0, [⟨tag, { data := #[111, 110] }⟩]⟩
def insL (tag : ByteArray) (i k : Nat) : List Elem := (List.range k).map (insE tag i)
def setL (tag : ByteArray) (v : Int) : List Attr :=
  if v = 1 then [⟨{ data := #[98, 111, 108, 100] }, { data := #[111, 110] }⟩]
  else if v = 2 then [⟨{ data := #[98, 111, 108, 100] }, { data := #[] }⟩]
  else if v = 3 then [⟨{ data := #[98, 111, 108, 100] }, tag⟩, ⟨tag, { data := #[111, 110] }⟩] else []
def insK (raw : List Int) (used : Int) : Nat := (max 0 (rollV raw used 8 - 5)).toNat
def chgF (raw : List Int) (tag : ByteArray) (n : Nat) : Nat → Int → Act → Act
  | 0, used, x => ⟨x.ins ++ [insL tag n (insK raw used)], x.cut, x.set⟩
  | k + 1, used, x => chgF raw tag n k (rollU raw (rollU raw (rollU raw used)))
      ⟨x.ins ++ [insL tag (n - (k + 1)) (insK raw used)], x.cut ++ [rollV raw (rollU raw (rollU raw used)) 8 == 0], x.set ++ [setL tag (rollV raw (rollU raw used) 8)]⟩
def chgX (raw : List Int) (tag : ByteArray) (n : Nat) : Act := chgF raw tag n n 0 ⟨[], [], []⟩
def TagOk (tag : ByteArray) : Prop := (∀ v, VG true (setL tag v)) ∧ VG false [⟨tag, { data := #[111, 110] }⟩]
structure ActOk (x : Act) : Prop where
  ins : ∀ e ∈ x.ins, e.length ≤ 2 ∧ ∀ y ∈ e, elemE y = 0 ∧ y.attrs.length ≤ 100
  set : ∀ c ∈ x.set, VG true c ∧ c.length ≤ 100
def UnitS : DU → Prop
  | .K c => VG true c ∧ c.length ≤ 100
  | .A e => elemE e = 0 ∧ e.attrs.length ≤ 100
  | .C => True
theorem UnitS.ok {u : DU} (h : UnitS u) : UnitOk u := by
  cases u with
  | K c => exact ⟨h.1, by have := h.2; omega⟩
  | A e => exact ⟨h.1, by have := h.2; omega⟩
  | C => trivial
theorem getD_mem' {α : Type} [Inhabited α] {l : List α} {k : Nat} (h : k < l.length) : l.getD k default ∈ l := by
  rw [show l.getD k default = l[k] by simp [List.getD, List.getElem?_eq_getElem h]]
  exact List.getElem_mem h
end Go.Ch
end
section
set_option linter.unusedVariables false
set_option linter.unusedSimpArgs false
namespace Go.Ch
open Go Go.Ab

def axPut (o : List AxStep) (s : DStep) : List AxStep :=
  if s.kind = 0 ∧ 0 < o.length ∧ (o.getD (o.length - 1) default).kind = 0 then o.set (o.length - 1) ⟨(o.getD (o.length - 1) default).kind, (o.getD (o.length - 1) default).n + s.n⟩ else o ++ [⟨s.kind, szD s⟩]
def axF (o : List AxStep) : List DStep → List AxStep
  | [] => o
  | s :: l => axF (axPut o s) l
def axD (d : List DStep) : List AxStep := axF [] d
def forg : DU → U
  | .K _ => .K
  | .A _ => .A
  | .C => .C
def AdjK (k k' : Int) : Prop := (k = k' → k' = 0) ∧ ¬ (k = 2 ∧ k' = 1)
/-! ### Places by units -/
def placeU : List U → Int → Int → Int → Int
  | [], _, _, _ => -1
  | .A :: u, p, fr, tq => placeU u p fr (tq + 1)
  | .K :: u, p, fr, tq => if p = fr then tq else placeU u p (fr + 1) (tq + 1)
  | .C :: u, p, fr, tq => if p = fr then -1 else placeU u p (fr + 1) tq
/-! ### What a range leaves, from outside -/
theorem hull_from : ∀ {l : List AxStep} (hl : Form l) (f t first old now : Int), 0 ≤ now → (hullS l f t first 0 old now).2 = 0 ∨ now ≤ (hullS l f t first 0 old now).1
  | [], _, f, t, first, old, now, h => .inl rfl
  | s :: l, hl, f, t, first, old, now, h => by
    have hn := hl.head.2.2
    have hk := kinds hl.head
    rw [hullS]
    by_cases c : s.kind = 0 ∧ max f old < min t (old + s.n)
    · rw [if_pos ⟨c, rfl⟩, if_pos c, if_neg (by omega), if_neg (by omega)]
      have := hull_keep hl.tail f t (now + max f old - old) (now + min t (old + s.n) - old) (old + s.n) (now + s.n) (by omega) (by omega)
      right; rw [this.1]; omega
    · rw [if_neg (fun e => c e.1), if_neg c]
      rcases hull_from hl.tail f t first (if s.kind = 1 then old else old + s.n) (if s.kind = 2 then now else now + s.n) (by split <;> omega) with q | q
      · exact .inl q
      · right
        refine Int.le_trans ?_ q
        split <;> omega
theorem hull_left : ∀ {l : List AxStep} (hl : Form l) (f t first old now p : Int), 0 ≤ now → old ≤ p → p < f → 0 ≤ placeS l p old now → (hullS l f t first 0 old now).2 = 0 ∨ placeS l p old now < (hullS l f t first 0 old now).1
  | [], _, f, t, first, old, now, p, h1, h2, h3, h0 => by simp [placeS] at h0
  | s :: l, hl, f, t, first, old, now, p, h1, h2, h3, h0 => by
    have hn := hl.head.2.2
    have hk := kinds hl.head
    rw [placeS] at h0 ⊢
    rw [hullS]
    by_cases k1 : s.kind = 1
    · rw [if_pos k1] at h0 ⊢
      rw [if_neg (by omega : ¬ ((s.kind = 0 ∧ max f old < min t (old + s.n)) ∧ (0 : Int) = 0)), if_neg (by omega : ¬ (s.kind = 0 ∧ max f old < min t (old + s.n))), if_pos k1, if_neg (by omega : ¬ s.kind = 2)]
      exact hull_left hl.tail f t first old _ p (by omega) h2 h3 h0
    · rw [if_neg k1] at h0 ⊢
      rw [if_neg k1]
      by_cases k0 : s.kind = 0
      · rw [if_pos k0] at h0 ⊢
        rw [if_neg (by omega : ¬ s.kind = 2)]
        by_cases c : p < old + s.n
        · rw [if_pos c] at h0 ⊢
          by_cases hc : s.kind = 0 ∧ max f old < min t (old + s.n)
          · rw [if_pos ⟨hc, rfl⟩, if_pos hc]
            have := hull_keep hl.tail f t (now + max f old - old) (now + min t (old + s.n) - old) (old + s.n) (now + s.n) (by omega) (by omega)
            right; rw [this.1]; omega
          · rw [if_neg (fun e => hc e.1), if_neg hc]
            rcases hull_from hl.tail f t first (old + s.n) (now + s.n) (by omega) with q | q
            · exact .inl q
            · right; omega
        · rw [if_neg c] at h0 ⊢
          rw [if_neg (by omega : ¬ ((s.kind = 0 ∧ max f old < min t (old + s.n)) ∧ (0 : Int) = 0)), if_neg (by omega : ¬ (s.kind = 0 ∧ max f old < min t (old + s.n)))]
          exact hull_left hl.tail f t first _ _ p (by omega) (by omega) h3 h0
      · rw [if_neg k0] at h0 ⊢
        rw [if_neg (by omega : ¬ ((s.kind = 0 ∧ max f old < min t (old + s.n)) ∧ (0 : Int) = 0)), if_neg (by omega : ¬ (s.kind = 0 ∧ max f old < min t (old + s.n))), if_pos (by omega : s.kind = 2)]
        by_cases c : p < old + s.n
        · rw [if_pos c] at h0; omega
        · rw [if_neg c] at h0 ⊢
          exact hull_left hl.tail f t first _ now p h1 (by omega) h3 h0
/-! ### What the drawn changes add -/
/-! ### The laws -/
/-- The letters that the laws number their elements with. -/
def abcL (n : Nat) : List Elem := (List.range n).map fun i : Nat => (⟨97 + (i : Int), 0, []⟩ : Elem)
def thrL (d : List DStep) (f t : Int) : List (Int × Int) := if (hullS (axD d) f t 0 0 0 0).1 < (hullS (axD d) f t 0 0 0 0).2 then [hullS (axD d) f t 0 0 0 0] else []
end Go.Ch
namespace Go.Ch
open Go Go.Ab
structure AxB (o : List AxStep) (i : Nat) : Prop where
  len : o.length ≤ i
  n : ∀ t ∈ o, 0 ≤ t.n ∧ t.n ≤ 2147483647 * (i : Int)
theorem AxB.start : AxB [] 0 := ⟨Nat.le_refl _, fun t ht => by cases ht⟩
theorem AxB.last {o : List AxStep} {i : Nat} (h : AxB o i) (hp : 0 < o.length) : 0 ≤ (o.getD (o.length - 1) default).n ∧ (o.getD (o.length - 1) default).n ≤ 2147483647 * (i : Int) :=
  h.n _ (getD_mem' (by omega))
theorem AxB.next {o : List AxStep} {i : Nat} {s : DStep} (h : AxB o i) (hz : 0 ≤ szD s ∧ szD s ≤ 2147483647) (hs : 0 ≤ s.n ∧ s.n ≤ 2147483647) : AxB (axPut o s) (i + 1) := by
  have hl := h.len
  unfold axPut
  split
  · rename_i c
    have hq := h.last c.2.1
    refine ⟨by rw [List.length_set]; omega, fun t ht => ?_⟩
    rcases List.mem_or_eq_of_mem_set ht with ht | rfl
    · have := h.n t ht; omega
    · simp only; omega
  · refine ⟨by rw [List.length_append]; simp; omega, fun t ht => ?_⟩
    rcases List.mem_append.1 ht with ht | ht
    · have := h.n t ht; omega
    · rw [List.mem_singleton] at ht; subst ht; simp only; omega
end Go.Ch
namespace Go.Ch
open Go Go.Ab
end Go.Ch
end
section
set_option linter.unusedVariables false
namespace Go.Ch
open Go Go.Ab

theorem putC_asc {c : Cell} {ns r : List Cell} (hns : ∀ y ∈ ns, ordC c y < 0) (hr : ∀ y ∈ r, ordC c y < 0) (h : Asc (putL ns r)) : Asc ((if emptyC c = true then [] else [c]) ++ putL ns r) := by
  cases he : emptyC c with
  | true => rw [if_pos rfl]; exact h
  | false =>
    rw [if_neg (by decide)]
    refine ⟨fun y hy => ?_, h⟩
    rcases put_mem ns r y hy with ⟨h1, _⟩ | h1
    · exact hns y h1
    · exact hr y h1
theorem put_asc : ∀ (ns l : List Cell), Asc ns → Asc l → Asc (putL ns l)
  | [], l, _, h => h
  | c :: ns, [], h1, h2 => by
    rw [putL, putC]
    exact putC_asc h1.1 (fun y hy => by cases hy) (put_asc ns [] h1.2 trivial)
  | c :: ns, x :: l, h1, h2 => by
    rw [putL, putC]
    by_cases o1 : ordC x c < 0
    · rw [if_pos o1]
      have ih := put_asc (c :: ns) l h1 h2.2
      rw [putL] at ih
      refine ⟨fun y hy => ?_, ih⟩
      rcases put_mem (c :: ns) l y hy with ⟨h, _⟩ | h
      · rcases List.mem_cons.1 h with rfl | h
        · exact o1
        · exact ordC_trans o1 (h1.1 y h)
      · exact h2.1 y h
    · rw [if_neg o1]
      by_cases o2 : ordC x c = 0
      · rw [if_pos o2]
        have e := ordC_eq.1 o2
        exact putC_asc h1.1 (fun y hy => ordC_le_trans (by rw [ordC_eq.2 ⟨e.1.symm, e.2.symm⟩]; decide) (h2.1 y hy)) (put_asc ns l h1.2 h2.2)
      · rw [if_neg o2]
        have hcx : ordC c x < 0 := ordC_flip.1 (by omega)
        exact putC_asc h1.1 (fun y hy => by
          rcases List.mem_cons.1 hy with rfl | hy
          · exact hcx
          · exact ordC_trans hcx (h2.1 y hy)) (put_asc ns (x :: l) h1.2 h2)
termination_by ns l => ns.length + l.length
theorem place_mono {l : List AxStep} (hl : Form l) {p q : Int} (h0 : 0 ≤ p) (h : p < q) (hp : 0 ≤ placeS l p 0 0) (hq : 0 ≤ placeS l q 0 0) : placeS l p 0 0 < placeS l q 0 0 := by
  have h1 := place_gap hl p q 0 0 h0 h hp
  have h2 := gap_mono hl q 0 0 0 (Int.le_refl _)
  have h3 := gap_place hl q 0 0 (by omega) hq
  omega
theorem mvR_mono {a : List AxStep} {p q : Int} (hp : PIn a p) (hq : PIn a q) (h : p < q) (h1 : ¬ (0 < a.length ∧ mvR a p < 0)) (h2 : ¬ (0 < a.length ∧ mvR a q < 0)) : mvR a p < mvR a q := by
  unfold mvR at *
  by_cases c : 0 < a.length
  · simp only [if_pos c] at *
    obtain ⟨v, p0, _⟩ := hp c
    exact place_mono v.1 p0 h (by omega) (by omega)
  · simp only [if_neg c] at *; exact h
theorem mvC_some {rows cols : List AxStep} {c d : Cell} (h : mvC rows cols c = some d) : ¬ (0 < rows.length ∧ mvR rows c.row < 0) ∧ ¬ (0 < cols.length ∧ mvR cols c.col < 0) ∧ d = { c with row := mvR rows c.row, col := mvR cols c.col } := by
  unfold mvC at h
  split at h
  · cases h
  · rename_i h1
    split at h
    · cases h
    · rename_i h2
      exact ⟨h1, h2, by cases h; rfl⟩
theorem mov_asc {rows cols : List AxStep} : ∀ {l : List Cell}, Asc l → (∀ c ∈ l, PIn rows c.row) → (∀ c ∈ l, PIn cols c.col) → Asc (movL l rows cols)
  | [], _, _, _ => trivial
  | c :: l, h, hr, hc => by
    have ih := mov_asc (l := l) h.2 (fun x hx => hr x (by simp [hx])) (fun x hx => hc x (by simp [hx]))
    unfold movL at *
    rw [List.filterMap_cons]
    cases hm : mvC rows cols c with
    | none => exact ih
    | some d =>
      refine ⟨fun y hy => ?_, ih⟩
      obtain ⟨x, hx, hxy⟩ := List.mem_filterMap.1 hy
      obtain ⟨a1, a2, rfl⟩ := mvC_some hm
      obtain ⟨b1, b2, rfl⟩ := mvC_some hxy
      have ho := h.1 x hx
      rw [ordC_lt] at ho ⊢
      rcases ho with ho | ⟨e, ho⟩
      · exact .inl (mvR_mono (hr c (by simp)) (hr x (by simp [hx])) ho a1 b1)
      · refine .inr ⟨by show mvR rows c.row = mvR rows x.row; rw [e], mvR_mono (hc c (by simp)) (hc x (by simp [hx])) ho a2 b2⟩
end Go.Ch
end
