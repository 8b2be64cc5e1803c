/- Parts of the proof: ChGrid9, GridPlain4, ChGrid10, ChGrid11, GridPlain5, ChGrid12, GridSort0, GridSort, GridPlain6, ChGrid13, ChGrid14, ChGrid15, GridPlain7, ChGrid16, GridPlain8, ChGrid17, ChGrid18, GridPlain9, ChGrid19, GridCells. -/
import Derived.Test.YthpcjddcgdlilaaDoorM1
import Derived.Test.YthpcjddcgdlilaaDoorM2
import Derived.Test.YthpcjddcgdlilaaDoorM3
import Derived.Test.YthpcjddcgdlilaaDoorM4
import Derived.Test.YthpcjddcgdlilaaDoorM5
import Derived.Test.YthpcjddcgdlilaaDoorM6
import Derived.WalkKit
import Derived.WalkMore
import Derived.Handy
import Derived.StillTailTactics
import Derived.Shelf.SlSortCmp.WholeK
import Derived.Shelf.SlSortCmp.NoneTotal
section
set_option linter.unusedVariables false
set_option linter.unusedSimpArgs false
set_option maxRecDepth 100000
set_option maxHeartbeats 4000000
open Go Go.Proofs Go.Ab
namespace Go.Ch
theorem fc_gcheck (x : Grid) (hl : x.merges.length ≤ 100000000000) : FC Tryd.prog 44 [.t (gridT x)] (app emp []) (VI (gridE x)) (app emp []) := by
 refine .go Tryd.f44 ?_
 refine .br [.r [], .r [(5, Xv 1 (!(decide (x.rows < 0))) X0), (6, Xv 1 (!(decide (x.rows < 0))) X0), (7, X (Xk' (decide (x.rows < 0)))), (10, Xv 1 (!(decide (x.rows < 0) || decide (x.rows > 2147483647))) X0), (11, Xv 1 (!(decide (x.rows < 0) || decide (x.rows > 2147483647))) X0), (12, X (Xk' (decide (x.rows < 0) || decide (x.rows > 2147483647)))), (15, Xv 1 (!((decide (x.rows < 0) || decide (x.rows > 2147483647)) || decide (x.cols < 0))) X0), (16, Xv 1 (!((decide (x.rows < 0) || decide (x.rows > 2147483647)) || decide (x.cols < 0))) X0), (17, X (Xk' ((decide (x.rows < 0) || decide (x.rows > 2147483647)) || decide (x.cols < 0))))]] (((decide (x.rows < 0) || decide (x.rows > 2147483647)) || decide (x.cols < 0)) || decide (x.cols > 2147483647)) (fun h1 => ?_) (fun h1 => ?_)
 ·
  (try simp only [decide_eq_true_eq, decide_eq_false_iff_not, Int.not_lt, Int.not_le, gt_iff_lt, Bool.or_eq_true, Bool.or_eq_false_iff] at h1)
  have e1 : ((gridE x) : Int) = 2 := by
   unfold gridE; rw [if_pos (by omega)]
  exact .finE [.r []] [] (fun z0 => (VI z0, [])) (2 : Int) ((gridE x) : Int) e1
 ·
  (try simp only [decide_eq_true_eq, decide_eq_false_iff_not, Int.not_lt, Int.not_le, gt_iff_lt, Bool.or_eq_true, Bool.or_eq_false_iff] at h1)
  refine .br [.r [(6, X (Xc0 (fc_cells x.cells x.rows x.cols false) X0))], .r []] ((cellsE x.cells x.rows x.cols false 0) != 0) (fun h4 => ?_) (fun h4 => ?_)
  ·
   (try simp only [bne_iff_ne, bne_eq_false_iff_eq, ne_eq] at h4)
   have e2 : ((gridE x) : Int) = (cellsE x.cells x.rows x.cols false 0) := by
    unfold gridE; rw [if_neg (by omega), if_pos (by omega)]
   exact .finE [.r []] [] (fun z0 => (VI z0, [])) ((cellsE x.cells x.rows x.cols false 0) : Int) ((gridE x) : Int) e2
  ·
   (try simp only [bne_iff_ne, bne_eq_false_iff_eq, ne_eq] at h4)
   refine .loop (α := Nat) [.r [(2, X (Xl rectT x.merges))]] 272 (fun i => ([(1, .ptr 0 0), (35, VL 4 rectT x.merges), (36, VI (x.merges.length : Int)), (37, VI (i : Int))], [(0, .box [VI x.rows, VI x.cols, VL 5 cellT x.cells, VL 4 rectT x.merges])])) (fun i => i ≤ x.merges.length ∧ mergE x.merges x.rows x.cols 0 = mergE x.merges x.rows x.cols i ∧ InsTo x.merges x.rows x.cols i) (fun i => x.merges.length - i) (0 : Nat) ?_ ?_
   ·
    exact ⟨by omega, rfl, fun k hk => absurd hk (by omega)⟩
   rintro i I7 ih7
   try dsimp only at I7
   refine .br [.r []] (decide ((i : Int) < (x.merges.length : Int))) (fun h7 => ?_) (fun h7 => ?_)
   ·
    (try simp only [decide_eq_true_eq, decide_eq_false_iff_not, Int.not_lt, Int.not_le] at h7)
    have hx : mergE x.merges x.rows x.cols i = _ := mergE.eq_1 x.merges x.rows x.cols i
    rw [if_pos (by omega)] at hx
    refine .br [.r [(1, X (Xi rectT x.merges (i : Int)))], .r [(5, X (Xc0 (fc_inside ((x.merges.getD i default)) x.rows x.cols (by omega)) X0))]] (!(insB ((x.merges.getD i default)) x.rows x.cols)) (fun h9 => ?_) (fun h9 => ?_)
    ·
     (try simp only [Bool.not_eq_true', Bool.not_eq_false'] at h9)
     rw [if_pos h9] at hx
     have e3 : ((gridE x) : Int) = 2 := by
      unfold gridE; rw [if_neg (by omega), if_neg (by omega), I7.2.1, hx]
      
     exact .finE [.r []] [] (fun z0 => (VI z0, [])) (2 : Int) ((gridE x) : Int) e3
    ·
     (try simp only [Bool.not_eq_true', Bool.not_eq_false'] at h9)
     rw [if_neg (by rw [h9]; decide)] at hx
     refine .br [.r [(5, Xv 1 ((((x.merges.getD i default)).h) == 1) X0), (6, Xv 1 ((((x.merges.getD i default)).h) == 1) X0), (7, X (Xk ((((x.merges.getD i default)).h) == 1)))]] (((((x.merges.getD i default)).h) == 1) && ((((x.merges.getD i default)).w) == 1)) (fun h11 => ?_) (fun h11 => ?_)
     ·
      (try simp only [Bool.and_eq_true, Bool.and_eq_false_iff, Bool.not_eq_true', Bool.not_eq_false', beq_iff_eq, beq_eq_false_iff_ne, ne_eq] at h11)
      rw [if_pos (by omega)] at hx
      have e4 : ((gridE x) : Int) = 4 := by
       unfold gridE; rw [if_neg (by omega), if_neg (by omega), I7.2.1, hx]
       
      exact .finE [.r []] [] (fun z0 => (VI z0, [])) (4 : Int) ((gridE x) : Int) e4
     ·
      (try simp only [Bool.and_eq_true, Bool.and_eq_false_iff, Bool.not_eq_true', Bool.not_eq_false', beq_iff_eq, beq_eq_false_iff_ne, ne_eq] at h11)
      rw [if_neg (by omega)] at hx
      refine .br [.r [(4, Xv 1 (decide ((i : Int) > 0)) X0), (6, Xv 1 (decide ((i : Int) > 0)) (Xn ((i : Int) - 1))), (7, Xv 2 (decide ((i : Int) > 0)) (Xi' rectT x.merges ((i : Int) - 1) (i - 1))), (8, Xv 1 (decide ((i : Int) > 0)) X0), (10, Xv 2 (decide ((i : Int) > 0)) (Xc0 (fc_before ((x.merges.getD (i - 1) default)) ((x.merges.getD i default))) X0)), (11, Xv 1 (decide ((i : Int) > 0)) X0), (12, X (Xk (decide ((i : Int) > 0))))]] (decide ((i : Int) > 0) && !(befB ((x.merges.getD (i - 1) default)) ((x.merges.getD i default)))) (fun h13 => ?_) (fun h13 => ?_)
      ·
       (try simp only [decide_eq_true_eq, decide_eq_false_iff_not, Int.not_lt, Int.not_le, gt_iff_lt, Bool.not_eq_true', Bool.not_eq_false', Bool.and_eq_true, Bool.and_eq_false_iff] at h13)
       rw [if_pos ⟨by omega, h13.2⟩] at hx
       have e5 : ((gridE x) : Int) = 5 := by
        unfold gridE; rw [if_neg (by omega), if_neg (by omega), I7.2.1, hx]
        
       exact .finE [.r []] [] (fun z0 => (VI z0, [])) (5 : Int) ((gridE x) : Int) e5
      ·
       (try simp only [decide_eq_true_eq, decide_eq_false_iff_not, Int.not_lt, Int.not_le, gt_iff_lt, Bool.not_eq_true', Bool.not_eq_false', Bool.and_eq_true, Bool.and_eq_false_iff] at h13)
       rw [if_neg (fun q => by have q1 := q.1; rcases h13 with h | h; (omega); (rw [q.2] at h; cases h))] at hx
       have hall := I7.2.2.all (by omega) (by omega) (by omega)
       have hrb := RB_ins h9 (by omega) (by omega)
       refine .br [.r [(3, X (Xst rectT 4 x.merges (i : Int))), (5, X (Xc3 616 [(0, 304)] (fc_anyF (x.merges.take i) (((x.merges.getD i default)).row) (((x.merges.getD i default)).col) (((x.merges.getD i default)).h) (((x.merges.getD i default)).w) (by assumption) (by assumption)) X0))]] (anyM (x.merges.take i) ⟨(((x.merges.getD i default)).row), (((x.merges.getD i default)).col), (((x.merges.getD i default)).h), (((x.merges.getD i default)).w)⟩) (fun h15 => ?_) (fun h15 => ?_)
       ·
        rw [if_pos h15] at hx
        have e6 : ((gridE x) : Int) = 21 := by
         unfold gridE; rw [if_neg (by omega), if_neg (by omega), I7.2.1, hx]
         
        exact .finE [.r []] [] (fun z0 => (VI z0, [])) (21 : Int) ((gridE x) : Int) e6
       ·
        rw [if_neg (by rw [h15]; decide)] at hx
        refine .back [.r [(0, X (Xn ((i : Int) + 1)))]] [(0, 0)] (ih7 ((i + 1) : Nat) ?_ ?_)
        ·
         exact ⟨by omega, by rw [I7.2.1, hx], I7.2.2.succ h9⟩
        ·
         ((try dsimp only); omega)
   ·
    (try simp only [decide_eq_true_eq, decide_eq_false_iff_not, Int.not_lt, Int.not_le] at h7)
    have e7 : ((gridE x) : Int) = 0 := by
     unfold gridE; rw [if_neg (by omega), if_neg (by omega), I7.2.1, mergE, if_neg (by omega)]
    exact .finE [.r []] [] (fun z0 => (VI z0, [])) (0 : Int) ((gridE x) : Int) e7

end Go.Ch
end
section
set_option linter.unusedVariables false
namespace Go.Ch
open Go Go.Ab

def insQE (l : List Rect) (m n : Int) (i : Nat) : Int := if i < l.length then (if insB (l.getD i default) m n = false then 2 else insQE l m n (i + 1)) else 0
termination_by l.length - i
def mgE (l : List Rect) (m n : Int) (i : Nat) : Int := if i < l.length then (if insB (l.getD i default) m n = false then 2 else if (l.getD i default).h = 1 ∧ (l.getD i default).w = 1 then 4 else mgE l m n (i + 1)) else 0
termination_by l.length - i
def celF (l : List Cell) (m n : Int) (i : Nat) : Int := if i < l.length then (if m ≤ (l.getD i default).row ∨ n ≤ (l.getD i default).col then 2 else celF l m n (i + 1)) else 0
termination_by l.length - i
theorem insQE_all {l : List Rect} {m n : Int} : ∀ (k i : Nat), l.length - i = k → insQE l m n i = 0 → ∀ j, i ≤ j → j < l.length → insB (l.getD j default) m n = true
  | 0, i, h, _, j, h1, h2 => by omega
  | k + 1, i, h, h0, j, h1, h2 => by
    rw [insQE, if_pos (by omega)] at h0
    split at h0
    · cases h0
    · rename_i hb
      by_cases e : i = j
      · rw [← e]; simpa using hb
      · exact insQE_all k (i + 1) (by omega) h0 j (by omega) h2
theorem mgE_all {l : List Rect} {m n : Int} : ∀ (k i : Nat), l.length - i = k → mgE l m n i = 0 → ∀ j, i ≤ j → j < l.length → insB (l.getD j default) m n = true ∧ ¬ ((l.getD j default).h = 1 ∧ (l.getD j default).w = 1)
  | 0, i, h, _, j, h1, h2 => by omega
  | k + 1, i, h, h0, j, h1, h2 => by
    rw [mgE, if_pos (by omega)] at h0
    split at h0
    · cases h0
    · rename_i hb
      split at h0
      · cases h0
      · rename_i hc
        by_cases e : i = j
        · rw [← e]; exact ⟨by simpa using hb, hc⟩
        · exact mgE_all k (i + 1) (by omega) h0 j (by omega) h2
theorem celF_all {l : List Cell} {m n : Int} : ∀ (k i : Nat), l.length - i = k → celF l m n i = 0 → ∀ j, i ≤ j → j < l.length → (l.getD j default).row < m ∧ (l.getD j default).col < n
  | 0, i, h, _, j, h1, h2 => by omega
  | k + 1, i, h, h0, j, h1, h2 => by
    rw [celF, if_pos (by omega)] at h0
    split at h0
    · cases h0
    · rename_i hb
      by_cases e : i = j
      · rw [← e]; omega
      · exact celF_all k (i + 1) (by omega) h0 j (by omega) h2
theorem mem_getDX {α : Type} [Inhabited α] {l : List α} {x : α} (h : x ∈ l) : ∃ j, j < l.length ∧ l.getD j default = x := by
  obtain ⟨j, hj, e⟩ := List.mem_iff_getElem.1 h
  exact ⟨j, hj, by rw [List.getD_eq_getElem?_getD, List.getElem?_eq_getElem hj]; exact e⟩
structure EdOk (e : GEd) : Prop where
  okr : Valid e.rows
  okc : Valid e.cols
  cells : cellsE e.cells 2147483647 2147483647 true 0 = 0
  split : ∀ r ∈ e.split, insB r 2147483647 2147483647 = true
  merge : ∀ r ∈ e.merge, insB r 2147483647 2147483647 = true ∧ ¬ (r.h = 1 ∧ r.w = 1)
def edE (e : GEd) : Int :=
  if ¬ checkX e.rows = 0 then checkX e.rows else if ¬ checkX e.cols = 0 then checkX e.cols
  else if ¬ cellsE e.cells 2147483647 2147483647 true 0 = 0 then cellsE e.cells 2147483647 2147483647 true 0
  else if ¬ insQE e.split 2147483647 2147483647 0 = 0 then insQE e.split 2147483647 2147483647 0 else mgE e.merge 2147483647 2147483647 0
theorem edE_ok {e : GEd} (h : edE e = 0) : EdOk e := by
  unfold edE at h
  split at h
  · omega
  · split at h
    · omega
    · split at h
      · omega
      · split at h
        · omega
        · refine ⟨check_iff.1 (by omega), check_iff.1 (by omega), by omega, fun r hr => ?_, fun r hr => ?_⟩
          · obtain ⟨j, hj, rfl⟩ := mem_getDX hr
            exact insQE_all _ 0 rfl (by omega) j (by omega) hj
          · obtain ⟨j, hj, rfl⟩ := mem_getDX hr
            exact mgE_all _ 0 rfl h j (by omega) hj
/-- The size of an axis afterwards. -/
def nwS (n : Int) (a : List AxStep) : Int := if 0 < a.length then newI a else n
structure FitOk (g : Grid) (e : GEd) : Prop where
  rows : 0 < e.rows.length → oldI e.rows = g.rows
  cols : 0 < e.cols.length → oldI e.cols = g.cols
  cells : ∀ c ∈ e.cells, c.row < nwS g.rows e.rows ∧ c.col < nwS g.cols e.cols
  split : ∀ r ∈ e.split, insB r (nwS g.rows e.rows) (nwS g.cols e.cols) = true
  merge : ∀ r ∈ e.merge, insB r (nwS g.rows e.rows) (nwS g.cols e.cols) = true
def fitE (g : Grid) (e : GEd) : Int :=
  if 0 < e.rows.length ∧ ¬ oldI e.rows = g.rows then 14 else if 0 < e.cols.length ∧ ¬ oldI e.cols = g.cols then 14
  else if ¬ celF e.cells (nwS g.rows e.rows) (nwS g.cols e.cols) 0 = 0 then celF e.cells (nwS g.rows e.rows) (nwS g.cols e.cols) 0
  else if ¬ insQE e.split (nwS g.rows e.rows) (nwS g.cols e.cols) 0 = 0 then insQE e.split (nwS g.rows e.rows) (nwS g.cols e.cols) 0
  else insQE e.merge (nwS g.rows e.rows) (nwS g.cols e.cols) 0
theorem fitE_ok {g : Grid} {e : GEd} (h : fitE g e = 0) : FitOk g e := by
  unfold fitE at h
  split at h
  · omega
  · split at h
    · omega
    · split at h
      · omega
      · split at h
        · omega
        · refine ⟨fun q => by omega, fun q => by omega, fun c hc => ?_, fun r hr => ?_, fun r hr => ?_⟩
          · obtain ⟨j, hj, rfl⟩ := mem_getDX hc
            exact celF_all _ 0 rfl (by omega) j (by omega) hj
          · obtain ⟨j, hj, rfl⟩ := mem_getDX hr
            exact insQE_all _ 0 rfl (by omega) j (by omega) hj
          · obtain ⟨j, hj, rfl⟩ := mem_getDX hr
            exact insQE_all _ 0 rfl h j (by omega) hj
theorem newI_bd {l : List AxStep} (h : Valid l) : 0 ≤ newI l ∧ newI l ≤ 2147483647 ∧ 0 ≤ oldI l ∧ oldI l ≤ 2147483647 := by
  have := h.2.1; have := h.2.2
  unfold newI oldI; omega
theorem nwS_bd {n : Int} {a : List AxStep} (h : Valid a) (hn : 0 ≤ n ∧ n ≤ 2147483647) : 0 ≤ nwS n a ∧ nwS n a ≤ 2147483647 := by
  have := newI_bd h
  unfold nwS; split <;> omega
end Go.Ch
end
section
set_option linter.unusedVariables false
set_option linter.unusedSimpArgs false
set_option maxRecDepth 100000
set_option maxHeartbeats 4000000
open Go Go.Proofs Go.Ab
namespace Go.Ch
theorem fc_checkEdit (e : GEd) (le : e.cells.length ≤ 100000000000 ∧ e.split.length ≤ 100000000000 ∧ e.merge.length ≤ 100000000000) (he : EdOk e) : FC Tryd.prog 27 [.t (gedT e)] (app emp []) (VI 0) (app emp []) := by
 refine .go Tryd.f27 ?_
 have hv1 := check_iff.2 he.okr
 have hv2 := check_iff.2 he.okc
 have hv3 := he.cells
 refine .br [.r [], .r [], .u, .r [], .t, .r [(0, X (Xa (Xc ((0:Int) ≤ 0)) (Xc ((0 : Int) < ((2 : Nat) : Int)))) ⟨by decide, by decide⟩)], .r [(1, X (Xc0 (fc_axCheck e.rows) X0))], .r []] ((checkX e.rows) != 0) (fun h5 => ?_) (fun h5 => ?_)
 ·
  (try simp only [bne_iff_ne, bne_eq_false_iff_eq, ne_eq] at h5)
  exfalso
  omega
 ·
  (try simp only [bne_iff_ne, bne_eq_false_iff_eq, ne_eq] at h5)
  refine .br [.r [], .u, .r [], .t, .r [(0, X (Xa (Xc ((0:Int) ≤ 1)) (Xc ((1 : Int) < ((2 : Nat) : Int)))) ⟨by decide, by decide⟩)], .r [(1, X (Xc0 (fc_axCheck e.cols) X0))], .r []] ((checkX e.cols) != 0) (fun h5 => ?_) (fun h5 => ?_)
  ·
   (try simp only [bne_iff_ne, bne_eq_false_iff_eq, ne_eq] at h5)
   exfalso
   omega
  ·
   (try simp only [bne_iff_ne, bne_eq_false_iff_eq, ne_eq] at h5)
   refine .br [.r [], .u, .r [], .f, .r [(2, X (Xc0 (fc_cells e.cells 2147483647 2147483647 true) X0))], .r []] ((cellsE e.cells 2147483647 2147483647 true 0) != 0) (fun h9 => ?_) (fun h9 => ?_)
   ·
    (try simp only [bne_iff_ne, bne_eq_false_iff_eq, ne_eq] at h9)
    exfalso
    omega
   ·
    (try simp only [bne_iff_ne, bne_eq_false_iff_eq, ne_eq] at h9)
    refine .loop (α := Nat) [.r [], .u, .r [], .t, .r [(1, X (Xa (Xc ((0:Int) ≤ 0)) (Xc ((0 : Int) < ((2 : Nat) : Int)))) ⟨by decide, by decide⟩)], .r [(1, X (Xl rectT e.split))]] 392 (fun j => ([(7, VI 0), (35, .t (.agg [TL 4 rectT e.split, TL 4 rectT e.merge])), (36, VI 0), (40, VL 4 rectT e.split), (41, VI (e.split.length : Int)), (42, VI (j : Int))], [])) (fun j => j ≤ (e.split).length) (fun j => (e.split).length - j) (0 : Nat) ?_ ?_
    ·
     (try dsimp only); omega
    rintro j I15 ih15
    try dsimp only at I15
    refine .br [.r []] (decide ((j : Int) < (e.split.length : Int))) (fun h15 => ?_) (fun h15 => ?_)
    ·
     (try simp only [decide_eq_true_eq, decide_eq_false_iff_not, Int.not_lt, Int.not_le] at h15)
     have hin : insB ((e.split).getD j default) 2147483647 2147483647 = true := by first | exact he.split _ (getDX_mem (by omega)) | exact (he.merge _ (getDX_mem (by omega))).1
     refine .br [.r [(0, X (Xi rectT e.split (j : Int)))], .r [(1, X (Xc0 (fc_inside ((e.split.getD j default)) 2147483647 2147483647 (by omega)) X0))]] (!(insB ((e.split.getD j default)) 2147483647 2147483647)) (fun h17 => ?_) (fun h17 => ?_)
     ·
      (try simp only [Bool.not_eq_true', Bool.not_eq_false'] at h17)
      exfalso
      rw [hin] at h17; cases h17
     ·
      (try simp only [Bool.not_eq_true', Bool.not_eq_false'] at h17)
      refine .br [.r [(4, Xv 1 false X0), (5, Xv 1 false X0), (6, X (Xk false)), (9, Xv 1 (false && ((((e.split.getD j default)).h) == 1)) X0), (10, Xv 1 (false && ((((e.split.getD j default)).h) == 1)) X0), (11, X (Xk (false && ((((e.split.getD j default)).h) == 1))))]] ((false && ((((e.split.getD j default)).h) == 1)) && ((((e.split.getD j default)).w) == 1)) (fun h19 => ?_) (fun h19 => ?_)
      ·
       (try simp only [Bool.and_eq_true, Bool.and_eq_false_iff, Bool.not_eq_true', Bool.not_eq_false', beq_iff_eq, beq_eq_false_iff_ne, ne_eq] at h19)
       exfalso
       first | (exact absurd h19.1.1 (by decide)) | (exact (he.merge _ (getDX_mem (l := e.merge) (i := j) (by omega))).2 ⟨by omega, by omega⟩)
      ·
       (try simp only [Bool.and_eq_true, Bool.and_eq_false_iff, Bool.not_eq_true', Bool.not_eq_false', beq_iff_eq, beq_eq_false_iff_ne, ne_eq] at h19)
       refine .back [.r [(0, X (Xn ((j : Int) + 1)))]] [] (ih15 ((j + 1) : Nat) ?_ ?_)
       ·
        (try dsimp only); omega
       ·
        ((try dsimp only); omega)
    ·
     (try simp only [decide_eq_true_eq, decide_eq_false_iff_not, Int.not_lt, Int.not_le] at h15)
     refine .loop (α := Nat) [.r [], .u, .r [], .t, .r [(1, X (Xa (Xc ((0:Int) ≤ 1)) (Xc ((1 : Int) < ((2 : Nat) : Int)))) ⟨by decide, by decide⟩)], .r [(1, X (Xl rectT e.merge))]] 480 (fun j => ([(7, VI 1), (35, .t (.agg [TL 4 rectT e.split, TL 4 rectT e.merge])), (36, VI 1), (40, VL 4 rectT e.merge), (41, VI (e.merge.length : Int)), (42, VI (j : Int))], [])) (fun j => j ≤ (e.merge).length) (fun j => (e.merge).length - j) (0 : Nat) ?_ ?_
     ·
      (try dsimp only); omega
     rintro j I15 ih15
     try dsimp only at I15
     refine .br [.r []] (decide ((j : Int) < (e.merge.length : Int))) (fun h15 => ?_) (fun h15 => ?_)
     ·
      (try simp only [decide_eq_true_eq, decide_eq_false_iff_not, Int.not_lt, Int.not_le] at h15)
      have hin : insB ((e.merge).getD j default) 2147483647 2147483647 = true := by first | exact he.split _ (getDX_mem (by omega)) | exact (he.merge _ (getDX_mem (by omega))).1
      refine .br [.r [(0, X (Xi rectT e.merge (j : Int)))], .r [(1, X (Xc0 (fc_inside ((e.merge.getD j default)) 2147483647 2147483647 (by omega)) X0))]] (!(insB ((e.merge.getD j default)) 2147483647 2147483647)) (fun h17 => ?_) (fun h17 => ?_)
      ·
       (try simp only [Bool.not_eq_true', Bool.not_eq_false'] at h17)
       exfalso
       rw [hin] at h17; cases h17
      ·
       (try simp only [Bool.not_eq_true', Bool.not_eq_false'] at h17)
       refine .br [.r [(4, Xv 1 true X0), (5, Xv 1 true X0), (6, X (Xk true)), (9, Xv 1 (true && ((((e.merge.getD j default)).h) == 1)) X0), (10, Xv 1 (true && ((((e.merge.getD j default)).h) == 1)) X0), (11, X (Xk (true && ((((e.merge.getD j default)).h) == 1))))]] ((true && ((((e.merge.getD j default)).h) == 1)) && ((((e.merge.getD j default)).w) == 1)) (fun h19 => ?_) (fun h19 => ?_)
       ·
        (try simp only [Bool.and_eq_true, Bool.and_eq_false_iff, Bool.not_eq_true', Bool.not_eq_false', beq_iff_eq, beq_eq_false_iff_ne, ne_eq] at h19)
        exfalso
        first | (exact absurd h19.1.1 (by decide)) | (exact (he.merge _ (getDX_mem (l := e.merge) (i := j) (by omega))).2 ⟨by omega, by omega⟩)
       ·
        (try simp only [Bool.and_eq_true, Bool.and_eq_false_iff, Bool.not_eq_true', Bool.not_eq_false', beq_iff_eq, beq_eq_false_iff_ne, ne_eq] at h19)
        refine .back [.r [(0, X (Xn ((j : Int) + 1)))]] [] (ih15 ((j + 1) : Nat) ?_ ?_)
        ·
         (try dsimp only); omega
        ·
         ((try dsimp only); omega)
     ·
      (try simp only [decide_eq_true_eq, decide_eq_false_iff_not, Int.not_lt, Int.not_le] at h15)
      exact .fin [.r [], .u, .r [], .f, .r []] []
end Go.Ch
end
section
set_option linter.unusedVariables false
set_option linter.unusedSimpArgs false
set_option maxRecDepth 100000
set_option maxHeartbeats 4000000
open Go Go.Proofs Go.Ab
namespace Go.Ch
theorem fc_fits (x : Grid) (e : GEd) (le : e.cells.length ≤ 100000000000 ∧ e.split.length ≤ 100000000000 ∧ e.merge.length ≤ 100000000000) (lm : x.merges.length ≤ 100000000000) (hx : gridE x = 0) (he : EdOk e) (hf : FitOk x e) : FC Tryd.prog 24 [.t (gridT x), .t (gedT e)] (app emp []) (.tup [VI (nwS x.rows e.rows), VI (nwS x.cols e.cols), VI 0]) (app emp []) := by
 refine .go Tryd.f24 ?_
 obtain ⟨f1, f2, f3, f4, f5⟩ := hf
 have hr := he.okr
 have hc := he.okc
 have hgb : 0 ≤ x.rows ∧ x.rows ≤ 2147483647 ∧ 0 ≤ x.cols ∧ x.cols ≤ 2147483647 := by (unfold gridE at hx; split at hx <;> omega)
 have nb1 := nwS_bd (n := x.rows) hr (by omega)
 have nb2 := nwS_bd (n := x.cols) hc (by omega)
 unfold nwS at nb1 nb2 f3 f4 f5
 refine .br [.r [], .r [(1, X (Xc0 (fc_gcheck x (by omega)) X0))], .r []] ((gridE x) != 0) (fun h2 => ?_) (fun h2 => ?_)
 ·
  (try simp only [bne_iff_ne, bne_eq_false_iff_eq, ne_eq] at h2)
  exfalso
  omega
 ·
  (try simp only [bne_iff_ne, bne_eq_false_iff_eq, ne_eq] at h2)
  refine .br [.r [(1, X (Xc0 (fc_checkEdit e (by assumption) (by assumption)) X0))], .r [], .f, .r [(4, X (Xc0 (fc_axsize x.rows e.rows (fun _ => hr)) X0))], .r [(4, X (Xc0 (fc_axsize x.cols e.cols (fun _ => hc)) X0))], .r [(4, Xv 1 (!(!(decide (0 < (e.rows).length → oldI e.rows = x.rows)))) X0), (5, X (Xk' (!(decide (0 < (e.rows).length → oldI e.rows = x.rows)))))]] (!(decide (0 < (e.rows).length → oldI e.rows = x.rows)) || !(decide (0 < (e.cols).length → oldI e.cols = x.cols))) (fun h9 => ?_) (fun h9 => ?_)
  ·
   (try simp only [decide_eq_true_eq, decide_eq_false_iff_not, Int.not_lt, Int.not_le, Bool.not_eq_true', Bool.not_eq_false', Bool.or_eq_true, Bool.or_eq_false_iff] at h9)
   exfalso
   rcases h9 with h | h; (exact h f1); (exact h f2)
  ·
   (try simp only [decide_eq_true_eq, decide_eq_false_iff_not, Int.not_lt, Int.not_le, Bool.not_eq_true', Bool.not_eq_false', Bool.or_eq_true, Bool.or_eq_false_iff] at h9)
   refine .loop (α := Nat) [.r [(2, X (Xl cellT e.cells))]] 360 (fun i => ([(3, .ptr 8 0), (9, VI (if 0 < (e.rows).length then newI e.rows else x.rows)), (11, VI (if 0 < (e.cols).length then newI e.cols else x.cols)), (52, VL 5 cellT e.cells), (53, VI (e.cells.length : Int)), (54, VI (i : Int))], [(8, .box [VL 2 stepT e.rows, VL 2 stepT e.cols, VL 5 cellT e.cells, VL 4 rectT e.split, VL 4 rectT e.merge])])) (fun i => i ≤ e.cells.length) (fun i => e.cells.length - i) (0 : Nat) ?_ ?_
   ·
    (try dsimp only); omega
   rintro i I12 ih12
   try dsimp only at I12
   refine .br [.r []] (decide ((i : Int) < (e.cells.length : Int))) (fun h12 => ?_) (fun h12 => ?_)
   ·
    (try simp only [decide_eq_true_eq, decide_eq_false_iff_not, Int.not_lt, Int.not_le] at h12)
    have hm := f3 _ (getDX_mem (l := e.cells) (i := i) (by omega))
    refine .br [.r [(0, X (Xi cellT e.cells (i : Int)))], .r [(6, Xv 1 (!(decide ((((e.cells.getD i default)).row) ≥ (if 0 < (e.rows).length then newI e.rows else x.rows)))) X0), (8, Xv 2 (!(decide ((((e.cells.getD i default)).row) ≥ (if 0 < (e.rows).length then newI e.rows else x.rows)))) X0), (9, X (Xk' (decide ((((e.cells.getD i default)).row) ≥ (if 0 < (e.rows).length then newI e.rows else x.rows)))))]] (decide ((((e.cells.getD i default)).row) ≥ (if 0 < (e.rows).length then newI e.rows else x.rows)) || decide ((((e.cells.getD i default)).col) ≥ (if 0 < (e.cols).length then newI e.cols else x.cols))) (fun h14 => ?_) (fun h14 => ?_)
    ·
     (try simp only [decide_eq_true_eq, decide_eq_false_iff_not, Int.not_lt, Int.not_le, ge_iff_le, Bool.or_eq_true, Bool.or_eq_false_iff] at h14)
     exfalso
     omega
    ·
     (try simp only [decide_eq_true_eq, decide_eq_false_iff_not, Int.not_lt, Int.not_le, ge_iff_le, Bool.or_eq_true, Bool.or_eq_false_iff] at h14)
     refine .back [.r [(0, X (Xn ((i : Int) + 1)))]] [(8, 8)] (ih12 ((i + 1) : Nat) ?_ ?_)
     ·
      (try dsimp only); omega
     ·
      ((try dsimp only); omega)
   ·
    (try simp only [decide_eq_true_eq, decide_eq_false_iff_not, Int.not_lt, Int.not_le] at h12)
    refine .loop (α := Nat) [.r [], .u, .r [], .t, .r [(0, X (Xa (Xc ((0:Int) ≤ 0)) (Xc ((0 : Int) < ((2 : Nat) : Int)))) ⟨by decide, by decide⟩)], .r [(1, X (Xl rectT e.split))]] 464 (fun j => ([(9, VI (if 0 < (e.rows).length then newI e.rows else x.rows)), (11, VI (if 0 < (e.cols).length then newI e.cols else x.cols)), (73, .t (.agg [TL 4 rectT e.split, TL 4 rectT e.merge])), (74, VI 0), (77, VL 4 rectT e.split), (78, VI (e.split.length : Int)), (79, VI (j : Int))], [])) (fun j => j ≤ (e.split).length) (fun j => (e.split).length - j) (0 : Nat) ?_ ?_
    ·
     (try dsimp only); omega
    rintro j I21 ih21
    try dsimp only at I21
    refine .br [.r []] (decide ((j : Int) < (e.split.length : Int))) (fun h21 => ?_) (fun h21 => ?_)
    ·
     (try simp only [decide_eq_true_eq, decide_eq_false_iff_not, Int.not_lt, Int.not_le] at h21)
     have hin : insB ((e.split).getD j default) (if 0 < (e.rows).length then newI e.rows else x.rows) (if 0 < (e.cols).length then newI e.cols else x.cols) = true := by first | exact f4 _ (getDX_mem (by omega)) | exact f5 _ (getDX_mem (by omega))
     refine .br [.r [(0, X (Xi rectT e.split (j : Int)))], .r [(3, X (Xc0 (fc_inside ((e.split.getD j default)) (if 0 < (e.rows).length then newI e.rows else x.rows) (if 0 < (e.cols).length then newI e.cols else x.cols) (by omega)) X0))]] (!(insB ((e.split.getD j default)) (if 0 < (e.rows).length then newI e.rows else x.rows) (if 0 < (e.cols).length then newI e.cols else x.cols))) (fun h23 => ?_) (fun h23 => ?_)
     ·
      (try simp only [Bool.not_eq_true', Bool.not_eq_false'] at h23)
      exfalso
      rw [hin] at h23; cases h23
     ·
      (try simp only [Bool.not_eq_true', Bool.not_eq_false'] at h23)
      refine .back [.r [(0, X (Xn ((j : Int) + 1)))]] [] (ih21 ((j + 1) : Nat) ?_ ?_)
      ·
       (try dsimp only); omega
      ·
       ((try dsimp only); omega)
    ·
     (try simp only [decide_eq_true_eq, decide_eq_false_iff_not, Int.not_lt, Int.not_le] at h21)
     refine .loop (α := Nat) [.r [], .u, .r [], .t, .r [(0, X (Xa (Xc ((0:Int) ≤ 1)) (Xc ((1 : Int) < ((2 : Nat) : Int)))) ⟨by decide, by decide⟩)], .r [(1, X (Xl rectT e.merge))]] 536 (fun j => ([(9, VI (if 0 < (e.rows).length then newI e.rows else x.rows)), (11, VI (if 0 < (e.cols).length then newI e.cols else x.cols)), (73, .t (.agg [TL 4 rectT e.split, TL 4 rectT e.merge])), (74, VI 1), (77, VL 4 rectT e.merge), (78, VI (e.merge.length : Int)), (79, VI (j : Int))], [])) (fun j => j ≤ (e.merge).length) (fun j => (e.merge).length - j) (0 : Nat) ?_ ?_
     ·
      (try dsimp only); omega
     rintro j I21 ih21
     try dsimp only at I21
     refine .br [.r []] (decide ((j : Int) < (e.merge.length : Int))) (fun h21 => ?_) (fun h21 => ?_)
     ·
      (try simp only [decide_eq_true_eq, decide_eq_false_iff_not, Int.not_lt, Int.not_le] at h21)
      have hin : insB ((e.merge).getD j default) (if 0 < (e.rows).length then newI e.rows else x.rows) (if 0 < (e.cols).length then newI e.cols else x.cols) = true := by first | exact f4 _ (getDX_mem (by omega)) | exact f5 _ (getDX_mem (by omega))
      refine .br [.r [(0, X (Xi rectT e.merge (j : Int)))], .r [(3, X (Xc0 (fc_inside ((e.merge.getD j default)) (if 0 < (e.rows).length then newI e.rows else x.rows) (if 0 < (e.cols).length then newI e.cols else x.cols) (by omega)) X0))]] (!(insB ((e.merge.getD j default)) (if 0 < (e.rows).length then newI e.rows else x.rows) (if 0 < (e.cols).length then newI e.cols else x.cols))) (fun h23 => ?_) (fun h23 => ?_)
      ·
       (try simp only [Bool.not_eq_true', Bool.not_eq_false'] at h23)
       exfalso
       rw [hin] at h23; cases h23
      ·
       (try simp only [Bool.not_eq_true', Bool.not_eq_false'] at h23)
       refine .back [.r [(0, X (Xn ((j : Int) + 1)))]] [] (ih21 ((j + 1) : Nat) ?_ ?_)
       ·
        (try dsimp only); omega
       ·
        ((try dsimp only); omega)
     ·
      (try simp only [decide_eq_true_eq, decide_eq_false_iff_not, Int.not_lt, Int.not_le] at h21)
      have e1 : ((nwS x.rows e.rows) : Int) = (if 0 < (e.rows).length then newI e.rows else x.rows) := by
       rfl
      have e2 : ((nwS x.cols e.cols) : Int) = (if 0 < (e.cols).length then newI e.cols else x.cols) := by
       rfl
      exact .finE [.r [], .u, .r [], .f, .r []] [] (fun (z0, z1) => (.tup [VI z0, VI z1, VI 0], [])) (((if 0 < (e.rows).length then newI e.rows else x.rows) : Int), ((if 0 < (e.cols).length then newI e.cols else x.cols) : Int)) (((nwS x.rows e.rows) : Int), ((nwS x.cols e.cols) : Int)) (pr e1 e2)
end Go.Ch
end
section
set_option linter.unusedVariables false
namespace Go.Ch
open Go Go.Ab

theorem idxF_spec {α : Type} [Inhabited α] (p : α → Bool) {l : List α} : ∀ (n i : Nat), l.length - i = n → (idxF p l i = -1 ∧ (∀ j, i ≤ j → j < l.length → p (l.getD j default) = false)) ∨
    ∃ k : Nat, idxF p l i = (k : Int) ∧ i ≤ k ∧ k < l.length ∧ p (l.getD k default) = true ∧ ∀ j, i ≤ j → j < k → p (l.getD j default) = false
  | 0, i, h => by rw [idxF, if_neg (by omega)]; exact .inl ⟨rfl, fun j h1 h2 => by omega⟩
  | n + 1, i, h => by
    have hi : i < l.length := by omega
    rw [idxF, if_pos hi]
    by_cases hp : p (l.getD i default) = true
    · rw [if_pos hp]; exact .inr ⟨i, rfl, Nat.le_refl _, hi, hp, fun j h1 h2 => by omega⟩
    · rw [if_neg hp]
      rcases idxF_spec p (l := l) n (i + 1) (by omega) with ⟨e, q⟩ | ⟨k, e, k1, k2, k3, k4⟩
      · refine .inl ⟨e, fun j h1 h2 => ?_⟩
        by_cases ej : i = j
        · rw [← ej]; simpa using hp
        · exact q j (by omega) h2
      · refine .inr ⟨k, e, by omega, k2, k3, fun j h1 h2 => ?_⟩
        by_cases ej : i = j
        · rw [← ej]; simpa using hp
        · exact k4 j (by omega) h2
def delL {α : Type} (p : α → Bool) (l : List α) : List α := l.filter (fun q => !p q)
theorem filt_all {α : Type} [Inhabited α] {p : α → Bool} {l : List α} (h : ∀ j, 0 ≤ j → j < l.length → p (l.getD j default) = false) : delL p l = l := by
  unfold delL
  rw [List.filter_eq_self]
  intro q hq
  obtain ⟨j, hj, rfl⟩ := mem_getDX hq
  rw [h j (by omega) hj]; rfl
/-- What the loop of DeleteFunc keeps. -/
structure DelI {α : Type} [Inhabited α] (p : α → Bool) (l o : List α) (i j : Nat) : Prop where
  len : o.length = l.length
  lt : i < j
  le : j ≤ l.length
  tk : o.take i = delL p (l.take j)
  dr : o.drop j = l.drop j
theorem DelI.start {α : Type} [Inhabited α] {p : α → Bool} {l : List α} {k : Nat} (h1 : k < l.length) (h2 : p (l.getD k default) = true) (h3 : ∀ j, 0 ≤ j → j < k → p (l.getD j default) = false) : DelI p l l k (k + 1) := by
  refine ⟨rfl, by omega, by omega, ?_, rfl⟩
  unfold delL
  rw [filt_succ _ h1, if_neg (by rw [h2]; decide), List.append_nil]
  symm
  rw [List.filter_eq_self]
  intro q hq
  obtain ⟨j, hj, rfl⟩ := mem_getDX hq
  rw [List.length_take] at hj
  rw [List.getD_eq_getElem?_getD, List.getElem?_take_of_lt (by omega), ← List.getD_eq_getElem?_getD, h3 j (by omega) (by omega)]; rfl
theorem DelI.at_ {α : Type} [Inhabited α] {p : α → Bool} {l o : List α} {i j : Nat} (h : DelI p l o i j) (hj : j < l.length) : o.getD j default = l.getD j default := by
  have e1 : o.drop j = o.getD j default :: o.drop (j + 1) := drop_succD (by have := h.len; omega)
  have e2 : l.drop j = l.getD j default :: l.drop (j + 1) := drop_succD hj
  have := h.dr
  rw [e1, e2] at this
  exact (List.cons.inj this).1
theorem DelI.skip {α : Type} [Inhabited α] {p : α → Bool} {l o : List α} {i j : Nat} (h : DelI p l o i j) (hj : j < l.length) (hp : p (o.getD j default) = true) : DelI p l o i (j + 1) := by
  have e := h.at_ hj
  rw [e] at hp
  refine ⟨h.len, by have := h.lt; omega, by omega, ?_, ?_⟩
  · rw [h.tk]; unfold delL; rw [filt_succ _ hj, if_neg (by rw [hp]; decide), List.append_nil]
  · have := congrArg (List.drop 1) h.dr
    rwa [List.drop_drop, List.drop_drop] at this
theorem DelI.keep {α : Type} [Inhabited α] {p : α → Bool} {l o : List α} {i j : Nat} (h : DelI p l o i j) (hj : j < l.length) (hp : p (o.getD j default) = false) : DelI p l (o.set i (o.getD j default)) (i + 1) (j + 1) := by
  have e := h.at_ hj
  have hlt := h.lt
  have hlen := h.len
  rw [e] at hp ⊢
  refine ⟨by rw [List.length_set]; exact hlen, by omega, by omega, ?_, ?_⟩
  · unfold delL
    rw [filt_succ _ hj, if_pos (by rw [hp]; rfl)]
    have : (o.set i (l.getD j default)).take (i + 1) = o.take i ++ [l.getD j default] := by
      rw [List.take_succ_eq_append_getElem (by rw [List.length_set]; omega), List.getElem_set_self, List.take_set_of_le (Nat.le_refl _)]
    rw [this, h.tk]; rfl
  · rw [List.drop_set_of_lt (by omega)]
    have := congrArg (List.drop 1) h.dr
    rwa [List.drop_drop, List.drop_drop] at this
theorem DelI.done {α : Type} [Inhabited α] {p : α → Bool} {l o : List α} {i j : Nat} (h : DelI p l o i j) (hj : ¬ j < l.length) : o.take i = delL p l := by
  rw [h.tk, List.take_of_length_le (by omega)]
theorem delL_len {α : Type} (p : α → Bool) (l : List α) : (delL p l).length ≤ l.length := List.length_filter_le _ _
end Go.Ch
end
section
set_option linter.unusedVariables false
set_option linter.unusedSimpArgs false
set_option maxRecDepth 100000
set_option maxHeartbeats 4000000
open Go Go.Proofs Go.Ab
namespace Go.Ch
theorem fc_idxF_rawR (l : List Rect) (a b c d : Int) (hn : l.length ≤ 100000000000) (hl : AllRB l) (hr : RB ⟨a, b, c, d⟩) : FC Tryd.prog 75 [.row 0 l.length, .fn 51 [.ptr 1 0]] (app emp [(0, OR 4 rectT l), (1, .box [VI a, VI b, VI c, VI d])]) (VI (idxF (fun q => meetB q ⟨a, b, c, d⟩) l 0)) (app emp [(0, OR 4 rectT l), (1, .box [VI a, VI b, VI c, VI d])]) := by
 refine .go Tryd.f75 ?_
 refine .loop (α := Nat) [.r [], .r []] 34 (fun i => ([(0, .row 0 l.length), (1, .fn 51 [.ptr 1 0]), (7, VI (l.length : Int)), (8, VI (i : Int))], [(0, OR 4 rectT l), (1, .box [VI a, VI b, VI c, VI d])])) (fun i => i ≤ l.length ∧ idxF (fun q => meetB q ⟨a, b, c, d⟩) l 0 = idxF (fun q => meetB q ⟨a, b, c, d⟩) l i) (fun i => l.length - i) (0 : Nat) ?_ ?_
 ·
  exact ⟨by omega, rfl⟩
 rintro i I2 ih2
 try dsimp only at I2
 refine .br [.r []] (decide ((i : Int) < (l.length : Int))) (fun h2 => ?_) (fun h2 => ?_)
 ·
  (try simp only [decide_eq_true_eq, decide_eq_false_iff_not, Int.not_lt, Int.not_le] at h2)
  have hm := hl _ (getDX_mem (l := l) (i := i) (by omega))
  refine .br [.r [], .r [(3, X (Xp rectT l (i : Int))), (4, X (Xe rectT l i)), (5, X (Xc3 98 [(0, 1)] (fc_raw1 ((l.getD i default)) a b c d (by assumption) (by assumption)) X0))]] (meetB ((l.getD i default)) ⟨a, b, c, d⟩) (fun h4 => ?_) (fun h4 => ?_)
  ·
   have e1 : ((idxF (fun q => meetB q ⟨a, b, c, d⟩) l 0) : Int) = (i : Int) := by
    rw [I2.2, idxF, if_pos (by omega), if_pos h4]
   exact .finE [.r []] [(0, 0), (1, 1)] (fun z0 => (VI z0, [(0, OR 4 rectT l), (1, .box [VI a, VI b, VI c, VI d])])) ((i : Int) : Int) ((idxF (fun q => meetB q ⟨a, b, c, d⟩) l 0) : Int) e1
  ·
   refine .back [.r [(0, X (Xn ((i : Int) + 1)))]] [(0, 0), (1, 1)] (ih2 ((i + 1) : Nat) ?_ ?_)
   ·
    refine ⟨by omega, ?_⟩
    rw [I2.2, idxF, if_pos (by omega), if_neg (by rw [h4]; decide)]
   ·
    ((try dsimp only); omega)
 ·
  (try simp only [decide_eq_true_eq, decide_eq_false_iff_not, Int.not_lt, Int.not_le] at h2)
  have e2 : ((idxF (fun q => meetB q ⟨a, b, c, d⟩) l 0) : Int) = -1 := by
   rw [I2.2, idxF, if_neg (by omega)]
  exact .finE [.r []] [(0, 0), (1, 1)] (fun z0 => (VI z0, [(0, OR 4 rectT l), (1, .box [VI a, VI b, VI c, VI d])])) (-1 : Int) ((idxF (fun q => meetB q ⟨a, b, c, d⟩) l 0) : Int) e2

theorem fc_delQ (l : List Rect) (a b c d : Int) (hn : l.length ≤ 100000000000) (hl : AllRB l) (hr : RB ⟨a, b, c, d⟩) : FC Tryd.prog 50 [.row 0 l.length, .fn 51 [.ptr 1 0]] (app emp [(0, OR 4 rectT l), (1, .box [VI a, VI b, VI c, VI d])]) (.row 2 ((delL (fun q => meetB q ⟨a, b, c, d⟩) l).length)) (app emp [(0, .gone), (1, .box [VI a, VI b, VI c, VI d]), (2, OR 4 rectT (delL (fun q => meetB q ⟨a, b, c, d⟩) l))]) := by
 refine .go Tryd.f50 ?_
 have sp := idxF_spec (fun q => meetB q ⟨a, b, c, d⟩) (l := l) _ 0 rfl
 refine .mid [.r []] ?_
 by_cases hd : 0 ≤ idxF (fun q => meetB q ⟨a, b, c, d⟩) l 0
 ·
  obtain ⟨k, hk, k1, k2, k3, k4⟩ := sp.resolve_left (fun q => by omega)
  refine .br [.r [(2, X (Xc4 [(0, 0), (1, 1)] (fc_idxF_rawR l a b c d (by omega) (by assumption) (by assumption)) X0))], .le (.eq 5 (VI (idxF (fun q => meetB q ⟨a, b, c, d⟩) l 0)) (VI (k : Int)) (.of_eq (by rw [hk]))), .r []] ((k : Int) == (-1)) (fun h2 => ?_) (fun h2 => ?_)
  ·
   (try simp only [beq_iff_eq, beq_eq_false_iff_ne, ne_eq] at h2)
   exfalso
   omega
  ·
   (try simp only [beq_iff_eq, beq_eq_false_iff_ne, ne_eq] at h2)
   refine .loop (α := Nat × Nat × (List Rect)) [.r [(1, X (Xn ((k : Int) + 1)))]] 82 (fun (i, j, o) => ([(0, .row 0 o.length), (1, .fn 51 [.ptr 1 0]), (5, VI (i : Int)), (6, VI (j : Int))], [(0, OR 4 rectT o), (1, .box [VI a, VI b, VI c, VI d])])) (fun (i, j, o) => DelI (fun q => meetB q ⟨a, b, c, d⟩) l o i j) (fun (i, j, o) => l.length - j) (k, (k + 1), l) ?_ ?_
   ·
    exact DelI.start k2 k3 k4
   rintro ⟨i, j, o⟩ I5 ih5
   replace I5 : DelI (fun q => meetB q ⟨a, b, c, d⟩) l o i j := I5
   have il := I5.len
   have ilt := I5.lt
   have ile := I5.le
   refine .br [.r []] (decide ((j : Int) < (o.length : Int))) (fun h5 => ?_) (fun h5 => ?_)
   ·
    (try simp only [decide_eq_true_eq, decide_eq_false_iff_not, Int.not_lt, Int.not_le] at h5)
    have hm : RB (o.getD j default) := by (rw [I5.at_ (by omega)]; exact hl _ (getDX_mem (by omega)))
    refine .br [.r [(2, X (Xp rectT o (j : Int))), (3, X (Xe rectT o j))], .r [(2, X (Xc3 178 [(0, 1)] (fc_raw1 ((o.getD j default)) a b c d (by assumption) (by assumption)) X0))]] (!(meetB ((o.getD j default)) ⟨a, b, c, d⟩)) (fun h8 => ?_) (fun h8 => ?_)
    ·
     (try simp only [Bool.not_eq_true', Bool.not_eq_false'] at h8)
     refine .back [.r [(3, X (Xp rectT o (i : Int))), (4, X (Xs 4 rectT 0 o i ((o.getD j default))))], .r [(1, X (Xn ((i : Int) + 1)))], .r [(1, X (Xn ((j : Int) + 1)))], .le (.eq 0 (.row 0 o.length) (.row 0 ((o.set i ((o.getD j default))).length)) (.of_eq (by simp only [List.length_set])))] [(0, 0), (1, 1)] (ih5 ((i + 1), (j + 1), (o.set i ((o.getD j default)))) ?_ ?_)
     ·
      exact I5.keep (by omega) h8
     ·
      ((try dsimp only); omega)
    ·
     (try simp only [Bool.not_eq_true', Bool.not_eq_false'] at h8)
     refine .back [.r [(1, X (Xn ((j : Int) + 1)))]] [(0, 0), (1, 1)] (ih5 (i, (j + 1), o) ?_ ?_)
     ·
      exact I5.skip (by omega) h8
     ·
      ((try dsimp only); omega)
   ·
    (try simp only [decide_eq_true_eq, decide_eq_false_iff_not, Int.not_lt, Int.not_le] at h5)
    have hdn := I5.done (by omega)
    have e1 : ((delL (fun q => meetB q ⟨a, b, c, d⟩) l) : List Rect) = (o.take i) := by
     first | exact hdn.symm | rw [hdn]
    have e2 : ((delL (fun q => meetB q ⟨a, b, c, d⟩) l).length : Nat) = (o.take i).length := by
     first | exact hdn.symm | rw [hdn]
    exact .finE [.r [(2, X (Xtl rectT o.length o (i : Int))), (3, X (Xclr rectT o.length i o))], .r [(2, X (Xcut' rectT 4 0 162 o.length i o (.agg [TI 0, TI 0, TI 0, TI 0]) (i : Int)))]] [(0, 0), (1, 1), (162, 2)] (fun (z0, z1) => (.row 2 z1, [(0, .gone), (1, .box [VI a, VI b, VI c, VI d]), (2, OR 4 rectT z0)])) (((o.take i) : List Rect), ((o.take i).length : Nat)) (((delL (fun q => meetB q ⟨a, b, c, d⟩) l) : List Rect), ((delL (fun q => meetB q ⟨a, b, c, d⟩) l).length : Nat)) (pr e1 e2)
 ·
  obtain ⟨hk, hall⟩ := sp.resolve_right (fun ⟨k, hk, q⟩ => by omega)
  have e3 : ((delL (fun q => meetB q ⟨a, b, c, d⟩) l) : List Rect) = l := by
   first | exact filt_all hall | rw [filt_all hall]
  have e4 : ((delL (fun q => meetB q ⟨a, b, c, d⟩) l).length : Nat) = l.length := by
   first | exact filt_all hall | rw [filt_all hall]
  exact .finE [.r [(2, X (Xc4 [(0, 0), (1, 1)] (fc_idxF_rawR l a b c d (by omega) (by assumption) (by assumption)) X0))], .le (.eq 5 (VI (idxF (fun q => meetB q ⟨a, b, c, d⟩) l 0)) (VI (-1)) (.of_eq (by rw [hk]))), .r [], .t, .le (.mv 0 l.length (List.map rectT l).length lm), .r []] [(0, 0), (1, 1), (58, 2)] (fun (z0, z1) => (.row 2 z1, [(0, .gone), (1, .box [VI a, VI b, VI c, VI d]), (2, OR 4 rectT z0)])) ((l : List Rect), (l.length : Nat)) (((delL (fun q => meetB q ⟨a, b, c, d⟩) l) : List Rect), ((delL (fun q => meetB q ⟨a, b, c, d⟩) l).length : Nat)) (pr e3 e4)
end Go.Ch
end
section
namespace Go.Ab
open Go Go.Proofs Go.RowKit Go.Shelf Go.Lib Go.Sort
open Go.Ch
set_option linter.unusedVariables false
set_option linter.unusedSimpArgs false

set_option maxHeartbeats 4000000 in
theorem compare_w (x y : Int) (W : World) : Calls Tryd.prog 56 #[.int .i64 x, .int .i64 y] W fun e w' => e = .returned (.int .i64 (cmpI x y)) ∧ w' = W := by
  have hcon := fun z W' => Tryd.cmp_isNaN_int2 z W'
  unfold cmpI
  by_cases h1 : x < y
  · rw [if_pos h1]
    go_enter Tryd.func56, Tryd.ntmps56
    go_wp2_with (go_at_call 78; refine (hcon _ _).mono ?_; rintro e w' ⟨rfl, rfl⟩)
    go_ret
    exact ⟨rfl, rfl⟩
  · rw [if_neg h1]
    by_cases h2 : x > y
    · rw [if_pos h2]
      go_enter Tryd.func56, Tryd.ntmps56
      go_wp2_with (go_at_call 78; refine (hcon _ _).mono ?_; rintro e w' ⟨rfl, rfl⟩)
      go_ret
      exact ⟨rfl, rfl⟩
    · rw [if_neg h2]
      go_enter Tryd.func56, Tryd.ntmps56
      go_wp2_with (go_at_call 78; refine (hcon _ _).mono ?_; rintro e w' ⟨rfl, rfl⟩)
      go_ret
      exact ⟨rfl, rfl⟩

set_option maxHeartbeats 8000000 in
theorem or_w (u v : Int) (B cap : Nat) (W : World) (h0 : W.cell? ⟨B, 0, none⟩ = some (.int .i64 u)) (h1 : W.cell? ⟨B, 1, none⟩ = some (.int .i64 v)) :
    Calls Tryd.prog 55 #[.slice (some ⟨B, 0, none⟩) 2 cap] W fun e w' => e = .returned (.int .i64 (Go.Ch.orL [u, v])) ∧ w' = W := by
  by_cases hu : u = 0
  · by_cases hv : v = 0
    · subst hu hv
      go_enter Tryd.func55, Tryd.ntmps55
      go_wp2
      go_rounds 3
      go_ret
      exact ⟨rfl, rfl⟩
    · subst hu
      have e : Go.Ch.orL [0, v] = v := by simp [Go.Ch.orL, hv]
      rw [e]
      clear e
      go_enter Tryd.func55, Tryd.ntmps55
      go_wp2
      go_rounds 3
      go_ret
      exact ⟨rfl, rfl⟩
  · have e : Go.Ch.orL [u, v] = u := by simp [Go.Ch.orL, hu]
    rw [e]
    clear e
    go_enter Tryd.func55, Tryd.ntmps55
    go_wp2
    go_rounds 3
    go_ret
    exact ⟨rfl, rfl⟩

theorem alloc_cell (W : World) (c : Array Value) (t : TypeId) (o : Nat) : (W.alloc (.cells c t)).cell? ⟨W.heap.size, o, none⟩ = c[o]? := by
  have h : (W.alloc (.cells c t)).heap[W.heap.size]? = some (.cells c t) := by (rw [alloc_eq_grow]; show (W.heap ++ #[.cells c t])[W.heap.size]? = _; simp)
  unfold World.cell?
  simp only [h]
  rfl
def encQ (r : Rect) : List Value := [.int .i64 r.row, .int .i64 r.col, .int .i64 r.h, .int .i64 r.w]
def cmpQ (a b : Rect) : Int := Go.Ch.orL [cmpI a.row b.row, cmpI a.col b.col]
set_option maxRecDepth 1000000 in
set_option maxHeartbeats 8000000 in
theorem raw2_w (x y : Rect) (W : World) : Calls Tryd.prog 54 #[.agg (encQ x).toArray, .agg (encQ y).toArray] W fun e w' => e = .returned (.int .i64 (cmpQ x y)) ∧ ∃ q os', w' = grow (W.drewN q) os' := by
  have hcmp := fun a b W' => compare_w a b W'
  unfold encQ cmpQ
  generalize x.row = x1
  generalize x.col = x2
  generalize x.h = x3
  generalize x.w = x4
  generalize y.row = y1
  generalize y.col = y2
  generalize y.h = y3
  generalize y.w = y4
  go_enter Tryd.func54, Tryd.ntmps54
  go_wp2_with (go_at_call 56; refine (hcmp _ _ _).mono ?_; rintro e w' ⟨rfl, rfl⟩)
  obtain ⟨OA, hA⟩ : ∃ o, Obj.cells #[Value.int .i64 x1, .int .i64 x2, .int .i64 x3, .int .i64 x4] 39 = o := ⟨_, rfl⟩
  obtain ⟨OB, hB⟩ : ∃ o, Obj.cells #[Value.int .i64 y1, .int .i64 y2, .int .i64 y3, .int .i64 y4] 39 = o := ⟨_, rfl⟩
  rw [hA, hB]
  refine wp_region_still_tail 10 (by kernel_rfl) (by kernel_rfl) ?_
  obtain ⟨W3, hW3⟩ : ∃ V, ((W.alloc OA).alloc OB).drew = V := ⟨_, rfl⟩
  have hg : W3 = grow (W.drewN 1) #[OA, OB] := by rw [← hW3, alloc_eq_grow, alloc_eq_grow, grow_grow]; rfl
  have p1 : W3.heap[W.heap.size]? = some OA := by rw [hg]; show (W.heap ++ #[OA, OB])[W.heap.size]? = _; simp
  have p2 : W3.heap[W.heap.size + 1]? = some OB := by rw [hg]; show (W.heap ++ #[OA, OB])[W.heap.size + 1]? = _; simp
  have c1 : W3.cell? ⟨W.heap.size, 0, none⟩ = some (.int .i64 x1) := by unfold World.cell?; simp only [p1]; rw [← hA]; rfl
  have c2 : W3.cell? ⟨W.heap.size, 1, none⟩ = some (.int .i64 x2) := by unfold World.cell?; simp only [p1]; rw [← hA]; rfl
  have c3 : W3.cell? ⟨W.heap.size + 1, 0, none⟩ = some (.int .i64 y1) := by unfold World.cell?; simp only [p2]; rw [← hB]; rfl
  have c4 : W3.cell? ⟨W.heap.size + 1, 1, none⟩ = some (.int .i64 y2) := by unfold World.cell?; simp only [p2]; rw [← hB]; rfl
  clear p1 p2
  have hx : ∃ q os, W3 = grow (W.drewN q) os := ⟨1, _, hg⟩
  clear hg
  change wpStill _ _ ((W.alloc OA).alloc OB).drew (fun a' => wpList _ _ _ _ a' ((W.alloc OA).alloc OB).drew) _ _
  rw [hW3]
  clear hW3 hA hB
  simp only [List.take_succ_cons, List.take_zero, List.drop_succ_cons, List.drop_zero]
  repeat still_step
  still_call (hcmp _ _ _)
  repeat still_step
  still_call (hcmp _ _ _)
  refine wpStill_nil ?_
  have hor : ∀ u v : Int, Calls Tryd.prog 55 #[.slice (some ⟨W3.heap.size, 0, none⟩) 2 2] (W3.alloc (.cells #[.int .i64 u, .int .i64 v] 3)) fun e w' => e = .returned (.int .i64 (Go.Ch.orL [u, v])) ∧ w' = W3.alloc (.cells #[.int .i64 u, .int .i64 v] 3) := fun u v =>
    or_w u v _ _ _ (alloc_cell _ _ _ 0) (alloc_cell _ _ _ 1)
  clear hcmp c1 c2 c3 c4
  go_wp2_with (go_at_call 55; refine (hor _ _).mono ?_; rintro e w' ⟨rfl, rfl⟩)
  clear hor
  go_ret
  obtain ⟨q, os, rfl⟩ := hx
  exact ⟨rfl, q, _, by rw [alloc_eq_grow, grow_grow]⟩
end Go.Ab
end
section
set_option linter.unusedVariables false
set_option linter.unusedSimpArgs false
namespace Go.Ch
open Go Go.Proofs Go.Ab Go.RowKit Go.Shelf Go.Sort

theorem cmpQ_def (a b : Rect) : cmpQ a b = if a.row < b.row then -1 else if a.row > b.row then 1 else if a.col < b.col then -1 else if a.col > b.col then 1 else 0 :=
  ordC_def ⟨a.row, a.col, { data := #[] }, 0, []⟩ ⟨b.row, b.col, { data := #[] }, 0, []⟩
theorem ltQ (a b : Rect) : ltOf cmpQ a b = befB a b := by
  unfold ltOf befB
  rw [cmpQ_def, Bool.eq_iff_iff]
  simp only [decide_eq_true_eq]
  repeat' split
  all_goals omega
theorem swoQ : SWO (ltOf cmpQ) where
  irrefl x := by rw [ltQ, bef_f]; omega
  trans x y z h1 h2 := by rw [ltQ, befB_iff] at *; omega
  ntrans x y z h1 h2 := by rw [ltQ, bef_f] at *; omega
def sortQ (l : List Rect) : List Rect := (pdq (ltOf cmpQ) l.toArray 0 l.toArray.size (Lib.bitLen l.toArray.size) true true).toList
theorem sortQ_spec (l : List Rect) : PermIn 0 l.toArray.size l.toArray (pdq (ltOf cmpQ) l.toArray 0 l.toArray.size (Lib.bitLen l.toArray.size) true true) ∧
    SortedIn (ltOf cmpQ) 0 l.toArray.size (pdq (ltOf cmpQ) l.toArray 0 l.toArray.size (Lib.bitLen l.toArray.size) true true) :=
  pdq_sorts (ltOf cmpQ) swoQ l.toArray 0 l.toArray.size (Lib.bitLen l.toArray.size) true true (Nat.zero_le _) (Nat.le_refl _) (Or.inl rfl)
theorem sortQ_perm (l : List Rect) : (sortQ l).Perm l := by
  obtain ⟨h1, h2, h3⟩ := (sortQ_spec l).1
  unfold sortQ
  generalize pdq (ltOf cmpQ) l.toArray 0 l.toArray.size (Lib.bitLen l.toArray.size) true true = d at *
  have e1 : d.extract 0 l.toArray.size = d := by rw [← h1]; exact Array.extract_size
  rw [e1, show l.toArray.extract 0 l.toArray.size = l.toArray from Array.extract_size] at h3
  simpa using h3
theorem sortQ_len (l : List Rect) : (sortQ l).length = l.length := (sortQ_perm l).length_eq
theorem sortQ_sorted (l : List Rect) : ∀ i j, i < j → j < l.length → befB ((sortQ l).getD j default) ((sortQ l).getD i default) = false := by
  have h := (sortQ_spec l).2
  have hl := sortQ_len l
  intro i j hi hj
  have := h i j (Nat.zero_le _) hi (by simpa using hj)
  rw [ltQ] at this
  unfold sortQ at *
  generalize pdq (ltOf cmpQ) l.toArray 0 l.toArray.size (Lib.bitLen l.toArray.size) true true = d at *
  have e : ∀ k, k < d.size → d[k]! = d.toList.getD k default := fun k hk => by
    rw [getElem!_pos d k hk, List.getD_eq_getElem?_getD, List.getElem?_eq_getElem (by simpa using hk)]; simp
  rw [Array.length_toList] at hl
  rwa [e j (by omega), e i (by omega)] at this
theorem flat_rect (l : List Rect) (t : Nat) (ht : t < l.length * 4) : (flat (l.map rectT))[t]? = some (.sc ((flatK encQ 4 l.toArray)[t]!)) := by
  have hi : t / 4 < l.length := by omega
  have h1 := flat_get (k := 4) (xs := l.map rectT) (i := t / 4) (X := rectT l[t / 4]) (fun x hx => by
    obtain ⟨r, _, rfl⟩ := List.mem_map.1 hx
    exact ⟨rfl, fun T hT => by simp only [rectT, Tree.cells, List.mem_cons, List.not_mem_nil, or_false] at hT; rcases hT with rfl | rfl | rfl | rfl <;> rfl⟩) (by rw [List.getElem?_map, List.getElem?_eq_getElem hi]; rfl) (j := t % 4) (by omega)
  rw [show t / 4 * 4 + t % 4 = t by omega] at h1
  rw [h1, get_flatK encQ 4 l.toArray t (by simpa using ht)]
  have e : l.toArray[t / 4]! = l[t / 4] := by rw [getElem!_pos l.toArray (t / 4) (by simpa using hi)]; simp
  rw [e]
  have h4 : t % 4 = 0 ∨ t % 4 = 1 ∨ t % 4 = 2 ∨ t % 4 = 3 := by omega
  rcases h4 with h | h | h | h <;> rw [h] <;> rfl

theorem grow_obj {P : Program} {F : Fen P} {S : Store} {m : Ab.Place} {w : World} (hS : SRel F S m w) (os : Array Obj) : SRel F S m (grow w os) ∧ FrameExt F S m w S m (grow w os) := by
  have hg : ∀ b, b < w.heap.size → (grow w os).heap[b]? = w.heap[b]? := fun b hb => by
    show (w.heap ++ os)[b]? = _
    rw [Array.getElem?_append_left hb]
  have hF : FrameExt F S m w S m (grow w os) := ⟨rfl, rfl, rfl, by show w.heap.size ≤ (w.heap ++ os).size; simp, fun b hb _ => hg b hb, fun id o h => ⟨o, h, Nat.le_refl _, fun _ => rfl, fun h => h, .inl rfl, o.same_refl⟩, fun id o h hn => by rw [h] at hn; cases hn⟩
  exact ⟨⟨fun id o h => (hS.objs id o h).persist hF (fun b hb => hg b (blk_lt hS h hb)), hS.inj, hS.avoid, fun b hb => Nat.lt_of_lt_of_le (hS.low b hb) hF.size, hS.held hF⟩, hF⟩
theorem upd_app (o o' : Ob) : upd (app emp [(0, o)]) 0 o' = app emp [(0, o')] := by
  funext i
  by_cases e : i = 0
  · subst e; rfl
  · rw [upd_ne e]
    show upd emp 0 o i = upd emp 0 o' i
    rw [upd_ne e, upd_ne e]
theorem mapB_at {w : World} {b : Nat} {c : Array Value} {e : TypeId} {fr : Nat × Nat} (f : Array Value → Array Value) (h : w.heap[b]? = some (.cells c e fr)) : (mapBlock w b f).heap[b]? = some (.cells (f c) e fr) := by
  unfold mapBlock
  simp only [Array.getElem?_modify, if_true, h]
  rfl
theorem mapB_ne {w : World} {b x : Nat} (f : Array Value → Array Value) (h : x ≠ b) : (mapBlock w b f).heap[x]? = w.heap[x]? := by
  unfold mapBlock
  simp only [Array.getElem?_modify]
  rw [if_neg (fun e => h e.symm)]

theorem fc_sortQ (l : List Rect) (hn : l.length ≤ 100000000000) : FC Tryd.prog 53 [.row 0 l.length, .fn 54 []] (app emp [(0, .row 4 false (l.map rectT))]) (.tup []) (app emp [(0, .row 4 false ((sortQ l).map rectT))]) := by
  intro F m w xs hS hl hv
  match xs, hl with
  | [x0, x1], _ =>
  have v0 := hv 0 _ _ rfl rfl
  have v1 := hv 1 _ _ rfl rfl
  have hs0 : app emp [(0, Ob.row 4 false (l.map rectT))] 0 = some (.row 4 false (l.map rectT)) := rfl
  obtain ⟨a1, a2, a3, a4, a5⟩ := hS.objs 0 _ hs0
  cases v1 with
  | fn _ _ us hlu _ =>
  obtain rfl : us = [] := List.length_eq_zero_iff.1 hlu
  cases v0 with
  | rowG _ _ L hs' => rw [hs0] at hs'; cases hs'
  | row _ _ k' fz' xs' L hs' hn' hu' =>
  rw [hs0] at hs'; cases hs'
  have hL := hu' (by simp)
  rw [hL] at a3 a4 a5
  rcases a5 with ⟨q1, q2⟩ | ⟨b, us, e, h1, h2, h3, h4, h5⟩
  · obtain ⟨L1, L2⟩ := L
    simp only at q1 q2
    subst q1 q2
    obtain rfl : l = [] := List.length_eq_zero_iff.1 (by have a3' : (List.map rectT l).length ≤ 0 := a3; rw [List.length_map] at a3'; omega)
    have key := AnyF.slices_SortFunc_none Tryd.sortQ none 0 (.func (.func 54) #[] #[]) w
    change Calls Tryd.prog 53 _ _ _ at key
    have e2 : sortQ [] = [] := List.length_eq_zero_iff.1 (sortQ_len [])
    refine key.mono ?_
    rintro e' w' ⟨rfl, rfl⟩
    rw [e2]
    exact ⟨_, m, rfl, hS, FrameExt.refl F _ m _, .tup [] [] rfl (fun i v u hv => by simp at hv)⟩
  · have hb : b < w.heap.size := (Array.getElem?_eq_some_iff.1 h2).1
    have hsz : l.length * 4 ≤ us.size := by rw [h3]; simp at a3; omega
    have hcell : ∀ (W : World) (c : Array Value) (o : Nat), W.heap[b]? = some (.cells c e (0, 0)) → W.cell? ⟨b, o, none⟩ = c[o]? := fun W c o h => by
      unfold World.cell?; simp only [h]; rfl
    have hH : HoldsK encQ 4 w b 0 l.toArray := fun j hj => by
      rw [size_flatK] at hj
      have hj' : j < l.length * 4 := by simpa using hj
      have hT := flat_rect l j hj'
      have hu : us[j]? = some us[j] := Array.getElem?_eq_getElem (by omega)
      have := h5 j _ _ hT hu
      refine ⟨?_, ?_⟩
      · rw [hcell w us _ h2, Nat.zero_add, hu]
        generalize us[j] = u at *
        generalize (flatK encQ 4 l.toArray)[j]! = v at *
        cases this
        rfl
      · unfold World.frozen?; simp only [h2]; simp
    have hsize : (pdq (ltOf cmpQ) l.toArray 0 l.toArray.size (Lib.bitLen l.toArray.size) true true).size = l.length := by have := sortQ_len l; unfold sortQ at this; simpa using this
    have key := AnyQ.slices_SortFunc_eq (α := Rect) Tryd.sortQ 4 Tryd.isAgg39 Tryd.sizeOf39 encQ (fun _ => rfl) (fun x v hv => by simp only [encQ, List.mem_cons, List.not_mem_nil, or_false] at hv; rcases hv with rfl | rfl | rfl | rfl <;> rfl) cmpQ swoQ 54 #[] b 0 L.2 l.toArray w (enters_of Tryd.func54 (by kernel_rfl) rfl)
      (fun m' os' dk _ x y => raw2_w x y _) hH hb (by simp; omega)
    change Calls Tryd.prog 53 _ _ _ at key
    obtain ⟨L1, L2⟩ := L
    simp only at h1
    subst h1
    have ea : (#[Value.slice (some ⟨b, 0, none⟩) l.toArray.size L2, .func (.func 54) #[] #[]] : Array Value) = [rowVal (some b, L2) l.length, .func (.func 54) #[] [].toArray].toArray := by simp [rowVal]
    rw [ea] at key
    refine key.mono ?_
    rintro e' w' ⟨rfl, n, os, rfl⟩
    unfold sortWorldK
    generalize hD : pdq (ltOf cmpQ) l.toArray 0 l.toArray.size (Lib.bitLen l.toArray.size) true true = D at *
    have hDl : D.toList = sortQ l := by unfold sortQ; rw [hD]
    have hDa : D = (sortQ l).toArray := by rw [← hDl]
    have hlen := sortQ_len l
    have hblk : (putRowK encQ 4 (Sort.ahead w n) b 0 D).heap[b]? = some (.cells (putCells id 0 (flatK encQ 4 D) us) e (0, 0)) := mapB_at _ h2
    have hE : ∀ x ∈ (sortQ l).map rectT, Elt 4 x := fun x hx => by
      obtain ⟨r, _, rfl⟩ := List.mem_map.1 hx
      exact ⟨rfl, fun T hT => by simp only [rectT, Tree.cells, List.mem_cons, List.not_mem_nil, or_false] at hT; rcases hT with rfl | rfl | rfl | rfl <;> rfl⟩
    have hone : ∀ j, j < D.size * 4 → ((flatK encQ 4 D)[j]!).oneCell' = true := fun j hj => by
      rw [get_flatK encQ 4 D j hj]
      have h4 : j % 4 = 0 ∨ j % 4 = 1 ∨ j % 4 = 2 ∨ j % 4 = 3 := by omega
      rcases h4 with h | h | h | h <;> rw [h] <;> rfl
    have hcu : ∀ (j : Nat) (u : Value), (putCells id 0 (flatK encQ 4 D) us)[j]? = some u → (j < D.size * 4 ∧ u = (flatK encQ 4 D)[j]!) ∨ (us[j]? = some u) := fun j u hu => by
      unfold putCells at hu
      rw [Array.getElem?_mapIdx, Option.map_eq_some_iff] at hu
      obtain ⟨x, hx, hxu⟩ := hu
      rw [size_flatK] at hxu
      split at hxu
      · rename_i hc
        exact .inl ⟨by omega, by rw [← hxu]; rfl⟩
      · exact .inr (by rw [hx, hxu])
    have r := rewrite_obj (o' := .row 4 false ((sortQ l).map rectT)) hS hs0 rfl (by rw [hL]) (w' := putRowK encQ 4 (Sort.ahead w n) b 0 D) rfl rfl rfl
      (by show (w.heap.modify b _).size = _; simp) (fun c hc => mapB_ne (w := Sort.ahead w n) _ hc) (by simp only [Ob.len, List.length_map]; omega) (by simp [Ob.same]) (fun hF => by
        rw [hL]
        refine ⟨a1, hE, by simp only [List.length_map] at a3 ⊢; omega, a4, .inr ⟨b, _, e, rfl, hblk, ?_, fun j u hu => ?_, fun j T u hT hu => ?_⟩⟩
        · unfold putCells; rw [Array.size_mapIdx]; exact h3
        · rcases hcu j u hu with ⟨hj, rfl⟩ | hu
          · exact hone j hj
          · exact h4 j u hu
        · have hj : j < (sortQ l).length * 4 := by
            have := (List.getElem?_eq_some_iff.1 hT).1
            rw [flat_len hE, List.length_map] at this; exact this
          rw [flat_rect _ j hj] at hT
          cases hT
          have hu2 : u = (flatK encQ 4 D)[j]! := by
            unfold putCells at hu
            rw [Array.getElem?_mapIdx, Option.map_eq_some_iff] at hu
            obtain ⟨x, hx, hxu⟩ := hu
            rw [if_pos ⟨Nat.zero_le _, by rw [size_flatK, hDa]; simpa using hj⟩] at hxu
            rw [← hxu]; rfl
          rw [hu2, hDa]
          exact .sc _ (by rw [← hDa]; exact hone j (by rw [hDa]; simpa using hj)))
    rw [upd_app] at r
    obtain ⟨g1, g2⟩ := grow_obj r.1 os
    exact ⟨_, m, rfl, g1, FrameExt.trans hS r.2 g2, .tup [] [] rfl (fun i v u hv => by simp at hv)⟩
end Go.Ch
end
section
set_option linter.unusedVariables false
namespace Go.Ch
open Go Go.Ab

def keepO (rows cols : List AxStep) (split : List Rect) (r : Rect) : Option Rect := if thrB (thrR r rows cols) = true ∧ hasQ split (thrR r rows cols) = false then some (thrR r rows cols) else none
def keepQ (l : List Rect) (rows cols : List AxStep) (split : List Rect) : List Rect := l.filterMap (keepO rows cols split)
theorem keepQ_succ {l : List Rect} {rows cols : List AxStep} {split : List Rect} {i : Nat} (h : i < l.length) : keepQ (l.take (i + 1)) rows cols split = keepQ (l.take i) rows cols split ++
    (if thrB (thrR (l.getD i default) rows cols) = true ∧ hasQ split (thrR (l.getD i default) rows cols) = false then [thrR (l.getD i default) rows cols] else []) := by
  unfold keepQ
  rw [take_succD h, List.filterMap_append]
  congr 1
  rw [List.filterMap_cons, List.filterMap_nil]
  unfold keepO
  by_cases h : thrB (thrR (l.getD i default) rows cols) = true ∧ hasQ split (thrR (l.getD i default) rows cols) = false
  · rw [if_pos h, if_pos h]
  · rw [if_neg h, if_neg h]
theorem keepQ_len (l : List Rect) (rows cols : List AxStep) (split : List Rect) : (keepQ l rows cols split).length ≤ l.length := List.length_filterMap_le _ _
theorem thrR_RB {r : Rect} {rows cols : List AxStep} (h : QIn rows cols r) : RB (thrR r rows cols) := by
  obtain ⟨hb, hr, hc⟩ := h
  unfold RB at hb ⊢
  unfold thrR
  by_cases c1 : 0 < rows.length <;> by_cases c2 : 0 < cols.length
  · obtain ⟨v1, w1⟩ := hr c1; obtain ⟨v2, w2⟩ := hc c2
    have b1 := hull_bd v1 w1; have b2 := hull_bd v2 w2
    simp only [if_pos c1, if_pos c2]; omega
  · obtain ⟨v1, w1⟩ := hr c1
    have b1 := hull_bd v1 w1
    simp only [if_pos c1, if_neg c2]; omega
  · obtain ⟨v2, w2⟩ := hc c2
    have b2 := hull_bd v2 w2
    simp only [if_neg c1, if_pos c2]; omega
  · simp only [if_neg c1, if_neg c2]; omega
def addQ (l : List Rect) (r : Rect) : List Rect := delL (fun q => meetB q r) l ++ [r]
theorem addQ_len (l : List Rect) (r : Rect) : (addQ l r).length ≤ l.length + 1 := by
  unfold addQ
  have := delL_len (fun q => meetB q r) l
  rw [List.length_append, List.length_singleton]; omega
theorem addQ_RB {l : List Rect} {r : Rect} (h : AllRB l) (hr : RB r) : AllRB (addQ l r) := fun q hq => by
  unfold addQ delL at hq
  rcases List.mem_append.1 hq with hq | hq
  · exact h q ((List.mem_filter.1 hq).1)
  · rw [List.mem_singleton.1 hq]; exact hr
theorem foldl_succ {α β : Type} [Inhabited α] (f : β → α → β) (b : β) {l : List α} {i : Nat} (h : i < l.length) : (l.take (i + 1)).foldl f b = f ((l.take i).foldl f b) (l.getD i default) := by
  rw [take_succD h, List.foldl_append]; rfl
theorem keepQ_RB {l : List Rect} {rows cols : List AxStep} {split : List Rect} (h : ∀ r ∈ l, QIn rows cols r) : AllRB (keepQ l rows cols split) := fun q hq => by
  unfold keepQ at hq
  obtain ⟨r, hr, he⟩ := List.mem_filterMap.1 hq
  unfold keepO at he
  split at he
  · cases he; exact thrR_RB (h r hr)
  · cases he
def rawGr (g : Grid) (e : GEd) : Grid := ⟨nwS g.rows e.rows, nwS g.cols e.cols, putL e.cells (movL g.cells e.rows e.cols), sortQ (e.merge.foldl addQ (keepQ g.merges e.rows e.cols e.split))⟩
/-- What Raw asks of its data. -/
structure RawIn (g : Grid) (e : GEd) : Prop where
  okr : 0 < e.rows.length → Valid e.rows
  okc : 0 < e.cols.length → Valid e.cols
  l1 : g.cells.length ≤ 10000000000
  l2 : e.cells.length ≤ 10000000000
  l3 : g.merges.length ≤ 10000000000
  l4 : e.merge.length ≤ 10000000000
  a1 : CAN 1000000000000 g.cells
  a2 : CAN 1000000000000 e.cells
  p1 : ∀ c ∈ g.cells, PIn e.rows c.row
  p2 : ∀ c ∈ g.cells, PIn e.cols c.col
  q : ∀ r ∈ g.merges, QIn e.rows e.cols r
  m : AllRB e.merge
def undoA (e : GEd) : GEd := ⟨undoX e.rows, undoX e.cols, [], [], []⟩
def undoE (g : Grid) (e : GEd) : GEd := backE (rawGr (rawGr g e) (undoA e)) g (undoX e.rows) (undoX e.cols)
/-- Data that fits, and that Raw can take. -/
structure AppIn (g : Grid) (e : GEd) : Prop where
  hg : gridE g = 0
  he : EdOk e
  hf : FitOk g e
  raw : RawIn g e
  l5 : e.split.length ≤ 10000000000
structure UndIn (g : Grid) (e : GEd) : Prop where
  app : AppIn g e
  raw : RawIn (rawGr g e) (undoA e)
  l1 : (rawGr (rawGr g e) (undoA e)).cells.length ≤ 100000000000
  l2 : (rawGr (rawGr g e) (undoA e)).merges.length ≤ 100000000000
  c1 : checkX (undoX e.rows) = 0
  c2 : checkX (undoX e.cols) = 0
/-! ### The search in a sorted list -/
def SortC (l : List Cell) : Prop := ∀ p q, p < q → q < l.length → ordC (l.getD p default) (l.getD q default) < 0
def lobC (l : List Cell) (t : Cell) : Nat := (l.takeWhile (fun c => decide (ordC c t < 0))).length
theorem lobC_all : ∀ (l : List Cell) (t : Cell), lobC l t ≤ l.length ∧ (∀ k, k < lobC l t → ordC (l.getD k default) t < 0) ∧ (lobC l t < l.length → ¬ ordC (l.getD (lobC l t) default) t < 0)
  | [], t => ⟨Nat.le_refl _, fun k h => absurd h (Nat.not_lt_zero _), fun h => absurd h (Nat.lt_irrefl _)⟩
  | c :: l, t => by
    obtain ⟨h1, h2, h3⟩ := lobC_all l t
    by_cases hc : ordC c t < 0
    · have e : lobC (c :: l) t = lobC l t + 1 := by unfold lobC; rw [List.takeWhile_cons, if_pos (decide_eq_true hc)]; rfl
      rw [e]
      refine ⟨by simp only [List.length_cons]; omega, fun k hk => ?_, fun hk => ?_⟩
      · cases k with
        | zero => exact hc
        | succ k => exact h2 k (by omega)
      · exact h3 (by simp only [List.length_cons] at hk; omega)
    · have e : lobC (c :: l) t = 0 := by unfold lobC; rw [List.takeWhile_cons, if_neg (by simpa using hc)]; rfl
      rw [e]
      exact ⟨Nat.zero_le _, fun k h => absurd h (Nat.not_lt_zero _), fun _ => hc⟩
theorem lobC_lt {l : List Cell} {t : Cell} {m : Nat} (hs : SortC l) (hm : m < l.length) (h : ordC (l.getD m default) t < 0) : m < lobC l t := by
  obtain ⟨h1, h2, h3⟩ := lobC_all l t
  refine Classical.byContradiction fun hn => ?_
  have h4 := h3 (by omega)
  by_cases e : lobC l t = m
  · rw [e] at h4; exact h4 h
  · have h5 := hs (lobC l t) m (by omega) hm
    rw [ordC_lt] at h h5 h4
    omega
theorem lobC_ge {l : List Cell} {t : Cell} {m : Nat} (h : ¬ ordC (l.getD m default) t < 0) : lobC l t ≤ m := by
  obtain ⟨h1, h2, h3⟩ := lobC_all l t
  exact Classical.byContradiction fun hn => h (h2 m (by omega))
def hasC (l : List Cell) (t : Cell) : Bool := decide ((lobC l t : Int) < (l.length : Int)) && ((ordC (l.getD (lobC l t) default) t) == 0)
end Go.Ch
end
section
set_option linter.unusedVariables false
set_option linter.unusedSimpArgs false
set_option maxRecDepth 100000
set_option maxHeartbeats 4000000
open Go Go.Proofs Go.Ab
namespace Go.Ch
theorem fc_graw (x : Grid) (e : GEd) (hi : RawIn x e) : FC Tryd.prog 25 [.t (gridT x), .t (gedT e)] (app emp []) (.t (gridT (rawGr x e))) (app emp []) := by
 refine .go Tryd.f25 ?_
 obtain ⟨vr, vk, l1, l2, l3, l4, a1, a2, p1, p2, hq, hm⟩ := hi
 have hml := movL_len x.cells e.rows e.cols
 refine .loop (α := Nat × (List Rect)) [.r [], .r [(4, X (Xc0 (fc_axsize x.rows e.rows (by assumption)) X0))], .r [(4, X (Xc0 (fc_axsize x.cols e.cols (by assumption)) X0))], .r [(8, X (Xc1 248 (fc_moved x.cells e.rows e.cols (by omega) (by assumption) (by assumption) (by assumption)) X0)), (11, X (Xc1 272 (fc_gput (movL x.cells e.rows e.cols) e.cells (by omega) (by omega) (by assumption)) X0))], .le (.nB 288 3 4), .r [(2, X (Xl rectT x.merges))]] 337 (fun (i, om) => ([(3, .ptr 8 0), (4, .ptr 16 0), (9, .ptr 288 0), (46, VL 4 rectT x.merges), (47, VI (x.merges.length : Int)), (48, VI (i : Int))], [(8, .box [VL 2 stepT e.rows, VL 2 stepT e.cols, VL 5 cellT e.cells, VL 4 rectT e.split, VL 4 rectT e.merge]), (16, .box [VI 0, VI 0, VN, VN]), (288, .box [VI (if 0 < (e.rows).length then newI e.rows else x.rows), VI (if 0 < (e.cols).length then newI e.cols else x.cols), VL 5 cellT (putL e.cells (movL x.cells e.rows e.cols)), .row 304 om.length]), (304, OR 4 rectT om)])) (fun (i, om) => i ≤ x.merges.length ∧ om = (keepQ (x.merges.take i) e.rows e.cols e.split)) (fun (i, om) => x.merges.length - i) (0, []) ?_ ?_
 ·
  exact ⟨by omega, rfl⟩
 rintro ⟨i, om⟩ I5 ih5
 try dsimp only at I5
 have ol : om.length ≤ i := by (rw [I5.2]; have := keepQ_len (x.merges.take i) e.rows e.cols e.split; simp at this; omega)
 refine .br [.r []] (decide ((i : Int) < (x.merges.length : Int))) (fun h5 => ?_) (fun h5 => ?_)
 ·
  (try simp only [decide_eq_true_eq, decide_eq_false_iff_not, Int.not_lt, Int.not_le] at h5)
  obtain ⟨g1, g2, g3⟩ := hq _ (getDX_mem (l := x.merges) (i := i) (by omega))
  refine .br [.r [(0, X (Xi rectT x.merges (i : Int)))], .r [(5, X (Xc0 (fc_through ((x.merges.getD i default)) e.rows e.cols (by assumption) (by assumption) (by assumption)) X0))], .r [(3, Xv 1 (thrB (thrR ((x.merges.getD i default)) e.rows e.cols)) X0), (5, Xv 2 (thrB (thrR ((x.merges.getD i default)) e.rows e.cols)) (Xc0 (fc_hasQ e.split ((thrR ((x.merges.getD i default)) e.rows e.cols))) X0)), (6, Xv 1 (thrB (thrR ((x.merges.getD i default)) e.rows e.cols)) X0), (7, X (Xk (thrB (thrR ((x.merges.getD i default)) e.rows e.cols))))]] ((thrB (thrR ((x.merges.getD i default)) e.rows e.cols)) && !(hasQ e.split ((thrR ((x.merges.getD i default)) e.rows e.cols)))) (fun h8 => ?_) (fun h8 => ?_)
  ·
   (try simp only [Bool.not_eq_true', Bool.not_eq_false', Bool.and_eq_true, Bool.and_eq_false_iff] at h8)
   refine .back [.r [(4, X (rowC rectT [((thrR ((x.merges.getD i default)) e.rows e.cols))] (Xap 4 rectT 304 om [((thrR ((x.merges.getD i default)) e.rows e.cols))])))], .r [(0, X (Xn ((i : Int) + 1)))]] [(8, 8), (16, 16), (288, 288), (304, 304)] (ih5 ((i + 1), (om ++ [((thrR ((x.merges.getD i default)) e.rows e.cols))])) ?_ ?_)
   ·
    refine ⟨by omega, ?_⟩
    rw [I5.2, keepQ_succ (by omega), if_pos h8]
   ·
    ((try dsimp only); omega)
  ·
   (try simp only [Bool.not_eq_true', Bool.not_eq_false', Bool.and_eq_true, Bool.and_eq_false_iff] at h8)
   refine .back [.r [(0, X (Xn ((i : Int) + 1)))]] [(8, 8), (16, 16), (288, 288), (304, 304)] (ih5 ((i + 1), om) ?_ ?_)
   ·
    refine ⟨by omega, ?_⟩
    rw [I5.2, keepQ_succ (by omega), if_neg (fun q => by rcases h8 with h | h; (rw [q.1] at h; cases h); (rw [q.2] at h; cases h)), List.append_nil]
   ·
    ((try dsimp only); omega)
 ·
  (try simp only [decide_eq_true_eq, decide_eq_false_iff_not, Int.not_lt, Int.not_le] at h5)
  refine .loop (α := Nat × (List Rect)) [.r [(2, X (Xl rectT e.merge))]] 377 (fun (j, on) => ([(4, .ptr 16 0), (9, .ptr 288 0), (77, VL 4 rectT e.merge), (78, VI (e.merge.length : Int)), (79, VI (j : Int))], [(16, .box [VI 0, VI 0, VN, VN]), (288, .box [VI (if 0 < (e.rows).length then newI e.rows else x.rows), VI (if 0 < (e.cols).length then newI e.cols else x.cols), VL 5 cellT (putL e.cells (movL x.cells e.rows e.cols)), .row 304 on.length]), (304, OR 4 rectT on)])) (fun (j, on) => j ≤ e.merge.length ∧ on = (e.merge.take j).foldl addQ (keepQ x.merges e.rows e.cols e.split) ∧ on.length ≤ x.merges.length + j ∧ AllRB on) (fun (j, on) => e.merge.length - j) (0, om) ?_ ?_
  ·
   exact ⟨by omega, by (rw [I5.2, List.take_of_length_le (by omega)]; rfl), by omega, by (rw [I5.2]; exact keepQ_RB (fun r hr => hq r (List.mem_of_mem_take hr)))⟩
  rintro ⟨j, on⟩ I12 ih12
  try dsimp only at I12
  have onl := I12.2.2.1
  have onb := I12.2.2.2
  refine .br [.r []] (decide ((j : Int) < (e.merge.length : Int))) (fun h12 => ?_) (fun h12 => ?_)
  ·
   (try simp only [decide_eq_true_eq, decide_eq_false_iff_not, Int.not_lt, Int.not_le] at h12)
   have hm1 : RB (e.merge.getD j default) := hm _ (getDX_mem (by omega))
   have hd : (delL (fun q => meetB q ⟨(e.merge.getD j default).row, (e.merge.getD j default).col, (e.merge.getD j default).h, (e.merge.getD j default).w⟩) on).length ≤ on.length := delL_len _ on
   have hd2 := addQ_len on (e.merge.getD j default)
   refine .back [.r [(0, X (Xi rectT e.merge (j : Int)))], .r [(3, X (Xc3 441 [(0, 304), (1, 401)] (fc_delQ on (((e.merge.getD j default)).row) (((e.merge.getD j default)).col) (((e.merge.getD j default)).h) (((e.merge.getD j default)).w) (by omega) (by assumption) (by assumption)) X0))], .r [(4, X (rowC rectT [({ row := (((e.merge.getD j default)).row), col := (((e.merge.getD j default)).col), h := (((e.merge.getD j default)).h), w := (((e.merge.getD j default)).w) } : Rect)] (Xap 4 rectT 441 (delL (fun q => meetB q ⟨(((e.merge.getD j default)).row), (((e.merge.getD j default)).col), (((e.merge.getD j default)).h), (((e.merge.getD j default)).w)⟩) on) [({ row := (((e.merge.getD j default)).row), col := (((e.merge.getD j default)).col), h := (((e.merge.getD j default)).h), w := (((e.merge.getD j default)).w) } : Rect)])) (by simp only [List.length_cons, List.length_nil]; omega))], .r [(0, X (Xn ((j : Int) + 1)))]] [(16, 16), (288, 288), (441, 304)] (ih12 ((j + 1), ((delL (fun q => meetB q ⟨(((e.merge.getD j default)).row), (((e.merge.getD j default)).col), (((e.merge.getD j default)).h), (((e.merge.getD j default)).w)⟩) on) ++ [({ row := (((e.merge.getD j default)).row), col := (((e.merge.getD j default)).col), h := (((e.merge.getD j default)).h), w := (((e.merge.getD j default)).w) } : Rect)])) ?_ ?_)
   ·
    exact ⟨by omega, by (rw [foldl_succ _ _ (by omega), ← I12.2.1]; rfl), Nat.le_trans hd2 (by omega), addQ_RB onb hm1⟩
   ·
    ((try dsimp only); omega)
  ·
   (try simp only [decide_eq_true_eq, decide_eq_false_iff_not, Int.not_lt, Int.not_le] at h12)
   have hsl : on.length = (sortQ on).length := (sortQ_len on).symm
   have q1 : on = e.merge.foldl addQ (keepQ x.merges e.rows e.cols e.split) := by rw [I12.2.1, List.take_of_length_le (by omega)]
   have e1 : ((rawGr x e) : Grid) = ({ rows := (if 0 < (e.rows).length then newI e.rows else x.rows), cols := (if 0 < (e.cols).length then newI e.cols else x.cols), cells := (putL e.cells (movL x.cells e.rows e.cols)), merges := (sortQ on) } : Grid) := by
    unfold rawGr; rw [q1]; rfl
   exact .finVE [.r [(2, X (Xc3 401 [(0, 304)] (fc_sortQ on (by omega)) X0))], .r []] [.fR 0 [(on.length : Nat) = (List.map rectT (sortQ on)).length] ⟨lm, trivial⟩] [] (fun z0 => (.t (gridT z0), [])) (({ rows := (if 0 < (e.rows).length then newI e.rows else x.rows), cols := (if 0 < (e.cols).length then newI e.cols else x.cols), cells := (putL e.cells (movL x.cells e.rows e.cols)), merges := (sortQ on) } : Grid) : Grid) ((rawGr x e) : Grid) e1
end Go.Ch
end
section
set_option linter.unusedVariables false
set_option linter.unusedSimpArgs false
set_option maxRecDepth 100000
set_option maxHeartbeats 4000000
open Go Go.Proofs Go.Ab
namespace Go.Ch
theorem fc_gapply (x : Grid) (e : GEd) (hi : AppIn x e) : FC Tryd.prog 9 [.t (gridT x), .t (gedT e)] (app emp []) (.tup [.t (gridT (rawGr x e)), VI 0]) (app emp []) := by
 refine .go Tryd.f9 ?_
 obtain ⟨hg, he, hf, hr, l5⟩ := hi
 have le : e.cells.length ≤ 100000000000 ∧ e.split.length ≤ 100000000000 ∧ e.merge.length ≤ 100000000000 := ⟨by have := hr.l2; omega, by omega, by have := hr.l4; omega⟩
 have lm := hr.l3
 have e1 : ((rawGr x e) : Grid) = ((rawGr x e)) := by
  (first | omega | with_reducible exact fun h => h | (intro hq; rw [hq]; done) | (intro hq; rw [hq]; rfl) | (simp only [List.length_map]; done) | (simp only [List.length_map]; omega) | (simp; omega) | (simp; done))
 exact .finVE [.r [], .r [(2, X (Xc0 (fc_fits x e (by assumption) (by omega) (by assumption) (by assumption) (by assumption)) X0))], .r [], .f, .r [(2, X (Xc1 144 (fc_graw x e (by assumption)) X0))]] [] [] (fun z0 => (.tup [.t (gridT z0), VI 0], [])) (((rawGr x e)) : Grid) ((rawGr x e) : Grid) e1

theorem fc_bsf (l : List Cell) (t : Cell) (hn : l.length ≤ 100000000000) (hs : SortC l) : FC Tryd.prog 63 [VL 5 cellT l, .t (cellT t), .fn 64 []] (app emp []) (.tup [VI (lobC l t : Int), VB (hasC l t)]) (app emp []) := by
 refine .go Tryd.f63 ?_
 refine .len 0 (fun hl0 => ?_)
 obtain ⟨s1, s2, s3⟩ := lobC_all l t
 refine .loop (α := Nat × Nat) [.r [], .r [(1, X (Xl cellT l))], .r []] 72 (fun (i, j) => ([(0, VL 5 cellT l), (2, .fn 64 []), (4, .ptr 0 0), (8, VI (l.length : Int)), (9, VI (i : Int)), (10, VI (j : Int))], [(0, .box [VI t.row, VI t.col, VS t.text, VI t.ref, VL 2 attrT t.attrs])])) (fun (i, j) => i ≤ lobC l t ∧ lobC l t ≤ j ∧ j ≤ l.length) (fun (i, j) => j - i) (0, l.length) ?_ ?_
 ·
  exact ⟨by omega, by omega, by omega⟩
 rintro ⟨i, j⟩ I3 ih3
 try dsimp only at I3
 refine .br [.r []] (decide ((i : Int) < (j : Int))) (fun h3 => ?_) (fun h3 => ?_)
 ·
  (try simp only [decide_eq_true_eq, decide_eq_false_iff_not, Int.not_lt, Int.not_le] at h3)
  obtain ⟨m, hm⟩ : ∃ m : Nat, ((i : Int) + (j : Int)) / 2 = (m : Int) := ⟨(i + j) / 2, by omega⟩
  refine .br [.r [(2, X (Xn ((i : Int) + (j : Int)))), (3, X (Xcv IntKind.u64 ((i : Int) + (j : Int))) (by simp [IntKind.wrap, IntKind.bits, IntKind.signed]; omega)), (4, X (Xsh IntKind.u64 1 (((i : Int) + (j : Int)).fdiv (2 ^ (min (1 : Int).toNat IntKind.u64.bits))) (((i : Int) + (j : Int)) / 2)) ⟨by decide, (by rw [Int.fdiv_eq_ediv_of_nonneg _ (by decide)]; rfl)⟩), (5, X (Xn (((i : Int) + (j : Int)) / 2)))], .le (.eq 11 (VI (((i : Int) + (j : Int)) / 2)) (VI (m : Int)) (.of_eq (by rw [← hm]))), .r [(3, X (Xi cellT l (m : Int))), (6, X (Xc0 (fc_order ((l.getD m default)) t) X0))]] (decide ((ordC ((l.getD m default)) t) < 0)) (fun h5 => ?_) (fun h5 => ?_)
  ·
   (try simp only [decide_eq_true_eq, decide_eq_false_iff_not, Int.not_lt, Int.not_le] at h5)
   refine .back [.r [(1, X (Xn ((m : Int) + 1)))]] [(0, 0)] (ih3 ((m + 1), j) ?_ ?_)
   ·
    have := lobC_lt hs (m := m) (by omega) h5
    exact ⟨by omega, by omega, by omega⟩
   ·
    ((try dsimp only); omega)
  ·
   (try simp only [decide_eq_true_eq, decide_eq_false_iff_not, Int.not_lt, Int.not_le] at h5)
   refine .back [.r []] [(0, 0)] (ih3 (i, m) ?_ ?_)
   ·
    have := lobC_ge (l := l) (t := t) (m := m) (by omega)
    exact ⟨by omega, by omega, by omega⟩
   ·
    ((try dsimp only); omega)
 ·
  (try simp only [decide_eq_true_eq, decide_eq_false_iff_not, Int.not_lt, Int.not_le] at h3)
  have hi : i = lobC l t := by omega
  have e1 : ((lobC l t : Int) : Int) = (i : Int) := by
   first | omega | (unfold hasC; rw [← hi])
  have e2 : ((hasC l t) : Bool) = (decide ((i : Int) < (l.length : Int)) && ((ordC ((l.getD i default)) t) == 0)) := by
   first | omega | (unfold hasC; rw [← hi])
  exact .finE [.r [(8, Xv 2 (decide ((i : Int) < (l.length : Int))) (Xi cellT l (i : Int))), (9, Xv 1 (decide ((i : Int) < (l.length : Int))) X0), (11, Xv 3 (decide ((i : Int) < (l.length : Int))) (Xc0 (fc_order ((l.getD i default)) t) X0)), (12, Xv 1 (decide ((i : Int) < (l.length : Int))) X0), (13, X (Xk (decide ((i : Int) < (l.length : Int)))))]] [] (fun (z0, z1) => (.tup [VI z0, VB z1], [])) (((i : Int) : Int), ((decide ((i : Int) < (l.length : Int)) && ((ordC ((l.getD i default)) t) == 0)) : Bool)) (((lobC l t : Int) : Int), ((hasC l t) : Bool)) (pr e1 e2)

theorem fc_find (l : List Cell) (m n : Int) (hn : l.length ≤ 100000000000) (hs : SortC l) : FC Tryd.prog 34 [VL 5 cellT l, VI m, VI n] (app emp []) (.tup [VI (lobC l (⟨m, n, { data := #[] }, 0, []⟩ : Cell) : Int), VB (hasC l (⟨m, n, { data := #[] }, 0, []⟩ : Cell))]) (app emp []) := by
 refine .go Tryd.f34 ?_
 refine .len 0 (fun hl0 => ?_)
 have e1 : ((lobC l (⟨m, n, { data := #[] }, 0, []⟩ : Cell) : Int) : Int) = (lobC l ({ row := m, col := n, text := { data := #[] }, ref := 0, attrs := [] } : Cell) : Int) := by
  (first | omega | with_reducible exact fun h => h | (intro hq; rw [hq]; done) | (intro hq; rw [hq]; rfl) | (simp only [List.length_map]; done) | (simp only [List.length_map]; omega) | (simp; omega) | (simp; done))
 have e2 : ((hasC l (⟨m, n, { data := #[] }, 0, []⟩ : Cell)) : Bool) = (hasC l ({ row := m, col := n, text := { data := #[] }, ref := 0, attrs := [] } : Cell)) := by
  (first | omega | with_reducible exact fun h => h | (intro hq; rw [hq]; done) | (intro hq; rw [hq]; rfl) | (simp only [List.length_map]; done) | (simp only [List.length_map]; omega) | (simp; omega) | (simp; done))
 exact .finE [.r [], .r [(3, X (Xf [(4, 2)])), (4, X (Xc0 (fc_bsf l ({ row := m, col := n, text := { data := #[] }, ref := 0, attrs := [] } : Cell) (by omega) (by assumption)) X0))]] [] (fun (z0, z1) => (.tup [VI z0, VB z1], [])) (((lobC l ({ row := m, col := n, text := { data := #[] }, ref := 0, attrs := [] } : Cell) : Int) : Int), ((hasC l ({ row := m, col := n, text := { data := #[] }, ref := 0, attrs := [] } : Cell)) : Bool)) (((lobC l (⟨m, n, { data := #[] }, 0, []⟩ : Cell) : Int) : Int), ((hasC l (⟨m, n, { data := #[] }, 0, []⟩ : Cell)) : Bool)) (pr e1 e2)

theorem fc_at (x : Grid) (m n : Int) (hn : x.cells.length ≤ 100000000000) (hs : SortC x.cells) (ha : CAN 1000000000000 x.cells) : FC Tryd.prog 16 [.t (gridT x), VI m, VI n] (app emp []) (.t (cellT (if hasC x.cells (⟨m, n, { data := #[] }, 0, []⟩ : Cell) = true then x.cells.getD (lobC x.cells (⟨m, n, { data := #[] }, 0, []⟩ : Cell)) default else (⟨m, n, { data := #[] }, 0, []⟩ : Cell)))) (app emp []) := by
 refine .go Tryd.f16 ?_
 refine .br [.r [], .r [(4, X (Xc0 (fc_find x.cells m n (by omega) (by assumption)) X0))], .r []] (!(hasC x.cells (⟨m, n, { data := #[] }, 0, []⟩ : Cell))) (fun h2 => ?_) (fun h2 => ?_)
 ·
  (try simp only [Bool.not_eq_true', Bool.not_eq_false'] at h2)
  have e1 : ((if hasC x.cells (⟨m, n, { data := #[] }, 0, []⟩ : Cell) = true then x.cells.getD (lobC x.cells (⟨m, n, { data := #[] }, 0, []⟩ : Cell)) default else (⟨m, n, { data := #[] }, 0, []⟩ : Cell)) : Cell) = ({ row := m, col := n, text := { data := #[] }, ref := 0, attrs := [] } : Cell) := by
   first | rw [if_pos (by assumption)] | rw [if_neg (by rw [h2]; decide)]
  exact .finVE [.r [], .le (.nB 8 4 2)] [.fR 0 [(0 : Nat) = (List.map attrT []).length] ⟨lm, trivial⟩] [] (fun z0 => (.t (cellT z0), [])) (({ row := m, col := n, text := { data := #[] }, ref := 0, attrs := [] } : Cell) : Cell) ((if hasC x.cells (⟨m, n, { data := #[] }, 0, []⟩ : Cell) = true then x.cells.getD (lobC x.cells (⟨m, n, { data := #[] }, 0, []⟩ : Cell)) default else (⟨m, n, { data := #[] }, 0, []⟩ : Cell)) : Cell) e1
 ·
  (try simp only [Bool.not_eq_true', Bool.not_eq_false'] at h2)
  have hh : lobC x.cells (⟨m, n, { data := #[] }, 0, []⟩ : Cell) < x.cells.length := by (unfold hasC at h2; simp only [Bool.and_eq_true, decide_eq_true_eq] at h2; omega)
  have hm := ha _ (getDX_mem hh)
  have e2 : ((if hasC x.cells (⟨m, n, { data := #[] }, 0, []⟩ : Cell) = true then x.cells.getD (lobC x.cells (⟨m, n, { data := #[] }, 0, []⟩ : Cell)) default else (⟨m, n, { data := #[] }, 0, []⟩ : Cell)) : Cell) = (((x.cells.getD (lobC x.cells (⟨m, n, { data := #[] }, 0, []⟩ : Cell)) default))) := by
   first | rw [if_pos (by assumption)] | rw [if_neg (by rw [h2]; decide)]
  exact .finVE [.r [(3, X (Xi cellT x.cells (lobC x.cells (⟨m, n, { data := #[] }, 0, []⟩ : Cell) : Int))), (5, X (Xc1 152 (fc_clone ((x.cells.getD (lobC x.cells (⟨m, n, { data := #[] }, 0, []⟩ : Cell)) default)) (by omega)) X0))]] [] [] (fun z0 => (.t (cellT z0), [])) ((((x.cells.getD (lobC x.cells (⟨m, n, { data := #[] }, 0, []⟩ : Cell)) default))) : Cell) ((if hasC x.cells (⟨m, n, { data := #[] }, 0, []⟩ : Cell) = true then x.cells.getD (lobC x.cells (⟨m, n, { data := #[] }, 0, []⟩ : Cell)) default else (⟨m, n, { data := #[] }, 0, []⟩ : Cell)) : Cell) e2
end Go.Ch
end
section
set_option linter.unusedVariables false
set_option linter.unusedSimpArgs false
set_option maxRecDepth 100000
set_option maxHeartbeats 4000000
open Go Go.Proofs Go.Ab
namespace Go.Ch
theorem fc_pair1 (c : Cell) (yr yc : List AxStep) (y : List Cell) (ys ym : List Rect) (hyn : y.length ≤ 100000000000) (hys : SortC y) : FC Tryd.prog 33 [.t (cellT c), .ptr 0 0] (app emp [(0, .box [VL 2 stepT yr, VL 2 stepT yc, VL 5 cellT y, VL 4 rectT ys, VL 4 rectT ym])]) (VB (hasC y (⟨c.row, c.col, { data := #[] }, 0, []⟩ : Cell))) (app emp [(0, .box [VL 2 stepT yr, VL 2 stepT yc, VL 5 cellT y, VL 4 rectT ys, VL 4 rectT ym])]) := by
 refine .go Tryd.f33 ?_
 exact .fin [.r [], .r [(6, X (Xc0 (fc_find y c.row c.col (by omega) (by assumption)) X0))], .r []] [(0, 0)]

theorem fc_idxC (l : List Cell) (yr yc : List AxStep) (y : List Cell) (ys ym : List Rect) (hyn : y.length ≤ 100000000000) (hys : SortC y) (hn : l.length ≤ 100000000000) : FC Tryd.prog 62 [.row 0 l.length, .fn 33 [.ptr 1 0]] (app emp [(0, OR 5 cellT l), (1, .box [VL 2 stepT yr, VL 2 stepT yc, VL 5 cellT y, VL 4 rectT ys, VL 4 rectT ym])]) (VI (idxF (fun c : Cell => hasC y (⟨c.row, c.col, { data := #[] }, 0, []⟩ : Cell)) l 0)) (app emp [(0, OR 5 cellT l), (1, .box [VL 2 stepT yr, VL 2 stepT yc, VL 5 cellT y, VL 4 rectT ys, VL 4 rectT ym])]) := by
 refine .go Tryd.f62 ?_
 refine .loop (α := Nat) [.r [], .r []] 34 (fun i => ([(0, .row 0 l.length), (1, .fn 33 [.ptr 1 0]), (7, VI (l.length : Int)), (8, VI (i : Int))], [(0, OR 5 cellT l), (1, .box [VL 2 stepT yr, VL 2 stepT yc, VL 5 cellT y, VL 4 rectT ys, VL 4 rectT ym])])) (fun i => i ≤ l.length ∧ idxF (fun c : Cell => hasC y (⟨c.row, c.col, { data := #[] }, 0, []⟩ : Cell)) l 0 = idxF (fun c : Cell => hasC y (⟨c.row, c.col, { data := #[] }, 0, []⟩ : Cell)) l i) (fun i => l.length - i) (0 : Nat) ?_ ?_
 ·
  exact ⟨by omega, rfl⟩
 rintro i I2 ih2
 try dsimp only at I2
 refine .br [.r []] (decide ((i : Int) < (l.length : Int))) (fun h2 => ?_) (fun h2 => ?_)
 ·
  (try simp only [decide_eq_true_eq, decide_eq_false_iff_not, Int.not_lt, Int.not_le] at h2)
  refine .br [.r [], .r [(3, X (Xp cellT l (i : Int))), (4, X (Xe cellT l i)), (5, X (Xc3 98 [(0, 1)] (fc_pair1 ((l.getD i default)) yr yc y ys ym (by assumption) (by assumption)) X0))]] (hasC y (⟨(((l.getD i default))).row, (((l.getD i default))).col, { data := #[] }, 0, []⟩ : Cell)) (fun h4 => ?_) (fun h4 => ?_)
  ·
   have e1 : ((idxF (fun c : Cell => hasC y (⟨c.row, c.col, { data := #[] }, 0, []⟩ : Cell)) l 0) : Int) = (i : Int) := by
    rw [I2.2, idxF, if_pos (by omega), if_pos h4]
   exact .finE [.r []] [(0, 0), (1, 1)] (fun z0 => (VI z0, [(0, OR 5 cellT l), (1, .box [VL 2 stepT yr, VL 2 stepT yc, VL 5 cellT y, VL 4 rectT ys, VL 4 rectT ym])])) ((i : Int) : Int) ((idxF (fun c : Cell => hasC y (⟨c.row, c.col, { data := #[] }, 0, []⟩ : Cell)) l 0) : Int) e1
  ·
   refine .back [.r [(0, X (Xn ((i : Int) + 1)))]] [(0, 0), (1, 1)] (ih2 ((i + 1) : Nat) ?_ ?_)
   ·
    refine ⟨by omega, ?_⟩
    rw [I2.2, idxF, if_pos (by omega), if_neg (by rw [h4]; decide)]
   ·
    ((try dsimp only); omega)
 ·
  (try simp only [decide_eq_true_eq, decide_eq_false_iff_not, Int.not_lt, Int.not_le] at h2)
  have e2 : ((idxF (fun c : Cell => hasC y (⟨c.row, c.col, { data := #[] }, 0, []⟩ : Cell)) l 0) : Int) = -1 := by
   rw [I2.2, idxF, if_neg (by omega)]
  exact .finE [.r []] [(0, 0), (1, 1)] (fun z0 => (VI z0, [(0, OR 5 cellT l), (1, .box [VL 2 stepT yr, VL 2 stepT yc, VL 5 cellT y, VL 4 rectT ys, VL 4 rectT ym])])) (-1 : Int) ((idxF (fun c : Cell => hasC y (⟨c.row, c.col, { data := #[] }, 0, []⟩ : Cell)) l 0) : Int) e2

theorem fc_delC (l : List Cell) (yr yc : List AxStep) (y : List Cell) (ys ym : List Rect) (hyn : y.length ≤ 100000000000) (hys : SortC y) (hn : l.length ≤ 100000000000) : FC Tryd.prog 32 [.row 0 l.length, .fn 33 [.ptr 1 0]] (app emp [(0, OR 5 cellT l), (1, .box [VL 2 stepT yr, VL 2 stepT yc, VL 5 cellT y, VL 4 rectT ys, VL 4 rectT ym])]) (.row 2 ((delL (fun c : Cell => hasC y (⟨c.row, c.col, { data := #[] }, 0, []⟩ : Cell)) l).length)) (app emp [(0, .gone), (1, .box [VL 2 stepT yr, VL 2 stepT yc, VL 5 cellT y, VL 4 rectT ys, VL 4 rectT ym]), (2, OR 5 cellT (delL (fun c : Cell => hasC y (⟨c.row, c.col, { data := #[] }, 0, []⟩ : Cell)) l))]) := by
 refine .go Tryd.f32 ?_
 have sp := idxF_spec (fun c : Cell => hasC y (⟨c.row, c.col, { data := #[] }, 0, []⟩ : Cell)) (l := l) _ 0 rfl
 refine .mid [.r []] ?_
 by_cases hd : 0 ≤ idxF (fun c : Cell => hasC y (⟨c.row, c.col, { data := #[] }, 0, []⟩ : Cell)) l 0
 ·
  obtain ⟨k, hk, k1, k2, k3, k4⟩ := sp.resolve_left (fun q => by omega)
  refine .br [.r [(2, X (Xc4 [(0, 0), (1, 1)] (fc_idxC l yr yc y ys ym (by assumption) (by assumption) (by omega)) X0))], .le (.eq 5 (VI (idxF (fun c : Cell => hasC y (⟨c.row, c.col, { data := #[] }, 0, []⟩ : Cell)) l 0)) (VI (k : Int)) (.of_eq (by rw [hk]))), .r []] ((k : Int) == (-1)) (fun h2 => ?_) (fun h2 => ?_)
  ·
   (try simp only [beq_iff_eq, beq_eq_false_iff_ne, ne_eq] at h2)
   exfalso
   omega
  ·
   (try simp only [beq_iff_eq, beq_eq_false_iff_ne, ne_eq] at h2)
   refine .loop (α := Nat × Nat × (List Cell)) [.r [(1, X (Xn ((k : Int) + 1)))]] 82 (fun (i, j, o) => ([(0, .row 0 o.length), (1, .fn 33 [.ptr 1 0]), (5, VI (i : Int)), (6, VI (j : Int))], [(0, OR 5 cellT o), (1, .box [VL 2 stepT yr, VL 2 stepT yc, VL 5 cellT y, VL 4 rectT ys, VL 4 rectT ym])])) (fun (i, j, o) => DelI (fun c : Cell => hasC y (⟨c.row, c.col, { data := #[] }, 0, []⟩ : Cell)) l o i j) (fun (i, j, o) => l.length - j) (k, (k + 1), l) ?_ ?_
   ·
    exact DelI.start k2 k3 k4
   rintro ⟨i, j, o⟩ I5 ih5
   replace I5 : DelI (fun c : Cell => hasC y (⟨c.row, c.col, { data := #[] }, 0, []⟩ : Cell)) l o i j := I5
   have il := I5.len
   have ilt := I5.lt
   have ile := I5.le
   refine .br [.r []] (decide ((j : Int) < (o.length : Int))) (fun h5 => ?_) (fun h5 => ?_)
   ·
    (try simp only [decide_eq_true_eq, decide_eq_false_iff_not, Int.not_lt, Int.not_le] at h5)
    refine .br [.r [(2, X (Xp cellT o (j : Int))), (3, X (Xe cellT o j))], .r [(2, X (Xc3 178 [(0, 1)] (fc_pair1 ((o.getD j default)) yr yc y ys ym (by assumption) (by assumption)) X0))]] (!(hasC y (⟨(((o.getD j default))).row, (((o.getD j default))).col, { data := #[] }, 0, []⟩ : Cell))) (fun h8 => ?_) (fun h8 => ?_)
    ·
     (try simp only [Bool.not_eq_true', Bool.not_eq_false'] at h8)
     refine .back [.r [(3, X (Xp cellT o (i : Int))), (4, X (Xs 5 cellT 0 o i ((o.getD j default))))], .r [(1, X (Xn ((i : Int) + 1)))], .r [(1, X (Xn ((j : Int) + 1)))], .le (.eq 0 (.row 0 o.length) (.row 0 ((o.set i ((o.getD j default))).length)) (.of_eq (by simp only [List.length_set])))] [(0, 0), (1, 1)] (ih5 ((i + 1), (j + 1), (o.set i ((o.getD j default)))) ?_ ?_)
     ·
      exact I5.keep (by omega) h8
     ·
      ((try dsimp only); omega)
    ·
     (try simp only [Bool.not_eq_true', Bool.not_eq_false'] at h8)
     refine .back [.r [(1, X (Xn ((j : Int) + 1)))]] [(0, 0), (1, 1)] (ih5 (i, (j + 1), o) ?_ ?_)
     ·
      exact I5.skip (by omega) h8
     ·
      ((try dsimp only); omega)
   ·
    (try simp only [decide_eq_true_eq, decide_eq_false_iff_not, Int.not_lt, Int.not_le] at h5)
    have hdn := I5.done (by omega)
    have e1 : ((delL (fun c : Cell => hasC y (⟨c.row, c.col, { data := #[] }, 0, []⟩ : Cell)) l) : List Cell) = (o.take i) := by
     first | exact hdn.symm | rw [hdn]
    have e2 : ((delL (fun c : Cell => hasC y (⟨c.row, c.col, { data := #[] }, 0, []⟩ : Cell)) l).length : Nat) = (o.take i).length := by
     first | exact hdn.symm | rw [hdn]
    exact .finE [.r [(2, X (Xtl cellT o.length o (i : Int))), (3, X (Xclr cellT o.length i o))], .r [(2, X (Xcut' cellT 5 0 162 o.length i o (.agg [TI 0, TI 0, TS ({ data := #[] }), TI 0, TN]) (i : Int)))]] [(0, 0), (1, 1), (162, 2)] (fun (z0, z1) => (.row 2 z1, [(0, .gone), (1, .box [VL 2 stepT yr, VL 2 stepT yc, VL 5 cellT y, VL 4 rectT ys, VL 4 rectT ym]), (2, OR 5 cellT z0)])) (((o.take i) : List Cell), ((o.take i).length : Nat)) (((delL (fun c : Cell => hasC y (⟨c.row, c.col, { data := #[] }, 0, []⟩ : Cell)) l) : List Cell), ((delL (fun c : Cell => hasC y (⟨c.row, c.col, { data := #[] }, 0, []⟩ : Cell)) l).length : Nat)) (pr e1 e2)
 ·
  obtain ⟨hk, hall⟩ := sp.resolve_right (fun ⟨k, hk, q⟩ => by omega)
  have e3 : ((delL (fun c : Cell => hasC y (⟨c.row, c.col, { data := #[] }, 0, []⟩ : Cell)) l) : List Cell) = l := by
   first | exact filt_all hall | rw [filt_all hall]
  have e4 : ((delL (fun c : Cell => hasC y (⟨c.row, c.col, { data := #[] }, 0, []⟩ : Cell)) l).length : Nat) = l.length := by
   first | exact filt_all hall | rw [filt_all hall]
  exact .finE [.r [(2, X (Xc4 [(0, 0), (1, 1)] (fc_idxC l yr yc y ys ym (by assumption) (by assumption) (by omega)) X0))], .le (.eq 5 (VI (idxF (fun c : Cell => hasC y (⟨c.row, c.col, { data := #[] }, 0, []⟩ : Cell)) l 0)) (VI (-1)) (.of_eq (by rw [hk]))), .r [], .t, .le (.mv 0 l.length (List.map cellT l).length lm), .r []] [(0, 0), (1, 1), (58, 2)] (fun (z0, z1) => (.row 2 z1, [(0, .gone), (1, .box [VL 2 stepT yr, VL 2 stepT yc, VL 5 cellT y, VL 4 rectT ys, VL 4 rectT ym]), (2, OR 5 cellT z0)])) ((l : List Cell), (l.length : Nat)) (((delL (fun c : Cell => hasC y (⟨c.row, c.col, { data := #[] }, 0, []⟩ : Cell)) l) : List Cell), ((delL (fun c : Cell => hasC y (⟨c.row, c.col, { data := #[] }, 0, []⟩ : Cell)) l).length : Nat)) (pr e3 e4)
end Go.Ch
end
section
set_option linter.unusedVariables false
namespace Go.Ch
open Go Go.Ab

def plc (c : Cell) : Cell := ⟨c.row, c.col, { data := #[] }, 0, []⟩
def pairY (a b : GEd) : GEd :=
  ⟨pB a.rows b.rows, pB a.cols b.cols, movL b.cells (pA a.rows b.rows) (pA a.cols b.cols), rectL b.split (pA a.rows b.rows) (pA a.cols b.cols), rectL b.merge (pA a.rows b.rows) (pA a.cols b.cols)⟩
def pairX (a b : GEd) : GEd :=
  ⟨pA a.rows b.rows, pA a.cols b.cols, delL (fun c => hasC (movL b.cells (pA a.rows b.rows) (pA a.cols b.cols)) ⟨c.row, c.col, { data := #[] }, 0, []⟩) (movL a.cells (pB a.rows b.rows) (pB a.cols b.cols)), rectL a.split (pB a.rows b.rows) (pB a.cols b.cols), rectL a.merge (pB a.rows b.rows) (pB a.cols b.cols)⟩
/-- What one edit's parts ask of the changes that they go through. -/
structure ThrIn (e : GEd) (rows cols : List AxStep) : Prop where
  v1 : 0 < rows.length → Valid rows
  v2 : 0 < cols.length → Valid cols
  l1 : e.cells.length ≤ 100000000000
  l2 : e.split.length ≤ 100000000000
  l3 : e.merge.length ≤ 100000000000
  rch : RchOk e (mxS rows) (mxS cols)
  can : CAN 1000000000000 e.cells
  p1 : ∀ c ∈ e.cells, PIn rows c.row
  p2 : ∀ c ∈ e.cells, PIn cols c.col
  q1 : ∀ r ∈ e.split, QIn rows cols r
  q2 : ∀ r ∈ e.merge, QIn rows cols r
structure PairIn (a b : GEd) : Prop where
  ea : EdOk a
  eb : EdOk b
  pr : 0 < a.rows.length → 0 < b.rows.length → PairOk a.rows b.rows
  pc : 0 < a.cols.length → 0 < b.cols.length → PairOk a.cols b.cols
  l1 : a.rows.length ≤ 1000000000000 ∧ b.rows.length ≤ 1000000000000
  l2 : a.cols.length ≤ 1000000000000 ∧ b.cols.length ≤ 1000000000000
  ta : ThrIn a (pB a.rows b.rows) (pB a.cols b.cols)
  tb : ThrIn b (pA a.rows b.rows) (pA a.cols b.cols)
  srt : SortC (movL b.cells (pA a.rows b.rows) (pA a.cols b.cols))
end Go.Ch
end
section
set_option linter.unusedVariables false
set_option linter.unusedSimpArgs false
set_option maxRecDepth 100000
set_option maxHeartbeats 4000000
open Go Go.Proofs Go.Ab
namespace Go.Ch
theorem fc_movedR (l : List Cell) (rows cols : List AxStep) (hl : l.length ≤ 100000000000) (ha : CAN 1000000000000 l) (hr : ∀ c ∈ l, PIn rows c.row) (hc : ∀ c ∈ l, PIn cols c.col) : FC Tryd.prog 30 [VL 5 cellT l, VL 2 stepT rows, VL 2 stepT cols] (app emp []) (.row 0 ((movL l rows cols).length)) (app emp [(0, OR 5 cellT (movL l rows cols))]) := by
 refine .go Tryd.f30 ?_
 refine .len 0 (fun hl0 => ?_)
 refine .len 1 (fun hl1 => ?_)
 refine .len 2 (fun hl2 => ?_)
 refine .loop (α := Nat × (List Cell)) [.r [], .r [], .r [(1, X (Xl cellT l))], .le (.nR 7 5)] 41 (fun (i, o) => ([(1, VL 2 stepT rows), (2, VL 2 stepT cols), (7, .row 40 o.length), (14, VL 5 cellT l), (15, VI (l.length : Int)), (16, VI (i : Int))], [(40, OR 5 cellT o)])) (fun (i, o) => i ≤ l.length ∧ o = movL (l.take i) rows cols) (fun (i, o) => l.length - i) (0, []) ?_ ?_
 ·
  exact ⟨by omega, rfl⟩
 rintro ⟨i, o⟩ I3 ih3
 try dsimp only at I3
 have ol : o.length ≤ i := by rw [I3.2]; have := movL_len (l.take i) rows cols; simp at this; omega
 refine .br [.r []] (decide ((i : Int) < (l.length : Int))) (fun h3 => ?_) (fun h3 => ?_)
 ·
  (try simp only [decide_eq_true_eq, decide_eq_false_iff_not, Int.not_lt, Int.not_le] at h3)
  have hm := getDC_mem (l := l) (i := i) (by omega)
  have ha1 := ha _ hm
  have hr1 := hr _ hm
  have hc1 := hc _ hm
  refine .br [.r [(0, X (Xi cellT l (i : Int)))], .r [(1, X (Xc1 89 (fc_clone ((l.getD i default)) (by omega)) X0))], .r [(1, X (Xl stepT rows))]] (decide ((rows.length : Int) > 0)) (fun h6 => ?_) (fun h6 => ?_)
  ·
   (try simp only [decide_eq_true_eq, decide_eq_false_iff_not, Int.not_lt, Int.not_le, gt_iff_lt] at h6)
   obtain ⟨hv1, hx1⟩ := hr1 (by omega)
   have hxx : ∀ x ∈ [(l.getD i default).row], 0 ≤ x ∧ x < oldI rows := fun x hx => by (have := List.mem_singleton.1 hx; omega)
   refine .br [.r [(4, X (Xc1 161 (fc_axApply rows [(((l.getD i default))).row] (by assumption) (by assumption) (by simp)) (rowC intT [(((l.getD i default))).row] X0)))], .r [(4, Xv 1 (!false) (Xi intT (List.map (fun x => placeS rows x 0 0) [(((l.getD i default))).row]) 0)), (5, Xv 1 (!false) X0), (6, Xv 1 (!false) X0), (7, X (Xk' false))]] (false || decide (((List.map (fun x => placeS rows x 0 0) [(((l.getD i default))).row]).getD 0 default) < 0)) (fun h8 => ?_) (fun h8 => ?_)
   ·
    (try simp only [decide_eq_true_eq, decide_eq_false_iff_not, Int.not_lt, Int.not_le, Bool.or_eq_true, Bool.or_eq_false_iff] at h8)
    skip
    refine .back [.r [(0, X (Xn ((i : Int) + 1)))]] [(40, 40)] (ih3 ((i + 1), o) ?_ ?_)
    ·
     refine ⟨by omega, ?_⟩
     rw [movL_succ (by omega), ← I3.2]
     unfold mvC mvR
     simp only [List.map_cons, List.map_nil, List.getD_cons_zero] at *
     (repeat' split) <;> first | rfl | (simp; done) | (exfalso; omega) | (exfalso; simp_all; done) | (exfalso; simp_all; omega)
    ·
     ((try dsimp only); omega)
   ·
    (try simp only [decide_eq_true_eq, decide_eq_false_iff_not, Int.not_lt, Int.not_le, Bool.or_eq_true, Bool.or_eq_false_iff] at h8)
    refine .br [.r [(1, X (Xi intT (List.map (fun x => placeS rows x 0 0) [(((l.getD i default))).row]) 0))], .r [(1, X (Xl stepT cols))]] (decide ((cols.length : Int) > 0)) (fun h10 => ?_) (fun h10 => ?_)
    ·
     (try simp only [decide_eq_true_eq, decide_eq_false_iff_not, Int.not_lt, Int.not_le, gt_iff_lt] at h10)
     obtain ⟨hv2, hx2⟩ := hc1 (by omega)
     have hyy : ∀ x ∈ [(l.getD i default).col], 0 ≤ x ∧ x < oldI cols := fun x hx => by (have := List.mem_singleton.1 hx; omega)
     refine .br [.r [(4, X (Xc1 369 (fc_axApply cols [(((l.getD i default))).col] (by assumption) (by assumption) (by simp)) (rowC intT [(((l.getD i default))).col] X0)))], .r [(4, Xv 1 (!false) (Xi intT (List.map (fun x => placeS cols x 0 0) [(((l.getD i default))).col]) 0)), (5, Xv 1 (!false) X0), (6, Xv 1 (!false) X0), (7, X (Xk' false))]] (false || decide (((List.map (fun x => placeS cols x 0 0) [(((l.getD i default))).col]).getD 0 default) < 0)) (fun h12 => ?_) (fun h12 => ?_)
     ·
      (try simp only [decide_eq_true_eq, decide_eq_false_iff_not, Int.not_lt, Int.not_le, Bool.or_eq_true, Bool.or_eq_false_iff] at h12)
      skip
      refine .back [.r [(0, X (Xn ((i : Int) + 1)))]] [(40, 40)] (ih3 ((i + 1), o) ?_ ?_)
      ·
       refine ⟨by omega, ?_⟩
       rw [movL_succ (by omega), ← I3.2]
       unfold mvC mvR
       simp only [List.map_cons, List.map_nil, List.getD_cons_zero] at *
       (repeat' split) <;> first | rfl | (simp; done) | (exfalso; omega) | (exfalso; simp_all; done) | (exfalso; simp_all; omega)
      ·
       ((try dsimp only); omega)
     ·
      (try simp only [decide_eq_true_eq, decide_eq_false_iff_not, Int.not_lt, Int.not_le, Bool.or_eq_true, Bool.or_eq_false_iff] at h12)
      skip
      refine .back [.r [(1, X (Xi intT (List.map (fun x => placeS cols x 0 0) [(((l.getD i default))).col]) 0))], .r [(3, X (rowC cellT [({ row := ((List.map (fun x => placeS rows x 0 0) [(((l.getD i default))).row]).getD 0 default), col := ((List.map (fun x => placeS cols x 0 0) [(((l.getD i default))).col]).getD 0 default), text := (((l.getD i default))).text, ref := (((l.getD i default))).ref, attrs := (((l.getD i default))).attrs } : Cell)] (Xap 5 cellT 40 o [({ row := ((List.map (fun x => placeS rows x 0 0) [(((l.getD i default))).row]).getD 0 default), col := ((List.map (fun x => placeS cols x 0 0) [(((l.getD i default))).col]).getD 0 default), text := (((l.getD i default))).text, ref := (((l.getD i default))).ref, attrs := (((l.getD i default))).attrs } : Cell)])))], .r [(0, X (Xn ((i : Int) + 1)))]] [(40, 40)] (ih3 ((i + 1), (o ++ [({ row := ((List.map (fun x => placeS rows x 0 0) [(((l.getD i default))).row]).getD 0 default), col := ((List.map (fun x => placeS cols x 0 0) [(((l.getD i default))).col]).getD 0 default), text := (((l.getD i default))).text, ref := (((l.getD i default))).ref, attrs := (((l.getD i default))).attrs } : Cell)])) ?_ ?_)
      ·
       refine ⟨by omega, ?_⟩
       rw [movL_succ (by omega), ← I3.2]
       unfold mvC mvR
       simp only [List.map_cons, List.map_nil, List.getD_cons_zero] at *
       (repeat' split) <;> first | rfl | (simp; done) | (exfalso; omega) | (exfalso; simp_all; done) | (exfalso; simp_all; omega)
      ·
       ((try dsimp only); omega)
    ·
     (try simp only [decide_eq_true_eq, decide_eq_false_iff_not, Int.not_lt, Int.not_le, gt_iff_lt] at h10)
     skip
     refine .back [.r [(3, X (rowC cellT [({ row := ((List.map (fun x => placeS rows x 0 0) [(((l.getD i default))).row]).getD 0 default), col := (((l.getD i default))).col, text := (((l.getD i default))).text, ref := (((l.getD i default))).ref, attrs := (((l.getD i default))).attrs } : Cell)] (Xap 5 cellT 40 o [({ row := ((List.map (fun x => placeS rows x 0 0) [(((l.getD i default))).row]).getD 0 default), col := (((l.getD i default))).col, text := (((l.getD i default))).text, ref := (((l.getD i default))).ref, attrs := (((l.getD i default))).attrs } : Cell)])))], .r [(0, X (Xn ((i : Int) + 1)))]] [(40, 40)] (ih3 ((i + 1), (o ++ [({ row := ((List.map (fun x => placeS rows x 0 0) [(((l.getD i default))).row]).getD 0 default), col := (((l.getD i default))).col, text := (((l.getD i default))).text, ref := (((l.getD i default))).ref, attrs := (((l.getD i default))).attrs } : Cell)])) ?_ ?_)
     ·
      refine ⟨by omega, ?_⟩
      rw [movL_succ (by omega), ← I3.2]
      unfold mvC mvR
      simp only [List.map_cons, List.map_nil, List.getD_cons_zero] at *
      (repeat' split) <;> first | rfl | (simp; done) | (exfalso; omega) | (exfalso; simp_all; done) | (exfalso; simp_all; omega)
     ·
      ((try dsimp only); omega)
  ·
   (try simp only [decide_eq_true_eq, decide_eq_false_iff_not, Int.not_lt, Int.not_le, gt_iff_lt] at h6)
   refine .br [.r [(1, X (Xl stepT cols))]] (decide ((cols.length : Int) > 0)) (fun h10 => ?_) (fun h10 => ?_)
   ·
    (try simp only [decide_eq_true_eq, decide_eq_false_iff_not, Int.not_lt, Int.not_le, gt_iff_lt] at h10)
    obtain ⟨hv2, hx2⟩ := hc1 (by omega)
    have hyy : ∀ x ∈ [(l.getD i default).col], 0 ≤ x ∧ x < oldI cols := fun x hx => by (have := List.mem_singleton.1 hx; omega)
    refine .br [.r [(4, X (Xc1 185 (fc_axApply cols [(((l.getD i default))).col] (by assumption) (by assumption) (by simp)) (rowC intT [(((l.getD i default))).col] X0)))], .r [(4, Xv 1 (!false) (Xi intT (List.map (fun x => placeS cols x 0 0) [(((l.getD i default))).col]) 0)), (5, Xv 1 (!false) X0), (6, Xv 1 (!false) X0), (7, X (Xk' false))]] (false || decide (((List.map (fun x => placeS cols x 0 0) [(((l.getD i default))).col]).getD 0 default) < 0)) (fun h12 => ?_) (fun h12 => ?_)
    ·
     (try simp only [decide_eq_true_eq, decide_eq_false_iff_not, Int.not_lt, Int.not_le, Bool.or_eq_true, Bool.or_eq_false_iff] at h12)
     skip
     refine .back [.r [(0, X (Xn ((i : Int) + 1)))]] [(40, 40)] (ih3 ((i + 1), o) ?_ ?_)
     ·
      refine ⟨by omega, ?_⟩
      rw [movL_succ (by omega), ← I3.2]
      unfold mvC mvR
      simp only [List.map_cons, List.map_nil, List.getD_cons_zero] at *
      (repeat' split) <;> first | rfl | (simp; done) | (exfalso; omega) | (exfalso; simp_all; done) | (exfalso; simp_all; omega)
     ·
      ((try dsimp only); omega)
    ·
     (try simp only [decide_eq_true_eq, decide_eq_false_iff_not, Int.not_lt, Int.not_le, Bool.or_eq_true, Bool.or_eq_false_iff] at h12)
     skip
     refine .back [.r [(1, X (Xi intT (List.map (fun x => placeS cols x 0 0) [(((l.getD i default))).col]) 0))], .r [(3, X (rowC cellT [({ row := (((l.getD i default))).row, col := ((List.map (fun x => placeS cols x 0 0) [(((l.getD i default))).col]).getD 0 default), text := (((l.getD i default))).text, ref := (((l.getD i default))).ref, attrs := (((l.getD i default))).attrs } : Cell)] (Xap 5 cellT 40 o [({ row := (((l.getD i default))).row, col := ((List.map (fun x => placeS cols x 0 0) [(((l.getD i default))).col]).getD 0 default), text := (((l.getD i default))).text, ref := (((l.getD i default))).ref, attrs := (((l.getD i default))).attrs } : Cell)])))], .r [(0, X (Xn ((i : Int) + 1)))]] [(40, 40)] (ih3 ((i + 1), (o ++ [({ row := (((l.getD i default))).row, col := ((List.map (fun x => placeS cols x 0 0) [(((l.getD i default))).col]).getD 0 default), text := (((l.getD i default))).text, ref := (((l.getD i default))).ref, attrs := (((l.getD i default))).attrs } : Cell)])) ?_ ?_)
     ·
      refine ⟨by omega, ?_⟩
      rw [movL_succ (by omega), ← I3.2]
      unfold mvC mvR
      simp only [List.map_cons, List.map_nil, List.getD_cons_zero] at *
      (repeat' split) <;> first | rfl | (simp; done) | (exfalso; omega) | (exfalso; simp_all; done) | (exfalso; simp_all; omega)
     ·
      ((try dsimp only); omega)
   ·
    (try simp only [decide_eq_true_eq, decide_eq_false_iff_not, Int.not_lt, Int.not_le, gt_iff_lt] at h10)
    skip
    refine .back [.r [(3, X (rowC cellT [(((l.getD i default)))] (Xap 5 cellT 40 o [(((l.getD i default)))])))], .r [(0, X (Xn ((i : Int) + 1)))]] [(40, 40)] (ih3 ((i + 1), (o ++ [(((l.getD i default)))])) ?_ ?_)
    ·
     refine ⟨by omega, ?_⟩
     rw [movL_succ (by omega), ← I3.2]
     unfold mvC mvR
     simp only [List.map_cons, List.map_nil, List.getD_cons_zero] at *
     (repeat' split) <;> first | rfl | (simp; done) | (exfalso; omega) | (exfalso; simp_all; done) | (exfalso; simp_all; omega)
    ·
     ((try dsimp only); omega)
 ·
  (try simp only [decide_eq_true_eq, decide_eq_false_iff_not, Int.not_lt, Int.not_le] at h3)
  have ho : o = movL l rows cols := by rw [I3.2, List.take_of_length_le (by omega)]
  have e1 : ((movL l rows cols) : List Cell) = o := by
   first | rw [I3.2, List.take_of_length_le (by omega)]
  have e2 : ((movL l rows cols).length : Nat) = o.length := by
   first | rw [I3.2, List.take_of_length_le (by omega)]
  exact .finE [.r []] [(40, 0)] (fun (z0, z1) => (.row 0 z1, [(0, OR 5 cellT z0)])) ((o : List Cell), (o.length : Nat)) (((movL l rows cols) : List Cell), ((movL l rows cols).length : Nat)) (pr e1 e2)

theorem fc_gpair (a b : GEd) (hi : PairIn a b) : FC Tryd.prog 14 [.t (gedT a), .t (gedT b)] (app emp []) (.tup [.t (gedT (pairX a b)), .t (gedT (pairY a b)), VI 0]) (app emp []) := by
 refine .go Tryd.f14 ?_
 obtain ⟨ea, eb, hpr, hpc, l1, l2, ⟨va1, va2, la1, la2, la3, ra, ca, pa1, pa2, qa1, qa2⟩, ⟨vb1, vb2, lb1, lb2, lb3, rb, cb, pb1, pb2, qb1, qb2⟩, srt⟩ := hi
 have lena : a.cells.length ≤ 100000000000 ∧ a.split.length ≤ 100000000000 ∧ a.merge.length ≤ 100000000000 := ⟨la1, la2, la3⟩
 have lenb : b.cells.length ≤ 100000000000 ∧ b.split.length ≤ 100000000000 ∧ b.merge.length ≤ 100000000000 := ⟨lb1, lb2, lb3⟩
 have mla := movL_len a.cells (pB a.rows b.rows) (pB a.cols b.cols)
 have mlb := movL_len b.cells (pA a.rows b.rows) (pA a.cols b.cols)
 refine .br [.r [], .r [], .u, .r [], .t, .r [(0, X (Xa (Xc ((0:Int) ≤ 0)) (Xc ((0 : Int) < ((2 : Nat) : Int)))) ⟨by decide, by decide⟩)], .r [(1, X (Xc0 (fc_checkEdit a (by assumption) (by assumption)) X0))], .r [], .f, .r [], .u, .r [], .t, .r [(0, X (Xa (Xc ((0:Int) ≤ 1)) (Xc ((1 : Int) < ((2 : Nat) : Int)))) ⟨by decide, by decide⟩)], .r [(1, X (Xc0 (fc_checkEdit b (by assumption) (by assumption)) X0))], .r [], .f, .r [], .u, .r [], .f, .r [(4, X (Xc1 288 (fc_pairAxis a.rows b.rows (by omega) (by omega) (by assumption)) X0))], .r [], .f, .r [(4, X (Xc1 400 (fc_pairAxis a.cols b.cols (by omega) (by omega) (by assumption)) X0))], .r [], .f, .r [(3, X (Xc0 (fc_reach a (pB a.rows b.rows) (pB a.cols b.cols) (by assumption) (by assumption) (by assumption) (by assumption)) X0)), (9, Xv 3 (!false) (Xc0 (fc_reach b (pA a.rows b.rows) (pA a.cols b.cols) (by assumption) (by assumption) (by assumption) (by assumption)) X0)), (10, Xv 1 (!false) X0), (11, X (Xk' false))]] (false || false) (fun h14 => ?_) (fun h14 => ?_)
 ·
  (try simp only [Bool.or_eq_true, Bool.or_eq_false_iff] at h14)
  exfalso
  simp at h14
 ·
  (try simp only [Bool.or_eq_true, Bool.or_eq_false_iff] at h14)
  have e1 : ((pairX a b) : GEd) = ({ rows := (pA a.rows b.rows), cols := (pA a.cols b.cols), cells := (delL (fun c : Cell => hasC (movL b.cells (pA a.rows b.rows) (pA a.cols b.cols)) (⟨c.row, c.col, { data := #[] }, 0, []⟩ : Cell)) (movL a.cells (pB a.rows b.rows) (pB a.cols b.cols))), split := (rectL a.split (pB a.rows b.rows) (pB a.cols b.cols)), merge := (rectL a.merge (pB a.rows b.rows) (pB a.cols b.cols)) } : GEd) := by
   rfl
  have e2 : ((pairY a b) : GEd) = ({ rows := (pB a.rows b.rows), cols := (pB a.cols b.cols), cells := (movL b.cells (pA a.rows b.rows) (pA a.cols b.cols)), split := (rectL b.split (pA a.rows b.rows) (pA a.cols b.cols)), merge := (rectL b.merge (pA a.rows b.rows) (pA a.cols b.cols)) } : GEd) := by
   rfl
  exact .finVE [.r [(6, X (Xc1 624 (fc_movedR a.cells (pB a.rows b.rows) (pB a.cols b.cols) (by assumption) (by assumption) (by assumption) (by assumption)) X0)), (11, X (Xc1 664 (fc_rects a.split (pB a.rows b.rows) (pB a.cols b.cols) (by assumption) (by assumption)) X0)), (16, X (Xc1 704 (fc_rects a.merge (pB a.rows b.rows) (pB a.cols b.cols) (by assumption) (by assumption)) X0))], .r [(6, X (Xc1 784 (fc_moved b.cells (pA a.rows b.rows) (pA a.cols b.cols) (by assumption) (by assumption) (by assumption) (by assumption)) X0)), (11, X (Xc1 824 (fc_rects b.split (pA a.rows b.rows) (pA a.cols b.cols) (by assumption) (by assumption)) X0)), (16, X (Xc1 864 (fc_rects b.merge (pA a.rows b.rows) (pA a.cols b.cols) (by assumption) (by assumption)) X0))], .r [(3, X (Xc3 920 [(0, 624), (1, 880)] (fc_delC (movL a.cells (pB a.rows b.rows) (pB a.cols b.cols)) (pB a.rows b.rows) (pB a.cols b.cols) (movL b.cells (pA a.rows b.rows) (pA a.cols b.cols)) (rectL b.split (pA a.rows b.rows) (pA a.cols b.cols)) (rectL b.merge (pA a.rows b.rows) (pA a.cols b.cols)) (by omega) (by assumption) (by omega)) X0))], .r []] [.fR 0 [(((delL (fun c : Cell => hasC (movL b.cells (pA a.rows b.rows) (pA a.cols b.cols)) (⟨c.row, c.col, { data := #[] }, 0, []⟩ : Cell)) (movL a.cells (pB a.rows b.rows) (pB a.cols b.cols))).length) : Nat) = (List.map cellT (delL (fun c : Cell => hasC (movL b.cells (pA a.rows b.rows) (pA a.cols b.cols)) (⟨c.row, c.col, { data := #[] }, 0, []⟩ : Cell)) (movL a.cells (pB a.rows b.rows) (pB a.cols b.cols)))).length] ⟨lm, trivial⟩] [] (fun (z0, z1) => (.tup [.t (gedT z0), .t (gedT z1), VI 0], [])) ((({ rows := (pA a.rows b.rows), cols := (pA a.cols b.cols), cells := (delL (fun c : Cell => hasC (movL b.cells (pA a.rows b.rows) (pA a.cols b.cols)) (⟨c.row, c.col, { data := #[] }, 0, []⟩ : Cell)) (movL a.cells (pB a.rows b.rows) (pB a.cols b.cols))), split := (rectL a.split (pB a.rows b.rows) (pB a.cols b.cols)), merge := (rectL a.merge (pB a.rows b.rows) (pB a.cols b.cols)) } : GEd) : GEd), (({ rows := (pB a.rows b.rows), cols := (pB a.cols b.cols), cells := (movL b.cells (pA a.rows b.rows) (pA a.cols b.cols)), split := (rectL b.split (pA a.rows b.rows) (pA a.cols b.cols)), merge := (rectL b.merge (pA a.rows b.rows) (pA a.cols b.cols)) } : GEd) : GEd)) (((pairX a b) : GEd), ((pairY a b) : GEd)) (pr e1 e2)
end Go.Ch
end
section
set_option linter.unusedVariables false
namespace Go.Ch
open Go Go.Ab

/-- The number that a position draws. -/
def drwI (raw : List Int) (a i : Nat) (hi : Int) : Int := withinI (IntKind.i64.wrap (raw.getD (a % raw.length) default + ((i / raw.length : Nat) : Int))) 0 hi
def edC (raw : List Int) (text : ByteArray) (cols r c : Nat) : List Cell :=
  if raw.length = 0 then [] else if drwI raw (r * cols + c + 1) (r * cols + c) 7 = 0 then [⟨r, c, text, 0, []⟩] else if drwI raw (r * cols + c + 1) (r * cols + c) 7 = 1 then [⟨r, c, { data := #[] }, 0, []⟩] else []
def edR (raw : List Int) (text : ByteArray) (cols r c : Nat) : List Cell := (List.range c).flatMap (edC raw text cols r)
def edA (raw : List Int) (text : ByteArray) (cols r : Nat) : List Cell := (List.range r).flatMap fun r => edR raw text cols r cols
def fitR (raw : List Int) (n : Int) : List AxStep := stepsL (fitU raw n.toNat) 0 []
def edM (raw : List Int) (rows cols : Int) (ms : Bool) : List Rect :=
  if ms = true ∧ 1 < rows ∧ 1 < cols ∧ 0 < raw.length then [⟨withinI (raw.getD 0 default) 0 (rows - 2), withinI (raw.getD (raw.length - 1) default) 0 (cols - 2), 2, 2⟩] else []
def editE (x : Grid) (raw : List Int) (text : ByteArray) (ms : Bool) : GEd :=
  let R := fitR (raw.take (raw.length / 2)) x.rows
  let C := fitR (raw.drop (raw.length / 2)) x.cols
  ⟨R, C, edA raw text (newI C).toNat (newI R).toNat, [], edM raw (newI R) (newI C) ms⟩
theorem edR_succ (raw : List Int) (text : ByteArray) (cols r c : Nat) : edR raw text cols r (c + 1) = edR raw text cols r c ++ edC raw text cols r c := by
  unfold edR; rw [List.range_succ, List.flatMap_append]; simp
theorem edA_succ (raw : List Int) (text : ByteArray) (cols r : Nat) : edA raw text cols (r + 1) = edA raw text cols r ++ edR raw text cols r cols := by
  unfold edA; rw [List.range_succ, List.flatMap_append]; simp
theorem edC_len (raw : List Int) (text : ByteArray) (cols r c : Nat) : (edC raw text cols r c).length ≤ 1 := by
  unfold edC; repeat' split
  all_goals simp
theorem edR_len (raw : List Int) (text : ByteArray) (cols r : Nat) : ∀ c, (edR raw text cols r c).length ≤ c
  | 0 => by simp [edR]
  | c + 1 => by
    rw [edR_succ, List.length_append]
    have := edR_len raw text cols r c; have := edC_len raw text cols r c; omega
theorem edA_len (raw : List Int) (text : ByteArray) (cols : Nat) : ∀ r, (edA raw text cols r).length ≤ r * cols
  | 0 => by simp [edA]
  | r + 1 => by
    rw [edA_succ, List.length_append, Nat.succ_mul]
    have := edA_len raw text cols r; have := edR_len raw text cols r cols; omega
/-- The board's cells. -/
def bdT (v : Int) : ByteArray := ⟨#[UInt8.ofNat (97 + v).toNat]⟩
def bdC (raw : List Int) (cols r c : Nat) : List Cell := if 0 < raw.length then (if 1 < drwI raw (r * cols + c) (r * cols + c) 4 then [⟨r, c, bdT (drwI raw (r * cols + c) (r * cols + c) 4), 0, []⟩] else []) else []
def bdR (raw : List Int) (cols r c : Nat) : List Cell := (List.range c).flatMap (bdC raw cols r)
def bdA (raw : List Int) (cols r : Nat) : List Cell := (List.range r).flatMap fun r => bdR raw cols r cols
def boardG (rows cols : Int) (raw : List Int) : Grid := ⟨rows, cols, bdA raw cols.toNat rows.toNat, []⟩
theorem bdR_succ (raw : List Int) (cols r c : Nat) : bdR raw cols r (c + 1) = bdR raw cols r c ++ bdC raw cols r c := by
  unfold bdR; rw [List.range_succ, List.flatMap_append]; simp
theorem bdA_succ (raw : List Int) (cols r : Nat) : bdA raw cols (r + 1) = bdA raw cols r ++ bdR raw cols r cols := by
  unfold bdA; rw [List.range_succ, List.flatMap_append]; simp
theorem bdC_len (raw : List Int) (cols r c : Nat) : (bdC raw cols r c).length ≤ 1 := by
  unfold bdC; repeat' split
  all_goals simp
theorem bdR_len (raw : List Int) (cols r : Nat) : ∀ c, (bdR raw cols r c).length ≤ c
  | 0 => by simp [bdR]
  | c + 1 => by
    rw [bdR_succ, List.length_append]
    have := bdR_len raw cols r c; have := bdC_len raw cols r c; omega
theorem bdA_len (raw : List Int) (cols : Nat) : ∀ r, (bdA raw cols r).length ≤ r * cols
  | 0 => by simp [bdA]
  | r + 1 => by
    rw [bdA_succ, List.length_append, Nat.succ_mul]
    have := bdA_len raw cols r; have := bdR_len raw cols r cols; omega
end Go.Ch
end
section
set_option linter.unusedVariables false
set_option linter.unusedSimpArgs false
set_option maxRecDepth 100000
set_option maxHeartbeats 4000000
open Go Go.Proofs Go.Ab
namespace Go.Ch
theorem fc_board (m n : Nat) (raw : List Int) (hm : m ≤ 1000) (hn : n ≤ 1000) : FC Tryd.prog 12 [VI (m : Int), VI (n : Int), VL 1 intT raw] (app emp []) (.t (gridT (boardG m n raw))) (app emp []) := by
 refine .go Tryd.f12 ?_
 refine .len 2 (fun hl2 => ?_)
 refine .loop (α := Nat × (List Cell)) [.r [], .r [], .le (.nB 32 2 5), .r []] 65 (fun (r, oa) => ([(1, VI (n : Int)), (2, VL 1 intT raw), (6, .ptr 0 0), (7, .ptr 32 0), (15, VI (m : Int)), (16, VI (r : Int))], [(0, .box [VI 0, VI 0, VN, VN]), (32, .box [VI (m : Int), VI (n : Int), .row 48 oa.length, VN]), (48, OR 5 cellT oa)])) (fun (r, oa) => r ≤ m ∧ oa = bdA raw n r) (fun (r, oa) => m - r) (0, []) ?_ ?_
 ·
  exact ⟨by omega, rfl⟩
 rintro ⟨r, oa⟩ I3 ih3
 try dsimp only at I3
 have ol : oa.length ≤ r * n := by rw [I3.2]; exact bdA_len raw n r
 refine .br [.r []] (decide ((r : Int) < (m : Int))) (fun h3 => ?_) (fun h3 => ?_)
 ·
  (try simp only [decide_eq_true_eq, decide_eq_false_iff_not, Int.not_lt, Int.not_le] at h3)
  refine .loop (α := Nat × (List Cell)) [.r [], .r []] 105 (fun (c, ob) => ([(1, VI (n : Int)), (2, VL 1 intT raw), (6, .ptr 0 0), (7, .ptr 32 0), (8, VI (r : Int)), (15, VI (m : Int)), (16, VI (r : Int)), (19, VI (n : Int)), (20, VI (c : Int))], [(0, .box [VI 0, VI 0, VN, VN]), (32, .box [VI (m : Int), VI (n : Int), .row 48 ob.length, VN]), (48, OR 5 cellT ob)])) (fun (c, ob) => c ≤ n ∧ ob = oa ++ bdR raw n r c) (fun (c, ob) => n - c) (0, oa) ?_ ?_
  ·
   exact ⟨by omega, by simp [bdR]⟩
  rintro ⟨c, ob⟩ I6 ih6
  try dsimp only at I6
  have obl : ob.length ≤ r * n + c := by (rw [I6.2, List.length_append]; have := bdR_len raw n r c; omega)
  refine .br [.r []] (decide ((c : Int) < (n : Int))) (fun h6 => ?_) (fun h6 => ?_)
  ·
   (try simp only [decide_eq_true_eq, decide_eq_false_iff_not, Int.not_lt, Int.not_le] at h6)
   have hmul : r * n ≤ 1000000 := Nat.le_trans (Nat.mul_le_mul (show r ≤ 1000 by omega) (show n ≤ 1000 by omega)) (by decide)
   have hp : (r : Int) * (n : Int) + (c : Int) = ((r * n + c : Nat) : Int) := by rw [Int.natCast_add, Int.natCast_mul]
   have hmi : (r : Int) * (n : Int) = ((r * n : Nat) : Int) := (Int.natCast_mul ..).symm
   obtain ⟨p, hpn⟩ : ∃ p, r * n + c = p := ⟨_, rfl⟩
   rw [hpn] at hp
   refine .br [.r [], .r [(2, X (Xn ((r : Int) * (n : Int))) (by omega)), (4, X (Xn (((r : Int) * (n : Int)) + (c : Int))))], .le (.eq 10 (VI (((r : Int) * (n : Int)) + (c : Int))) (VI (p : Int)) (.of_eq (by rw [hp]))), .r [(1, X (Xl intT raw))]] (decide ((raw.length : Int) > 0)) (fun h9 => ?_) (fun h9 => ?_)
   ·
    (try simp only [decide_eq_true_eq, decide_eq_false_iff_not, Int.not_lt, Int.not_le, gt_iff_lt] at h9)
    obtain ⟨v, hv⟩ : ∃ v, drwI raw p p 4 = v := ⟨_, rfl⟩
    have hv2 : withinI (IntKind.i64.wrap (raw.getD (Int.toNat ((p : Int) % (raw.length : Int))) default + (p : Int) / (raw.length : Int))) 0 4 = v := hv
    have hvb : 0 ≤ v ∧ v ≤ 4 := by rw [← hv2]; exact withinI_bd _ (by decide)
    have hbc : bdC raw n r c = if 1 < v then [⟨r, c, bdT v, 0, []⟩] else [] := by unfold bdC; rw [if_pos (show 0 < raw.length by omega), hpn, hv]
    have hbt : [97 + v] = intsB (bdT v) := by (unfold intsB bdT; simp only [List.map_cons, List.map_nil]; rw [UInt8.toNat_ofNat']; congr 1; omega)
    refine .br [.r [(3, X (Xl intT raw)), (4, X (Xrem (p : Int) (raw.length : Int))), (5, X (Xi intT raw ((p : Int) % (raw.length : Int))) ⟨(Int.emod_nonneg _ (by omega)), (Int.emod_lt_of_pos _ (by omega))⟩), (9, X (Xl intT raw)), (10, X (Xquo (p : Int) (raw.length : Int))), (12, X (Xc0 (fc_within (IntKind.i64.wrap ((raw.getD (Int.toNat ((p : Int) % (raw.length : Int))) default) + ((p : Int) / (raw.length : Int)))) 0 4 (by omega)) X0))], .le (.eq 11 (VI (withinI (IntKind.i64.wrap ((raw.getD (Int.toNat ((p : Int) % (raw.length : Int))) default) + ((p : Int) / (raw.length : Int)))) 0 4)) (VI v) (.of_eq (by rw [hv2]))), .r []] (decide (v > 1)) (fun h11 => ?_) (fun h11 => ?_)
    ·
     (try simp only [decide_eq_true_eq, decide_eq_false_iff_not, Int.not_lt, Int.not_le, gt_iff_lt] at h11)
     refine .back [.r [(5, X (Xn (97 + v))), (6, X (Xcv IntKind.u8 (97 + v)) (wrap_u8 (by omega))), (8, X (Xstr 1 [(97 + v)] (bdT v)) ⟨rfl, hbt⟩), (9, X (Xf [(4, 2)])), (11, X (rowC cellT [({ row := (r : Int), col := (c : Int), text := (bdT v), ref := 0, attrs := [] } : Cell)] (Xap 5 cellT 48 ob [({ row := (r : Int), col := (c : Int), text := (bdT v), ref := 0, attrs := [] } : Cell)])) (by simp only [List.length_cons, List.length_nil]; omega))], .r [(0, X (Xn ((c : Int) + 1)))]] [(0, 0), (32, 32), (48, 48)] (ih6 ((c + 1), (ob ++ [({ row := (r : Int), col := (c : Int), text := (bdT v), ref := 0, attrs := [] } : Cell)])) ?_ ?_)
     ·
      refine ⟨by omega, ?_⟩
      rw [I6.2, bdR_succ, List.append_assoc, hbc, if_pos (by omega)]
     ·
      ((try dsimp only); omega)
    ·
     (try simp only [decide_eq_true_eq, decide_eq_false_iff_not, Int.not_lt, Int.not_le, gt_iff_lt] at h11)
     refine .back [.r [(0, X (Xn ((c : Int) + 1)))]] [(0, 0), (32, 32), (48, 48)] (ih6 ((c + 1), ob) ?_ ?_)
     ·
      refine ⟨by omega, ?_⟩
      rw [I6.2, bdR_succ, hbc, if_neg (by omega), List.append_nil]
     ·
      ((try dsimp only); omega)
   ·
    (try simp only [decide_eq_true_eq, decide_eq_false_iff_not, Int.not_lt, Int.not_le, gt_iff_lt] at h9)
    refine .back [.r [(0, X (Xn ((c : Int) + 1)))]] [(0, 0), (32, 32), (48, 48)] (ih6 ((c + 1), ob) ?_ ?_)
    ·
     refine ⟨by omega, ?_⟩
     rw [I6.2, bdR_succ]; unfold bdC; rw [if_neg (by omega), List.append_nil]
    ·
     ((try dsimp only); omega)
  ·
   (try simp only [decide_eq_true_eq, decide_eq_false_iff_not, Int.not_lt, Int.not_le] at h6)
   refine .back [.r [(0, X (Xn ((r : Int) + 1)))]] [(0, 0), (32, 32), (48, 48)] (ih3 ((r + 1), ob) ?_ ?_)
   ·
    refine ⟨by omega, ?_⟩
    rw [I6.2, I3.2, bdA_succ, show c = n by omega]
   ·
    ((try dsimp only); omega)
 ·
  (try simp only [decide_eq_true_eq, decide_eq_false_iff_not, Int.not_lt, Int.not_le] at h3)
  have e1 : ((boardG m n raw) : Grid) = ({ rows := (m : Int), cols := (n : Int), cells := oa, merges := [] } : Grid) := by
   unfold boardG; rw [I3.2, show r = m by omega]; rfl
  exact .finVE [.r [], .le (.nB 0 3 4)] [.fR 0 [(oa.length : Nat) = (List.map cellT oa).length, (0 : Nat) = (List.map rectT []).length] ⟨lm, lm, trivial⟩] [] (fun z0 => (.t (gridT z0), [])) (({ rows := (m : Int), cols := (n : Int), cells := oa, merges := [] } : Grid) : Grid) ((boardG m n raw) : Grid) e1
end Go.Ch
end
section
set_option linter.unusedVariables false
set_option linter.unusedSimpArgs false
set_option maxRecDepth 100000
set_option maxHeartbeats 4000000
open Go Go.Proofs Go.Ab
namespace Go.Ch
theorem fc_editing (x : Grid) (raw : List Int) (text : ByteArray) (ms : Bool) (h1 : 0 ≤ x.rows ∧ x.rows ≤ 1000) (h2 : 0 ≤ x.cols ∧ x.cols ≤ 1000) : FC Tryd.prog 8 [.t (gridT x), VL 1 intT raw, VS text, VB ms] (app emp []) (.t (gedT (editE x raw text ms))) (app emp []) := by
 refine .go Tryd.f8 ?_
 refine .len 1 (fun hl1 => ?_)
 obtain ⟨Va, Oa, La, Ua⟩ := fit_ok (raw.take (raw.length / 2)) x.rows (by omega) (by omega)
 obtain ⟨Vb, Ob, Lb, Ub⟩ := fit_ok (raw.drop (raw.length / 2)) x.cols (by omega) (by omega)
 have hda : editE x raw text ms = ⟨(stepsL (fitU (raw.take (raw.length / 2)) (Int.toNat x.rows)) 0 []), (stepsL (fitU (raw.drop (raw.length / 2)) (Int.toNat x.cols)) 0 []), edA raw text (newI (stepsL (fitU (raw.drop (raw.length / 2)) (Int.toNat x.cols)) 0 [])).toNat (newI (stepsL (fitU (raw.take (raw.length / 2)) (Int.toNat x.rows)) 0 [])).toNat, [], edM raw (newI (stepsL (fitU (raw.take (raw.length / 2)) (Int.toNat x.rows)) 0 [])) (newI (stepsL (fitU (raw.drop (raw.length / 2)) (Int.toNat x.cols)) 0 [])) ms⟩ := rfl
 obtain ⟨rn, hrn⟩ : ∃ k : Nat, newI (stepsL (fitU (raw.take (raw.length / 2)) (Int.toNat x.rows)) 0 []) = (k : Int) := ⟨_, rfl⟩
 rw [hrn] at La Ua
 obtain ⟨cn, hcn⟩ : ∃ k : Nat, newI (stepsL (fitU (raw.drop (raw.length / 2)) (Int.toNat x.cols)) 0 []) = (k : Int) := ⟨_, rfl⟩
 rw [hcn] at Lb Ub
 rw [hrn, hcn] at hda
 refine .loop (α := Nat × (List Cell)) [.r [], .r [], .r [(1, X (Xl intT raw))], .le (.nB 16 2 5), .le (.nB 16 4 4), .r [(4, X (Xquo (raw.length : Int) 2)), (5, X (Xst intT 1 raw ((raw.length : Int) / 2))), (6, X (Xc1 98 (fc_fitting x.rows (raw.take (raw.length / 2)) (by omega)) X0)), (11, X (Xquo (raw.length : Int) 2)), (12, X (Xsd intT 1 raw ((raw.length : Int) / 2))), (13, X (Xc1 154 (fc_fitting x.cols (raw.drop (raw.length / 2)) (by omega)) X0))], .r [(2, X (Xc0 (fc_axLengths (stepsL (fitU (raw.take (raw.length / 2)) (Int.toNat x.rows)) 0 []) (by assumption)) X0))], .le (.eq 12 (VI (newI (stepsL (fitU (raw.take (raw.length / 2)) (Int.toNat x.rows)) 0 []))) (VI (rn : Int)) (.of_eq (by rw [hrn]))), .r [(2, X (Xc0 (fc_axLengths (stepsL (fitU (raw.drop (raw.length / 2)) (Int.toNat x.cols)) 0 []) (by assumption)) X0))], .le (.eq 15 (VI (newI (stepsL (fitU (raw.drop (raw.length / 2)) (Int.toNat x.cols)) 0 []))) (VI (cn : Int)) (.of_eq (by rw [hcn]))), .r []] 370 (fun (r, oa) => ([(1, VL 1 intT raw), (2, VS text), (3, VB ms), (8, .ptr 8 0), (9, .ptr 16 0), (10, VI (raw.length : Int)), (12, VI (rn : Int)), (15, VI (cn : Int)), (52, VI (rn : Int)), (53, VI (r : Int))], [(8, .box [VN, VN, VN, VN, VN]), (16, .box [VL 2 stepT (stepsL (fitU (raw.take (raw.length / 2)) (Int.toNat x.rows)) 0 []), VL 2 stepT (stepsL (fitU (raw.drop (raw.length / 2)) (Int.toNat x.cols)) 0 []), .row 48 oa.length, VN, .row 49 0]), (48, OR 5 cellT oa), (49, OR 4 rectT [])])) (fun (r, oa) => r ≤ rn ∧ oa = edA raw text cn r) (fun (r, oa) => rn - r) (0, []) ?_ ?_
 ·
  exact ⟨by omega, rfl⟩
 rintro ⟨r, oa⟩ I7 ih7
 try dsimp only at I7
 have ol : oa.length ≤ r * cn := by rw [I7.2]; exact edA_len raw text cn r
 refine .br [.r []] (decide ((r : Int) < (rn : Int))) (fun h7 => ?_) (fun h7 => ?_)
 ·
  (try simp only [decide_eq_true_eq, decide_eq_false_iff_not, Int.not_lt, Int.not_le] at h7)
  refine .loop (α := Nat × (List Cell)) [.r [], .r []] 410 (fun (c, ob) => ([(1, VL 1 intT raw), (2, VS text), (3, VB ms), (8, .ptr 8 0), (9, .ptr 16 0), (10, VI (raw.length : Int)), (12, VI (rn : Int)), (15, VI (cn : Int)), (17, VI (r : Int)), (52, VI (rn : Int)), (53, VI (r : Int)), (56, VI (cn : Int)), (57, VI (c : Int))], [(8, .box [VN, VN, VN, VN, VN]), (16, .box [VL 2 stepT (stepsL (fitU (raw.take (raw.length / 2)) (Int.toNat x.rows)) 0 []), VL 2 stepT (stepsL (fitU (raw.drop (raw.length / 2)) (Int.toNat x.cols)) 0 []), .row 48 ob.length, VN, .row 49 0]), (48, OR 5 cellT ob), (49, OR 4 rectT [])])) (fun (c, ob) => c ≤ cn ∧ ob = oa ++ edR raw text cn r c) (fun (c, ob) => cn - c) (0, oa) ?_ ?_
  ·
   exact ⟨by omega, by simp [edR]⟩
  rintro ⟨c, ob⟩ I10 ih10
  try dsimp only at I10
  have obl : ob.length ≤ r * cn + c := by (rw [I10.2, List.length_append]; have := edR_len raw text cn r c; omega)
  refine .br [.r []] (decide ((c : Int) < (cn : Int))) (fun h10 => ?_) (fun h10 => ?_)
  ·
   (try simp only [decide_eq_true_eq, decide_eq_false_iff_not, Int.not_lt, Int.not_le] at h10)
   refine .br [.r [], .r []] ((raw.length : Int) == 0) (fun h12 => ?_) (fun h12 => ?_)
   ·
    (try simp only [beq_iff_eq, beq_eq_false_iff_ne, ne_eq] at h12)
    refine .back [.r [(0, X (Xn ((c : Int) + 1)))]] [(8, 8), (16, 16), (48, 48), (49, 49)] (ih10 ((c + 1), ob) ?_ ?_)
    ·
     refine ⟨by omega, ?_⟩
     rw [I10.2, edR_succ]
     (first | (rw [hbc, List.append_assoc, if_pos (by omega)]) | (rw [hbc, List.append_assoc, if_neg (by omega), if_pos (by omega)]) | (rw [hbc, if_neg (by omega), if_neg (by omega), List.append_nil]) | (unfold edC; rw [if_pos (by omega), List.append_nil]))
    ·
     ((try dsimp only); omega)
   ·
    (try simp only [beq_iff_eq, beq_eq_false_iff_ne, ne_eq] at h12)
    have hmul : r * cn ≤ 10000000000 := Nat.le_trans (Nat.mul_le_mul (show r ≤ 100000 by omega) (show cn ≤ 100000 by omega)) (by decide)
    have hp : (r : Int) * (cn : Int) + (c : Int) = ((r * cn + c : Nat) : Int) := by rw [Int.natCast_add, Int.natCast_mul]
    have hmi : (r : Int) * (cn : Int) = ((r * cn : Nat) : Int) := (Int.natCast_mul ..).symm
    obtain ⟨p, hpn⟩ : ∃ p, r * cn + c = p := ⟨_, rfl⟩
    rw [hpn] at hp
    obtain ⟨v, hv⟩ : ∃ v, drwI raw (p + 1) p 7 = v := ⟨_, rfl⟩
    have hv2 : withinI (IntKind.i64.wrap (raw.getD (Int.toNat ((((p : Int) + 1) : Int) % (raw.length : Int))) default + (p : Int) / (raw.length : Int))) 0 7 = v := hv
    have hvb : 0 ≤ v ∧ v ≤ 7 := by rw [← hv2]; exact withinI_bd _ (by decide)
    have hbc : edC raw text cn r c = if v = 0 then [⟨r, c, text, 0, []⟩] else if v = 1 then [⟨r, c, { data := #[] }, 0, []⟩] else [] := by unfold edC; rw [if_neg (show ¬ raw.length = 0 by omega), hpn, hv]
    refine .br [.r [(2, X (Xn ((r : Int) * (cn : Int))) (by omega)), (4, X (Xn (((r : Int) * (cn : Int)) + (c : Int))))], .le (.eq 19 (VI (((r : Int) * (cn : Int)) + (c : Int))) (VI (p : Int)) (.of_eq (by rw [hp]))), .r [(2, X (Xn ((p : Int) + 1))), (4, X (Xrem ((p : Int) + 1) (raw.length : Int))), (5, X (Xi intT raw (((p : Int) + 1) % (raw.length : Int))) ⟨(Int.emod_nonneg _ (by omega)), (Int.emod_lt_of_pos _ (by omega))⟩), (9, X (Xquo (p : Int) (raw.length : Int))), (11, X (Xc0 (fc_within (IntKind.i64.wrap ((raw.getD (Int.toNat (((p : Int) + 1) % (raw.length : Int))) default) + ((p : Int) / (raw.length : Int)))) 0 7 (by omega)) X0))], .le (.eq 78 (VI (withinI (IntKind.i64.wrap ((raw.getD (Int.toNat (((p : Int) + 1) % (raw.length : Int))) default) + ((p : Int) / (raw.length : Int)))) 0 7)) (VI v) (.of_eq (by rw [hv2]))), .r []] (v == 0) (fun h15 => ?_) (fun h15 => ?_)
    ·
     (try simp only [beq_iff_eq, beq_eq_false_iff_ne, ne_eq] at h15)
     refine .back [.r [(5, X (Xf [(4, 2)])), (7, X (rowC cellT [({ row := (r : Int), col := (c : Int), text := text, ref := 0, attrs := [] } : Cell)] (Xap 5 cellT 48 ob [({ row := (r : Int), col := (c : Int), text := text, ref := 0, attrs := [] } : Cell)])) (by simp only [List.length_cons, List.length_nil]; omega))], .r [(0, X (Xn ((c : Int) + 1)))]] [(8, 8), (16, 16), (48, 48), (49, 49)] (ih10 ((c + 1), (ob ++ [({ row := (r : Int), col := (c : Int), text := text, ref := 0, attrs := [] } : Cell)])) ?_ ?_)
     ·
      refine ⟨by omega, ?_⟩
      rw [I10.2, edR_succ]
      (first | (rw [hbc, List.append_assoc, if_pos (by omega)]) | (rw [hbc, List.append_assoc, if_neg (by omega), if_pos (by omega)]) | (rw [hbc, if_neg (by omega), if_neg (by omega), List.append_nil]) | (unfold edC; rw [if_pos (by omega), List.append_nil]))
     ·
      ((try dsimp only); omega)
    ·
     (try simp only [beq_iff_eq, beq_eq_false_iff_ne, ne_eq] at h15)
     refine .br [.r []] (v == 1) (fun h17 => ?_) (fun h17 => ?_)
     ·
      (try simp only [beq_iff_eq, beq_eq_false_iff_ne, ne_eq] at h17)
      refine .back [.r [(4, X (Xf [(4, 2)])), (6, X (rowC cellT [({ row := (r : Int), col := (c : Int), text := { data := #[] }, ref := 0, attrs := [] } : Cell)] (Xap 5 cellT 48 ob [({ row := (r : Int), col := (c : Int), text := { data := #[] }, ref := 0, attrs := [] } : Cell)])) (by simp only [List.length_cons, List.length_nil]; omega))], .r [(0, X (Xn ((c : Int) + 1)))]] [(8, 8), (16, 16), (48, 48), (49, 49)] (ih10 ((c + 1), (ob ++ [({ row := (r : Int), col := (c : Int), text := { data := #[] }, ref := 0, attrs := [] } : Cell)])) ?_ ?_)
      ·
       refine ⟨by omega, ?_⟩
       rw [I10.2, edR_succ]
       (first | (rw [hbc, List.append_assoc, if_pos (by omega)]) | (rw [hbc, List.append_assoc, if_neg (by omega), if_pos (by omega)]) | (rw [hbc, if_neg (by omega), if_neg (by omega), List.append_nil]) | (unfold edC; rw [if_pos (by omega), List.append_nil]))
      ·
       ((try dsimp only); omega)
     ·
      (try simp only [beq_iff_eq, beq_eq_false_iff_ne, ne_eq] at h17)
      refine .back [.r [(0, X (Xn ((c : Int) + 1)))]] [(8, 8), (16, 16), (48, 48), (49, 49)] (ih10 ((c + 1), ob) ?_ ?_)
      ·
       refine ⟨by omega, ?_⟩
       rw [I10.2, edR_succ]
       (first | (rw [hbc, List.append_assoc, if_pos (by omega)]) | (rw [hbc, List.append_assoc, if_neg (by omega), if_pos (by omega)]) | (rw [hbc, if_neg (by omega), if_neg (by omega), List.append_nil]) | (unfold edC; rw [if_pos (by omega), List.append_nil]))
      ·
       ((try dsimp only); omega)
  ·
   (try simp only [decide_eq_true_eq, decide_eq_false_iff_not, Int.not_lt, Int.not_le] at h10)
   refine .back [.r [(0, X (Xn ((r : Int) + 1)))]] [(8, 8), (16, 16), (48, 48), (49, 49)] (ih7 ((r + 1), ob) ?_ ?_)
   ·
    refine ⟨by omega, ?_⟩
    rw [I10.2, I7.2, edA_succ, show c = cn by omega]
   ·
    ((try dsimp only); omega)
 ·
  (try simp only [decide_eq_true_eq, decide_eq_false_iff_not, Int.not_lt, Int.not_le] at h7)
  have hoa : edA raw text cn rn = oa := by rw [I7.2, show r = rn by omega]
  have hda2 : editE x raw text ms = ⟨(stepsL (fitU (raw.take (raw.length / 2)) (Int.toNat x.rows)) 0 []), (stepsL (fitU (raw.drop (raw.length / 2)) (Int.toNat x.cols)) 0 []), oa, [], edM raw (rn : Int) (cn : Int) ms⟩ := by rw [hda, ← hoa]; rfl
  refine .br [.r [(3, Xv 1 ms X0), (4, X (Xk ms)), (7, Xv 1 (ms && decide ((rn : Int) > 1)) X0), (8, X (Xk (ms && decide ((rn : Int) > 1)))), (11, Xv 1 ((ms && decide ((rn : Int) > 1)) && decide ((cn : Int) > 1)) X0), (12, X (Xk ((ms && decide ((rn : Int) > 1)) && decide ((cn : Int) > 1))))]] (((ms && decide ((rn : Int) > 1)) && decide ((cn : Int) > 1)) && decide ((raw.length : Int) > 0)) (fun h21 => ?_) (fun h21 => ?_)
  ·
   (try simp only [decide_eq_true_eq, decide_eq_false_iff_not, Int.not_lt, Int.not_le, gt_iff_lt, Bool.and_eq_true, Bool.and_eq_false_iff, Bool.not_eq_true', Bool.not_eq_false'] at h21)
   have e1 : ((editE x raw text ms) : GEd) = ({ rows := (stepsL (fitU (raw.take (raw.length / 2)) (Int.toNat x.rows)) 0 []), cols := (stepsL (fitU (raw.drop (raw.length / 2)) (Int.toNat x.cols)) 0 []), cells := oa, split := [], merge := ([] ++ [({ row := (withinI (raw.getD 0 default) 0 ((rn : Int) - 2)), col := (withinI (raw.getD (raw.length - 1) default) 0 ((cn : Int) - 2)), h := 2, w := 2 } : Rect)]) } : GEd) := by
    rw [hda2]; unfold edM
    (first | (rw [if_pos (by simp_all)]; rfl) | (rw [if_neg (fun q => by (obtain ⟨q1, q2, q3, q4⟩ := q; rcases h21 with ((h | h) | h) | h; (rw [q1] at h; cases h); (omega); (omega); (omega)))]))
   exact .finVE [.r [(3, X (Xi intT raw 0)), (6, X (Xn ((rn : Int) - 2))), (7, X (Xc0 (fc_within (raw.getD 0 default) 0 ((rn : Int) - 2) (by omega)) X0)), (10, X (Xn ((raw.length : Int) - 1))), (11, X (Xi' intT raw ((raw.length : Int) - 1) (raw.length - 1))), (14, X (Xn ((cn : Int) - 2))), (15, X (Xc0 (fc_within (raw.getD (raw.length - 1) default) 0 ((cn : Int) - 2) (by omega)) X0)), (18, X (rowC rectT [({ row := (withinI (raw.getD 0 default) 0 ((rn : Int) - 2)), col := (withinI (raw.getD (raw.length - 1) default) 0 ((cn : Int) - 2)), h := 2, w := 2 } : Rect)] (Xap 4 rectT 49 [] [({ row := (withinI (raw.getD 0 default) 0 ((rn : Int) - 2)), col := (withinI (raw.getD (raw.length - 1) default) 0 ((cn : Int) - 2)), h := 2, w := 2 } : Rect)])))], .r [], .le (.nB 8 3 4)] [.fR 0 [(oa.length : Nat) = (List.map cellT oa).length, (0 : Nat) = (List.map rectT []).length, ((([] ++ [({ row := (withinI (raw.getD 0 default) 0 ((rn : Int) - 2)), col := (withinI (raw.getD (raw.length - 1) default) 0 ((cn : Int) - 2)), h := 2, w := 2 } : Rect)]).length) : Nat) = (List.map rectT ([] ++ [({ row := (withinI (raw.getD 0 default) 0 ((rn : Int) - 2)), col := (withinI (raw.getD (raw.length - 1) default) 0 ((cn : Int) - 2)), h := 2, w := 2 } : Rect)])).length] ⟨lm, lm, lm, trivial⟩] [] (fun z0 => (.t (gedT z0), [])) (({ rows := (stepsL (fitU (raw.take (raw.length / 2)) (Int.toNat x.rows)) 0 []), cols := (stepsL (fitU (raw.drop (raw.length / 2)) (Int.toNat x.cols)) 0 []), cells := oa, split := [], merge := ([] ++ [({ row := (withinI (raw.getD 0 default) 0 ((rn : Int) - 2)), col := (withinI (raw.getD (raw.length - 1) default) 0 ((cn : Int) - 2)), h := 2, w := 2 } : Rect)]) } : GEd) : GEd) ((editE x raw text ms) : GEd) e1
  ·
   (try simp only [decide_eq_true_eq, decide_eq_false_iff_not, Int.not_lt, Int.not_le, gt_iff_lt, Bool.and_eq_true, Bool.and_eq_false_iff, Bool.not_eq_true', Bool.not_eq_false'] at h21)
   have e2 : ((editE x raw text ms) : GEd) = ({ rows := (stepsL (fitU (raw.take (raw.length / 2)) (Int.toNat x.rows)) 0 []), cols := (stepsL (fitU (raw.drop (raw.length / 2)) (Int.toNat x.cols)) 0 []), cells := oa, split := [], merge := [] } : GEd) := by
    rw [hda2]; unfold edM
    (first | (rw [if_pos (by simp_all)]; rfl) | (rw [if_neg (fun q => by (obtain ⟨q1, q2, q3, q4⟩ := q; rcases h21 with ((h | h) | h) | h; (rw [q1] at h; cases h); (omega); (omega); (omega)))]))
   exact .finVE [.r [], .le (.nB 8 3 4)] [.fR 0 [(oa.length : Nat) = (List.map cellT oa).length, (0 : Nat) = (List.map rectT []).length, (0 : Nat) = (List.map rectT []).length] ⟨lm, lm, lm, trivial⟩] [] (fun z0 => (.t (gedT z0), [])) (({ rows := (stepsL (fitU (raw.take (raw.length / 2)) (Int.toNat x.rows)) 0 []), cols := (stepsL (fitU (raw.drop (raw.length / 2)) (Int.toNat x.cols)) 0 []), cells := oa, split := [], merge := [] } : GEd) : GEd) ((editE x raw text ms) : GEd) e2
end Go.Ch
end
section
set_option linter.unusedVariables false
namespace Go.Ch
open Go Go.Ab

def gP : Grid := ⟨1, 1, [], []⟩
def cP : Cell := ⟨0, 0, { data := #[120] }, 0, []⟩
def eP : GEd := ⟨[], [], [cP], [], []⟩
theorem probe_gr : gridE gP = 0 := by decide +kernel
theorem probe_ed : edE eP = 0 := by decide +kernel
theorem probe_fit : fitE gP eP = 0 := by decide +kernel
theorem probe_app : AppIn gP eP where
  hg := probe_gr
  he := edE_ok probe_ed
  hf := fitE_ok probe_fit
  raw := ⟨fun h => absurd h (by decide), fun h => absurd h (by decide), by decide, by decide, by decide, by decide, fun c hc => (by cases hc), fun c hc => (by rw [List.mem_singleton.1 hc]; decide), fun c hc => (by cases hc), fun c hc => (by cases hc), fun r hr => (by cases hr), fun r hr => (by cases hr)⟩
  l5 := by decide
theorem probe_cells : (rawGr gP eP).cells = [cP] := by
  show putL [cP] (movL [] [] []) = [cP]
  have h1 : movL [] [] [] = [] := rfl
  have he : emptyC cP = false := by decide +kernel
  rw [h1, putL, putC, he]
  rfl
theorem probe_sort : SortC (rawGr gP eP).cells := by
  rw [probe_cells]
  intro p q h1 h2
  simp only [List.length_cons, List.length_nil] at h2
  omega
theorem probe_can : CAN 1000000000000 (rawGr gP eP).cells := by
  rw [probe_cells]
  intro c hc
  rw [List.mem_singleton.1 hc]; decide
end Go.Ch
end
section
set_option linter.unusedVariables false
set_option linter.unusedSimpArgs false
set_option maxRecDepth 100000
set_option maxHeartbeats 4000000
open Go Go.Proofs Go.Ab
namespace Go.Ch
theorem fc_grids  : FC Tryd.prog 5 [] (app emp []) (VB true) (app emp []) := by
 refine .go Tryd.f5 ?_
 have P1 := probe_app
 have P2 := probe_sort
 have P3 := probe_can
 have P4 := probe_cells
 unfold eP cP gP at P1 P2 P3 P4
 have P5 := congrArg List.length P4
 rw [List.length_singleton] at P5
 have e1 : (((true && (((((rawGr ({ rows := 1, cols := 1, cells := [], merges := [] } : Grid) ({ rows := [], cols := [], cells := [({ row := 0, col := 0, text := { data := #[120] }, ref := 0, attrs := [] } : Cell)], split := [], merge := [] } : GEd))).cells).length : Int) == 1)) && seq (((if hasC (((rawGr ({ rows := 1, cols := 1, cells := [], merges := [] } : Grid) ({ rows := [], cols := [], cells := [({ row := 0, col := 0, text := { data := #[120] }, ref := 0, attrs := [] } : Cell)], split := [], merge := [] } : GEd)))).cells (⟨0, 0, { data := #[] }, 0, []⟩ : Cell) = true then (((rawGr ({ rows := 1, cols := 1, cells := [], merges := [] } : Grid) ({ rows := [], cols := [], cells := [({ row := 0, col := 0, text := { data := #[120] }, ref := 0, attrs := [] } : Cell)], split := [], merge := [] } : GEd)))).cells.getD (lobC (((rawGr ({ rows := 1, cols := 1, cells := [], merges := [] } : Grid) ({ rows := [], cols := [], cells := [({ row := 0, col := 0, text := { data := #[120] }, ref := 0, attrs := [] } : Cell)], split := [], merge := [] } : GEd)))).cells (⟨0, 0, { data := #[] }, 0, []⟩ : Cell)) default else (⟨0, 0, { data := #[] }, 0, []⟩ : Cell))).text) ({ data := #[120] })) : Bool) = true := by
  rw [P4]; decide +kernel
 exact .finE [.r [], .r [(0, X (Xf [(2, 5), (3, 4)])), (1, X (Xf [(4, 2)])), (3, X (Xf [(0, 2), (1, 2), (3, 4), (4, 4)])), (4, X (Xc1 40 (fc_gapply ({ rows := 1, cols := 1, cells := [], merges := [] } : Grid) ({ rows := [], cols := [], cells := [({ row := 0, col := 0, text := { data := #[120] }, ref := 0, attrs := [] } : Cell)], split := [], merge := [] } : GEd) (by assumption)) (rowC cellT [({ row := 0, col := 0, text := { data := #[120] }, ref := 0, attrs := [] } : Cell)] X0)))], .r [(4, Xv 1 true X0), (5, Xv 1 true (Xl cellT (((rawGr ({ rows := 1, cols := 1, cells := [], merges := [] } : Grid) ({ rows := [], cols := [], cells := [({ row := 0, col := 0, text := { data := #[120] }, ref := 0, attrs := [] } : Cell)], split := [], merge := [] } : GEd))).cells))), (6, Xv 1 true X0), (7, X (Xk true)), (10, Xv 1 (true && (((((rawGr ({ rows := 1, cols := 1, cells := [], merges := [] } : Grid) ({ rows := [], cols := [], cells := [({ row := 0, col := 0, text := { data := #[120] }, ref := 0, attrs := [] } : Cell)], split := [], merge := [] } : GEd))).cells).length : Int) == 1)) (Xc1 176 (fc_at ((rawGr ({ rows := 1, cols := 1, cells := [], merges := [] } : Grid) ({ rows := [], cols := [], cells := [({ row := 0, col := 0, text := { data := #[120] }, ref := 0, attrs := [] } : Cell)], split := [], merge := [] } : GEd))) 0 0 (by omega) (by assumption) (by assumption)) X0)), (11, Xv 1 (true && (((((rawGr ({ rows := 1, cols := 1, cells := [], merges := [] } : Grid) ({ rows := [], cols := [], cells := [({ row := 0, col := 0, text := { data := #[120] }, ref := 0, attrs := [] } : Cell)], split := [], merge := [] } : GEd))).cells).length : Int) == 1)) X0), (12, Xv 1 (true && (((((rawGr ({ rows := 1, cols := 1, cells := [], merges := [] } : Grid) ({ rows := [], cols := [], cells := [({ row := 0, col := 0, text := { data := #[120] }, ref := 0, attrs := [] } : Cell)], split := [], merge := [] } : GEd))).cells).length : Int) == 1)) X0), (13, X (Xk (true && (((((rawGr ({ rows := 1, cols := 1, cells := [], merges := [] } : Grid) ({ rows := [], cols := [], cells := [({ row := 0, col := 0, text := { data := #[120] }, ref := 0, attrs := [] } : Cell)], split := [], merge := [] } : GEd))).cells).length : Int) == 1))))]] [] (fun z0 => (VB z0, [])) (((true && (((((rawGr ({ rows := 1, cols := 1, cells := [], merges := [] } : Grid) ({ rows := [], cols := [], cells := [({ row := 0, col := 0, text := { data := #[120] }, ref := 0, attrs := [] } : Cell)], split := [], merge := [] } : GEd))).cells).length : Int) == 1)) && seq (((if hasC (((rawGr ({ rows := 1, cols := 1, cells := [], merges := [] } : Grid) ({ rows := [], cols := [], cells := [({ row := 0, col := 0, text := { data := #[120] }, ref := 0, attrs := [] } : Cell)], split := [], merge := [] } : GEd)))).cells (⟨0, 0, { data := #[] }, 0, []⟩ : Cell) = true then (((rawGr ({ rows := 1, cols := 1, cells := [], merges := [] } : Grid) ({ rows := [], cols := [], cells := [({ row := 0, col := 0, text := { data := #[120] }, ref := 0, attrs := [] } : Cell)], split := [], merge := [] } : GEd)))).cells.getD (lobC (((rawGr ({ rows := 1, cols := 1, cells := [], merges := [] } : Grid) ({ rows := [], cols := [], cells := [({ row := 0, col := 0, text := { data := #[120] }, ref := 0, attrs := [] } : Cell)], split := [], merge := [] } : GEd)))).cells (⟨0, 0, { data := #[] }, 0, []⟩ : Cell)) default else (⟨0, 0, { data := #[] }, 0, []⟩ : Cell))).text) ({ data := #[120] })) : Bool) (true : Bool) e1.symm
end Go.Ch
end
section
set_option linter.unusedVariables false
namespace Go.Ch
open Go Go.Ab

/-- Strictly ascending. -/
def Asc : List Cell → Prop
  | [] => True
  | c :: l => (∀ x ∈ l, ordC c x < 0) ∧ Asc l
theorem ordC_trans {a b c : Cell} (h1 : ordC a b < 0) (h2 : ordC b c < 0) : ordC a c < 0 := by
  rw [ordC_lt] at *; omega
theorem ordC_le_trans {a b c : Cell} (h1 : ordC a b ≤ 0) (h2 : ordC b c < 0) : ordC a c < 0 := by
  have : ¬ 0 < ordC a b := by omega
  rw [ordC_lt] at *
  rw [ordC_def] at h1
  repeat' split at h1
  all_goals omega
theorem ordC_flip {a b : Cell} : 0 < ordC a b ↔ ordC b a < 0 := by
  rw [ordC_lt, ordC_def]; repeat' split
  all_goals omega
theorem asc_sort : ∀ {l : List Cell}, Asc l → SortC l
  | [], _, p, q, h1, h2 => by simp at h2
  | c :: l, ⟨h, k⟩, p, q, h1, h2 => by
    cases q with
    | zero => omega
    | succ q =>
      cases p with
      | zero => exact h _ (getDX_mem (by simpa using h2))
      | succ p => exact asc_sort k p q (by omega) (by simpa using h2)
theorem ordC_self (x : Cell) : ordC x x = 0 := by rw [ordC_eq]; exact ⟨rfl, rfl⟩
theorem cellsE_all {l : List Cell} {m n : Int} {o : Bool} : ∀ (k i : Nat), l.length - i = k →
    (cellsE l m n o i = 0 ↔ ∀ j, i ≤ j → j < l.length → cellE (l.getD j default) m n o = 0 ∧ (0 < j → ordC (l.getD (j - 1) default) (l.getD j default) < 0))
  | 0, i, h => by
    rw [cellsE, if_neg (by omega)]
    exact ⟨fun _ j h1 h2 => by omega, fun _ => rfl⟩
  | k + 1, i, h => by
    have ih := cellsE_all (l := l) (m := m) (n := n) (o := o) k (i + 1) (by omega)
    rw [cellsE, if_pos (by omega)]
    by_cases c1 : cellE (l.getD i default) m n o = 0
    · rw [if_neg (fun q => q c1)]
      by_cases c2 : 0 < i ∧ 0 ≤ ordC (l.getD (i - 1) default) (l.getD i default)
      · rw [if_pos c2]
        refine ⟨fun q => (by cases q), fun q => ?_⟩
        have := (q i (Nat.le_refl _) (by omega)).2 c2.1
        omega
      · rw [if_neg c2, ih]
        refine ⟨fun q j h1 h2 => ?_, fun q j h1 h2 => q j (by omega) h2⟩
        by_cases e : i = j
        · subst e; exact ⟨c1, fun h0 => by omega⟩
        · exact q j (by omega) h2
    · rw [if_pos c1]
      exact ⟨fun q => absurd q c1, fun q => (q i (Nat.le_refl _) (by omega)).1⟩
theorem asc_adj : ∀ {l : List Cell}, (∀ j, 0 < j → j < l.length → ordC (l.getD (j - 1) default) (l.getD j default) < 0) → Asc l
  | [], _ => trivial
  | [c], _ => ⟨fun x hx => (by cases hx), trivial⟩
  | c :: d :: l, h => by
    have h1 : ordC c d < 0 := h 1 (by decide) (by simp)
    have ih := asc_adj (l := d :: l) (fun j h0 hj => by
      have := h (j + 1) (by omega) (by simp only [List.length_cons] at hj ⊢; omega)
      obtain ⟨j, rfl⟩ : ∃ q, j = q + 1 := ⟨j - 1, by omega⟩
      exact this)
    refine ⟨fun x hx => ?_, ih⟩
    rcases List.mem_cons.1 hx with rfl | hx
    · exact h1
    · exact ordC_trans h1 (ih.1 x hx)
theorem cellsE_iff {l : List Cell} {m n : Int} {o : Bool} : cellsE l m n o 0 = 0 ↔ (∀ c ∈ l, cellE c m n o = 0) ∧ Asc l := by
  rw [cellsE_all _ 0 rfl]
  constructor
  · intro h
    refine ⟨fun c hc => ?_, asc_adj (fun j h0 hj => (h j (Nat.zero_le _) hj).2 h0)⟩
    obtain ⟨j, hj, rfl⟩ := mem_getDX hc
    exact (h j (Nat.zero_le _) hj).1
  · rintro ⟨h1, h2⟩ j _ hj
    exact ⟨h1 _ (getDX_mem hj), fun h0 => asc_sort h2 (j - 1) j (by omega) hj⟩
/-- One cell's conditions. -/
theorem cellE_iff {c : Cell} {m n : Int} {o : Bool} : cellE c m n o = 0 ↔ (0 ≤ c.row ∧ c.row < m ∧ 0 ≤ c.col ∧ c.col < n) ∧ (0 ≤ c.ref ∧ c.ref ≤ 1073741824) ∧ textG c.text = true ∧ chkA false c.attrs 0 = 0 ∧ (o = false → emptyC c = false) := by
  unfold cellE
  by_cases c1 : c.row < 0 ∨ m ≤ c.row ∨ c.col < 0 ∨ n ≤ c.col
  · rw [if_pos c1]; exact ⟨fun q => (by cases q), fun q => by omega⟩
  · rw [if_neg c1]
    by_cases c2 : c.ref < 0 ∨ 1073741824 < c.ref
    · rw [if_pos c2]; exact ⟨fun q => (by cases q), fun q => by omega⟩
    · rw [if_neg c2]
      by_cases c3 : textG c.text = false
      · rw [if_pos c3]; exact ⟨fun q => (by cases q), fun q => by rw [q.2.2.1] at c3; cases c3⟩
      · rw [if_neg c3]
        by_cases c4 : chkA false c.attrs 0 = 0
        · rw [if_neg (fun q => q c4)]
          by_cases c5 : emptyC c = true ∧ o = false
          · rw [if_pos c5]; exact ⟨fun q => (by cases q), fun q => by have := q.2.2.2.2 c5.2; rw [c5.1] at this; cases this⟩
          · rw [if_neg c5]
            refine ⟨fun _ => ⟨by omega, by omega, by simpa using c3, c4, fun ho => ?_⟩, fun _ => rfl⟩
            cases he : emptyC c with
            | false => rfl
            | true => exact absurd ⟨he, ho⟩ c5
        · rw [if_pos c4]; exact ⟨fun q => absurd q c4, fun q => q.2.2.2.1⟩
/-! ### What putting gives -/
theorem put_mem : ∀ (ns l : List Cell) (y : Cell), y ∈ putL ns l → (y ∈ ns ∧ emptyC y = false) ∨ y ∈ l
  | [], l, y, h => .inr h
  | c :: ns, [], y, h => by
    rw [putL, putC] at h
    rcases List.mem_append.1 h with h | h
    · cases he : emptyC c with
      | true => rw [he, if_pos rfl] at h; cases h
      | false => rw [he, if_neg (by decide)] at h; rw [List.mem_singleton.1 h]; exact .inl ⟨by simp, he⟩
    · rcases put_mem ns [] y h with ⟨h1, h2⟩ | h
      · exact .inl ⟨by simp [h1], h2⟩
      · exact .inr h
  | c :: ns, x :: l, y, h => by
    have ih := put_mem (c :: ns) l y
    rw [putL] at ih
    rw [putL, putC] at h
    split at h
    · rcases List.mem_cons.1 h with rfl | h
      · exact .inr (by simp)
      · rcases ih h with h | h
        · exact .inl h
        · exact .inr (by simp [h])
    · have hcase : ∀ (r : List Cell), (∀ z ∈ r, z ∈ x :: l) → y ∈ (if emptyC c = true then [] else [c]) ++ putL ns r → (∀ z, z ∈ putL ns r → (z ∈ ns ∧ emptyC z = false) ∨ z ∈ r) → (y ∈ c :: ns ∧ emptyC y = false) ∨ y ∈ x :: l := fun r hr h hi => by
        rcases List.mem_append.1 h with h | h
        · cases he : emptyC c with
          | true => rw [he, if_pos rfl] at h; cases h
          | false => rw [he, if_neg (by decide)] at h; rw [List.mem_singleton.1 h]; exact .inl ⟨by simp, he⟩
        · rcases hi y h with ⟨h1, h2⟩ | h
          · exact .inl ⟨by simp [h1], h2⟩
          · exact .inr (hr y h)
      split at h
      · exact hcase l (fun z hz => by simp [hz]) h (fun z => put_mem ns l z)
      · exact hcase (x :: l) (fun z hz => hz) h (fun z => put_mem ns (x :: l) z)
termination_by ns l => ns.length + l.length
end Go.Ch
end
