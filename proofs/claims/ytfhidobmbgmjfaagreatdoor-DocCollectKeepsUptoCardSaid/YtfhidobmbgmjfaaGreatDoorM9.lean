/- Parts of the proof: ChDoc8, DocCopy, ChDoc9, DocItems, DocTab, ChDoc10, AbPack, AbPack2, AbPack3, AbRange, AbRg. -/
import Derived.Test.YtfhidobmbgmjfaaGreatDoorM1
import Derived.Test.YtfhidobmbgmjfaaGreatDoorM2
import Derived.Test.YtfhidobmbgmjfaaGreatDoorM3
import Derived.Test.YtfhidobmbgmjfaaGreatDoorM4
import Derived.Test.YtfhidobmbgmjfaaGreatDoorM5
import Derived.Test.YtfhidobmbgmjfaaGreatDoorM6
import Derived.Test.YtfhidobmbgmjfaaGreatDoorM7
import Derived.Test.YtfhidobmbgmjfaaGreatDoorM8
import Derived.Shelf.Strconv.AtoiAll
import Derived.RangeFuncNested
section
set_option linter.unusedVariables false
set_option linter.unusedSimpArgs false
set_option maxRecDepth 100000
set_option maxHeartbeats 4000000
open Go Go.Proofs Go.Ab
namespace Go.Ch
theorem fc_sameG0 (x : Grid) : FC Tryz.prog 85 [.t (gridT x), .t (.agg [TI 0, TI 0, TN, TN])] (app emp []) (VB (zeroG x)) (app emp []) := by
 refine .go Tryz.f85 ?_
 have e1 : ((zeroG x) : Bool) = ((((x.rows == 0) && (x.cols == 0)) && (((x.merges).length : Int) == 0)) && (((x.cells).length : Int) == 0)) := by
  unfold zeroG; rw [Bool.eq_iff_iff]; simp only [Bool.and_eq_true]; constructor <;> (rintro ⟨⟨⟨a, b⟩, c⟩, d⟩; exact ⟨⟨⟨a, b⟩, d⟩, c⟩)
 exact .finE [.r [], .r [(7, Xv 1 (x.rows == 0) X0), (9, Xv 1 (x.rows == 0) X0), (10, Xv 2 (x.rows == 0) X0), (11, X (Xk (x.rows == 0))), (14, Xv 1 ((x.rows == 0) && (x.cols == 0)) X0), (16, Xv 1 ((x.rows == 0) && (x.cols == 0)) X0), (17, Xv 2 ((x.rows == 0) && (x.cols == 0)) (Xc0 (fc_eqR0 x.merges) X0)), (18, X (Xk ((x.rows == 0) && (x.cols == 0)))), (21, Xv 1 (((x.rows == 0) && (x.cols == 0)) && (((x.merges).length : Int) == 0)) X0), (23, Xv 1 (((x.rows == 0) && (x.cols == 0)) && (((x.merges).length : Int) == 0)) X0), (24, Xv 2 (((x.rows == 0) && (x.cols == 0)) && (((x.merges).length : Int) == 0)) (Xc0 (fc_eqC0 x.cells) X0)), (25, X (Xk (((x.rows == 0) && (x.cols == 0)) && (((x.merges).length : Int) == 0))))]] [] (fun z0 => (VB z0, [])) (((((x.rows == 0) && (x.cols == 0)) && (((x.merges).length : Int) == 0)) && (((x.cells).length : Int) == 0)) : Bool) ((zeroG x) : Bool) e1

theorem fc_nodeCk (n : Node) (hm : n.grid.merges.length ≤ 1048576) : FC Tryz.prog 45 [.t (nodeT n)] (app emp []) (VI (nodeE n)) (app emp []) := by
 refine .go Tryz.f45 ?_
 refine .br [.r [], .r [(5, Xv 1 (!(decide (n.id < 1))) X0), (6, Xv 1 (!(decide (n.id < 1))) X0), (7, X (Xk' (decide (n.id < 1))))]] (decide (n.id < 1) || decide (n.id > 1073741824)) (fun h1 => ?_) (fun h1 => ?_)
 ·
  (try simp only [decide_eq_true_eq, decide_eq_false_iff_not, Int.not_lt, Int.not_le, gt_iff_lt, Bool.or_eq_true, Bool.or_eq_false_iff] at h1)
  have e1 : ((nodeE n) : Int) = 2 := by
   (try rw [errA_eq false n.attrs _ 0 rfl] at *)
   unfold nodeE
   (repeat' split) <;> first | rfl | omega | (exfalso; omega) | (simp_all; done) | (exfalso; simp_all; done) | (exfalso; simp_all; omega) | grind
  exact .finE [.r []] [] (fun z0 => (VI z0, [])) (2 : Int) ((nodeE n) : Int) e1
 ·
  (try simp only [decide_eq_true_eq, decide_eq_false_iff_not, Int.not_lt, Int.not_le, gt_iff_lt, Bool.or_eq_true, Bool.or_eq_false_iff] at h1)
  refine .br [.r [(5, Xv 1 (!(decide (n.kind < 0))) X0), (6, Xv 1 (!(decide (n.kind < 0))) X0), (7, X (Xk' (decide (n.kind < 0)))), (10, Xv 1 (!(decide (n.kind < 0) || decide (n.kind ≥ 13))) X0), (11, Xv 1 (!(decide (n.kind < 0) || decide (n.kind ≥ 13))) X0), (13, Xv 1 (!(decide (n.kind < 0) || decide (n.kind ≥ 13))) X0), (14, Xv 1 (!(decide (n.kind < 0) || decide (n.kind ≥ 13))) X0), (15, Xv 2 (!(decide (n.kind < 0) || decide (n.kind ≥ 13))) X0), (16, X (Xk' (decide (n.kind < 0) || decide (n.kind ≥ 13))))]] ((decide (n.kind < 0) || decide (n.kind ≥ 13)) || !((n.id == 1) == (n.kind == 0))) (fun h3 => ?_) (fun h3 => ?_)
  ·
   (try simp only [decide_eq_true_eq, decide_eq_false_iff_not, Int.not_lt, Int.not_le, ge_iff_le, Bool.not_eq_true', Bool.not_eq_false', Bool.or_eq_true, Bool.or_eq_false_iff, beq_iff_eq, beq_eq_false_iff_ne, ne_eq] at h3)
   have e2 : ((nodeE n) : Int) = 8 := by
    (try rw [errA_eq false n.attrs _ 0 rfl] at *)
    unfold nodeE
    (repeat' split) <;> first | rfl | omega | (exfalso; omega) | (simp_all; done) | (exfalso; simp_all; done) | (exfalso; simp_all; omega) | grind
   exact .finE [.r []] [] (fun z0 => (VI z0, [])) (8 : Int) ((nodeE n) : Int) e2
  ·
   (try simp only [decide_eq_true_eq, decide_eq_false_iff_not, Int.not_lt, Int.not_le, ge_iff_le, Bool.not_eq_true', Bool.not_eq_false', Bool.or_eq_true, Bool.or_eq_false_iff, beq_iff_eq, beq_eq_false_iff_ne, ne_eq] at h3)
   refine .br [.r [(2, X (Xc0 (fc_acheck n.attrs) X0))], .r []] ((chkA false n.attrs 0) != 0) (fun h6 => ?_) (fun h6 => ?_)
   ·
    (try simp only [bne_iff_ne, bne_eq_false_iff_eq, ne_eq] at h6)
    have e3 : ((nodeE n) : Int) = (chkA false n.attrs 0) := by
     (try rw [errA_eq false n.attrs _ 0 rfl] at *)
     unfold nodeE
     (repeat' split) <;> first | rfl | omega | (exfalso; omega) | (simp_all; done) | (exfalso; simp_all; done) | (exfalso; simp_all; omega) | grind
    exact .finE [.r []] [] (fun z0 => (VI z0, [])) ((chkA false n.attrs 0) : Int) ((nodeE n) : Int) e3
   ·
    (try simp only [bne_iff_ne, bne_eq_false_iff_eq, ne_eq] at h6)
    refine .br [.r [(2, X (Xc0 (fc_Texts n.kind) X0)), (5, Xv 1 (!(hasT n.kind)) X0), (6, Xv 1 (!(hasT n.kind)) (Xc0 (fc_Lists n.kind) X0)), (7, X (Xk' (hasT n.kind))), (10, X (Xc0 (fc_Grids n.kind) X0))], .r [(4, Xv 1 (!((hasT n.kind) || (hasL n.kind))) X0), (5, Xv 1 (!((hasT n.kind) || (hasL n.kind))) (Xl elemT n.flow)), (6, Xv 1 (!((hasT n.kind) || (hasL n.kind))) X0), (7, X (Xk (!((hasT n.kind) || (hasL n.kind))))), (10, Xv 1 (!(!((hasT n.kind) || (hasL n.kind)) && decide ((n.flow.length : Int) > 0))) X0), (11, Xv 1 (!(!((hasT n.kind) || (hasL n.kind)) && decide ((n.flow.length : Int) > 0))) X0), (13, Xv 1 ((!(!((hasT n.kind) || (hasL n.kind)) && decide ((n.flow.length : Int) > 0))) && (!(hasG n.kind))) X0), (15, Xv 2 ((!(!((hasT n.kind) || (hasL n.kind)) && decide ((n.flow.length : Int) > 0))) && (!(hasG n.kind))) (Xc0 (fc_sameG0 n.grid) X0)), (16, Xv 1 ((!(!((hasT n.kind) || (hasL n.kind)) && decide ((n.flow.length : Int) > 0))) && (!(hasG n.kind))) X0), (17, Xka (!(!((hasT n.kind) || (hasL n.kind)) && decide ((n.flow.length : Int) > 0))) (!(hasG n.kind))), (18, X (Xk' (!((hasT n.kind) || (hasL n.kind)) && decide ((n.flow.length : Int) > 0)))), (21, Xv 1 (!((!((hasT n.kind) || (hasL n.kind)) && decide ((n.flow.length : Int) > 0)) || (!(hasG n.kind) && !(zeroG n.grid)))) X0), (22, Xv 1 (!((!((hasT n.kind) || (hasL n.kind)) && decide ((n.flow.length : Int) > 0)) || (!(hasG n.kind) && !(zeroG n.grid)))) (Xc0 (fc_Draws n.kind) X0)), (23, Xv 1 (!((!((hasT n.kind) || (hasL n.kind)) && decide ((n.flow.length : Int) > 0)) || (!(hasG n.kind) && !(zeroG n.grid)))) X0), (24, Xv 1 (!((!((hasT n.kind) || (hasL n.kind)) && decide ((n.flow.length : Int) > 0)) || (!(hasG n.kind) && !(zeroG n.grid)))) X0), (26, Xv 1 ((!((!((hasT n.kind) || (hasL n.kind)) && decide ((n.flow.length : Int) > 0)) || (!(hasG n.kind) && !(zeroG n.grid)))) && (!(hasD n.kind))) X0), (27, Xv 1 ((!((!((hasT n.kind) || (hasL n.kind)) && decide ((n.flow.length : Int) > 0)) || (!(hasG n.kind) && !(zeroG n.grid)))) && (!(hasD n.kind))) (Xl dopT n.draw)), (28, Xv 1 ((!((!((hasT n.kind) || (hasL n.kind)) && decide ((n.flow.length : Int) > 0)) || (!(hasG n.kind) && !(zeroG n.grid)))) && (!(hasD n.kind))) X0), (29, Xka (!((!((hasT n.kind) || (hasL n.kind)) && decide ((n.flow.length : Int) > 0)) || (!(hasG n.kind) && !(zeroG n.grid)))) (!(hasD n.kind))), (30, X (Xk' ((!((hasT n.kind) || (hasL n.kind)) && decide ((n.flow.length : Int) > 0)) || (!(hasG n.kind) && !(zeroG n.grid)))))]] (((!((hasT n.kind) || (hasL n.kind)) && decide ((n.flow.length : Int) > 0)) || (!(hasG n.kind) && !(zeroG n.grid))) || (!(hasD n.kind) && decide ((n.draw.length : Int) > 0))) (fun h9 => ?_) (fun h9 => ?_)
    ·
     (try simp only [decide_eq_true_eq, decide_eq_false_iff_not, Int.not_lt, Int.not_le, gt_iff_lt, Bool.not_eq_true', Bool.not_eq_false', Bool.and_eq_true, Bool.and_eq_false_iff, Bool.or_eq_true, Bool.or_eq_false_iff] at h9)
     have e4 : ((nodeE n) : Int) = 4 := by
      (try rw [errA_eq false n.attrs _ 0 rfl] at *)
      unfold nodeE
      (repeat' split) <;> first | rfl | omega | (exfalso; omega) | (simp_all; done) | (exfalso; simp_all; done) | (exfalso; simp_all; omega) | grind
     exact .finE [.r []] [] (fun z0 => (VI z0, [])) (4 : Int) ((nodeE n) : Int) e4
    ·
     (try simp only [decide_eq_true_eq, decide_eq_false_iff_not, Int.not_lt, Int.not_le, gt_iff_lt, Bool.not_eq_true', Bool.not_eq_false', Bool.and_eq_true, Bool.and_eq_false_iff, Bool.or_eq_true, Bool.or_eq_false_iff] at h9)
     refine .br [.r []] ((hasT n.kind) || (hasL n.kind)) (fun h11 => ?_) (fun h11 => ?_)
     ·
      (try simp only [Bool.or_eq_true, Bool.or_eq_false_iff] at h11)
      have e5 : ((nodeE n) : Int) = (flowZ (hasT n.kind) n.flow) := by
       (try rw [errA_eq false n.attrs _ 0 rfl] at *)
       unfold nodeE
       (repeat' split) <;> first | rfl | omega | (exfalso; omega) | (simp_all; done) | (exfalso; simp_all; done) | (exfalso; simp_all; omega) | grind
      exact .finE [.r [(4, X (Xc0 (fc_Texts n.kind) X0)), (5, X (Xc0 (fc_flowCheckX n.flow (hasT n.kind)) X0))]] [] (fun z0 => (VI z0, [])) ((flowZ (hasT n.kind) n.flow) : Int) ((nodeE n) : Int) e5
     ·
      (try simp only [Bool.or_eq_true, Bool.or_eq_false_iff] at h11)
      refine .br [.r []] (hasG n.kind) (fun h13 => ?_) (fun h13 => ?_)
      ·
       refine .br [.r [(2, X (Xc0 (fc_gcheck n.grid (by omega)) X0))], .r []] ((gridE n.grid) != 0) (fun h15 => ?_) (fun h15 => ?_)
       ·
        (try simp only [bne_iff_ne, bne_eq_false_iff_eq, ne_eq] at h15)
        have e6 : ((nodeE n) : Int) = (gridE n.grid) := by
         (try rw [errA_eq false n.attrs _ 0 rfl] at *)
         unfold nodeE
         (repeat' split) <;> first | rfl | omega | (exfalso; omega) | (simp_all; done) | (exfalso; simp_all; done) | (exfalso; simp_all; omega) | grind
        exact .finE [.r []] [] (fun z0 => (VI z0, [])) ((gridE n.grid) : Int) ((nodeE n) : Int) e6
       ·
        (try simp only [bne_iff_ne, bne_eq_false_iff_eq, ne_eq] at h15)
        have e7 : ((nodeE n) : Int) = (cellK n.kind n.grid.cells 0) := by
         (try rw [errA_eq false n.attrs _ 0 rfl] at *)
         unfold nodeE
         (repeat' split) <;> first | rfl | omega | (exfalso; omega) | (simp_all; done) | (exfalso; simp_all; done) | (exfalso; simp_all; omega) | grind
        exact .finE [.r [(5, X (Xc0 (fc_cellCk n.kind n.grid.cells) X0))]] [] (fun z0 => (VI z0, [])) ((cellK n.kind n.grid.cells 0) : Int) ((nodeE n) : Int) e7
      ·
       have e8 : ((nodeE n) : Int) = (drawE n.draw 0) := by
        (try rw [errA_eq false n.attrs _ 0 rfl] at *)
        unfold nodeE
        (repeat' split) <;> first | rfl | omega | (exfalso; omega) | (simp_all; done) | (exfalso; simp_all; done) | (exfalso; simp_all; omega) | grind
       exact .finE [.r [(2, X (Xc0 (fc_dcheck n.draw) X0))]] [] (fun z0 => (VI z0, [])) ((drawE n.draw 0) : Int) ((nodeE n) : Int) e8

theorem fc_docCk (d : Doc) (hb : DocB d) : FC Tryz.prog 14 [.t (docT d)] (app emp []) (VI (docE d)) (app emp []) := by
 refine .go Tryz.f14 ?_
 have hl := hb.len
 refine .br [.r [], .r [(2, X (Xl nodeT d.nodes))]] ((d.nodes.length : Int) == 0) (fun h1 => ?_) (fun h1 => ?_)
 ·
  (try simp only [beq_iff_eq, beq_eq_false_iff_ne, ne_eq] at h1)
  have e1 : ((docE d) : Int) = 11 := by
   exact docE_short (by omega)
  exact .finE [.r []] [] (fun z0 => (VI z0, [])) (11 : Int) ((docE d) : Int) e1
 ·
  (try simp only [beq_iff_eq, beq_eq_false_iff_ne, ne_eq] at h1)
  refine .loop (α := Nat) [.r [(2, X (Xl nodeT d.nodes))]] 80 (fun i => ([(1, .ptr 0 0), (14, VL 9 nodeT d.nodes), (15, VI (d.nodes.length : Int)), (16, VI (i : Int))], [(0, .box [VL 9 nodeT d.nodes])])) (fun i => i ≤ d.nodes.length ∧ nodesE d.nodes 0 = nodesE d.nodes i) (fun i => d.nodes.length - i) (0 : Nat) ?_ ?_
  ·
   exact ⟨by omega, rfl⟩
  rintro i I4 ih4
  try dsimp only at I4
  refine .br [.r []] (decide ((i : Int) < (d.nodes.length : Int))) (fun h4 => ?_) (fun h4 => ?_)
  ·
   (try simp only [decide_eq_true_eq, decide_eq_false_iff_not, Int.not_lt, Int.not_le] at h4)
   have hn := (hb.all _ (getDN_mem (l := d.nodes) (i := i) (by omega))).me
   refine .br [.r [(1, X (Xi nodeT d.nodes (i : Int)))], .r [(1, X (Xc0 (fc_nodeCk ({ id := ((d.nodes.getD i default)).id, kind := ((d.nodes.getD i default)).kind, attrs := ((d.nodes.getD i default)).attrs, flow := ((d.nodes.getD i default)).flow, grid := (((d.nodes.getD i default)).grid), draw := ((d.nodes.getD i default)).draw } : Node) (by assumption)) X0))], .r []] ((nodeE ({ id := ((d.nodes.getD i default)).id, kind := ((d.nodes.getD i default)).kind, attrs := ((d.nodes.getD i default)).attrs, flow := ((d.nodes.getD i default)).flow, grid := (((d.nodes.getD i default)).grid), draw := ((d.nodes.getD i default)).draw } : Node)) != 0) (fun h7 => ?_) (fun h7 => ?_)
   ·
    (try simp only [bne_iff_ne, bne_eq_false_iff_eq, ne_eq] at h7)
    have e2 : ((docE d) : Int) = (nodeE ({ id := ((d.nodes.getD i default)).id, kind := ((d.nodes.getD i default)).kind, attrs := ((d.nodes.getD i default)).attrs, flow := ((d.nodes.getD i default)).flow, grid := (((d.nodes.getD i default)).grid), draw := ((d.nodes.getD i default)).draw } : Node)) := by
     exact docE_node (by omega) (I4.2.trans (nodesE_bad (by omega) h7)) h7
    exact .finE [.r []] [] (fun z0 => (VI z0, [])) ((nodeE ({ id := ((d.nodes.getD i default)).id, kind := ((d.nodes.getD i default)).kind, attrs := ((d.nodes.getD i default)).attrs, flow := ((d.nodes.getD i default)).flow, grid := (((d.nodes.getD i default)).grid), draw := ((d.nodes.getD i default)).draw } : Node)) : Int) ((docE d) : Int) e2
   ·
    (try simp only [bne_iff_ne, bne_eq_false_iff_eq, ne_eq] at h7)
    refine .br [.r [(4, Xv 1 ((i : Int) == 0) X0), (5, Xv 1 ((i : Int) == 0) X0), (6, X (Xk ((i : Int) == 0))), (9, Xv 1 (!(((i : Int) == 0) && ((((d.nodes.getD i default)).id) != 1))) X0), (10, Xv 1 (!(((i : Int) == 0) && ((((d.nodes.getD i default)).id) != 1))) X0), (12, Xv 1 ((!(((i : Int) == 0) && ((((d.nodes.getD i default)).id) != 1))) && (decide ((i : Int) > 0))) X0), (14, Xv 1 ((!(((i : Int) == 0) && ((((d.nodes.getD i default)).id) != 1))) && (decide ((i : Int) > 0))) X0), (16, Xv 1 ((!(((i : Int) == 0) && ((((d.nodes.getD i default)).id) != 1))) && (decide ((i : Int) > 0))) (Xn ((i : Int) - 1))), (17, Xv 2 ((!(((i : Int) == 0) && ((((d.nodes.getD i default)).id) != 1))) && (decide ((i : Int) > 0))) (Xi' nodeT d.nodes ((i : Int) - 1) (i - 1))), (18, Xv 1 ((!(((i : Int) == 0) && ((((d.nodes.getD i default)).id) != 1))) && (decide ((i : Int) > 0))) X0), (19, Xv 1 ((!(((i : Int) == 0) && ((((d.nodes.getD i default)).id) != 1))) && (decide ((i : Int) > 0))) X0), (20, Xv 2 ((!(((i : Int) == 0) && ((((d.nodes.getD i default)).id) != 1))) && (decide ((i : Int) > 0))) X0), (21, Xka (!(((i : Int) == 0) && ((((d.nodes.getD i default)).id) != 1))) (decide ((i : Int) > 0))), (22, X (Xk' (((i : Int) == 0) && ((((d.nodes.getD i default)).id) != 1))))]] ((((i : Int) == 0) && ((((d.nodes.getD i default)).id) != 1)) || (decide ((i : Int) > 0) && decide ((((d.nodes.getD i default)).id) ≤ (((d.nodes.getD (i - 1) default)).id)))) (fun h9 => ?_) (fun h9 => ?_)
    ·
     (try simp only [decide_eq_true_eq, decide_eq_false_iff_not, Int.not_lt, Int.not_le, gt_iff_lt, Bool.and_eq_true, Bool.and_eq_false_iff, Bool.not_eq_true', Bool.not_eq_false', Bool.or_eq_true, Bool.or_eq_false_iff, beq_iff_eq, beq_eq_false_iff_ne, ne_eq, bne_iff_ne, bne_eq_false_iff_eq] at h9)
     have e3 : ((docE d) : Int) = 5 := by
      exact docE_node (by omega) (I4.2.trans (nodesE_ord (by omega) h7 (by rcases h9 with q | q; (left; obtain ⟨q1, q2⟩ := q; have q3 : i = 0 := (by omega); subst q3; exact ⟨rfl, q2⟩); (right; omega)))) (by decide)
     exact .finE [.r []] [] (fun z0 => (VI z0, [])) (5 : Int) ((docE d) : Int) e3
    ·
     (try simp only [decide_eq_true_eq, decide_eq_false_iff_not, Int.not_lt, Int.not_le, gt_iff_lt, Bool.and_eq_true, Bool.and_eq_false_iff, Bool.not_eq_true', Bool.not_eq_false', Bool.or_eq_true, Bool.or_eq_false_iff, beq_iff_eq, beq_eq_false_iff_ne, ne_eq, bne_iff_ne, bne_eq_false_iff_eq] at h9)
     refine .back [.r [(0, X (Xn ((i : Int) + 1)))]] [(0, 0)] (ih4 ((i + 1) : Nat) ?_ ?_)
     ·
      exact ⟨by omega, I4.2.trans (nodesE_next (by omega) h7 (by rintro (⟨q1, q2⟩ | q); (subst q1; rcases h9.1 with q | q; (exact q rfl); (exact q2 q)); (rcases h9.2 with q3 | q3 <;> omega)))⟩
     ·
      ((try dsimp only); omega)
  ·
   (try simp only [decide_eq_true_eq, decide_eq_false_iff_not, Int.not_lt, Int.not_le] at h4)
   refine .loop (α := Nat) [.r [(2, X (Xl nodeT d.nodes))]] 120 (fun j => ([(1, .ptr 0 0), (51, VL 9 nodeT d.nodes), (52, VI (d.nodes.length : Int)), (53, VI (j : Int))], [(0, .box [VL 9 nodeT d.nodes])])) (fun j => j ≤ d.nodes.length ∧ allRefsE d.nodes 0 = allRefsE d.nodes j) (fun j => d.nodes.length - j) (0 : Nat) ?_ ?_
   ·
    exact ⟨by omega, rfl⟩
   rintro j I13 ih13
   try dsimp only at I13
   refine .br [.r []] (decide ((j : Int) < (d.nodes.length : Int))) (fun h13 => ?_) (fun h13 => ?_)
   ·
    (try simp only [decide_eq_true_eq, decide_eq_false_iff_not, Int.not_lt, Int.not_le] at h13)
    have hn := hb.all _ (getDN_mem (l := d.nodes) (i := j) (by omega))
    have hs := sort_of (I4.2.trans (nodesE_end (by omega)))
    refine .br [.r [(0, X (Xi nodeT d.nodes (j : Int)))], .r [(4, X (Xc1 192 (fc_refsNd ({ id := ((d.nodes.getD j default)).id, kind := ((d.nodes.getD j default)).kind, attrs := ((d.nodes.getD j default)).attrs, flow := ((d.nodes.getD j default)).flow, grid := (((d.nodes.getD j default)).grid), draw := ((d.nodes.getD j default)).draw } : Node) (by assumption)) X0)), (5, X (Xc0 (fc_refsCk d (((d.nodes.getD j default)).kind) (refsN ({ id := ((d.nodes.getD j default)).id, kind := ((d.nodes.getD j default)).kind, attrs := ((d.nodes.getD j default)).attrs, flow := ((d.nodes.getD j default)).flow, grid := (((d.nodes.getD j default)).grid), draw := ((d.nodes.getD j default)).draw } : Node)) (by assumption) (by assumption)) X0))], .r []] ((refsE (d).nodes (((d.nodes.getD j default)).kind) (refsN ({ id := ((d.nodes.getD j default)).id, kind := ((d.nodes.getD j default)).kind, attrs := ((d.nodes.getD j default)).attrs, flow := ((d.nodes.getD j default)).flow, grid := (((d.nodes.getD j default)).grid), draw := ((d.nodes.getD j default)).draw } : Node)) 0) != 0) (fun h16 => ?_) (fun h16 => ?_)
    ·
     (try simp only [bne_iff_ne, bne_eq_false_iff_eq, ne_eq] at h16)
     have e4 : ((docE d) : Int) = (refsE (d).nodes (((d.nodes.getD j default)).kind) (refsN ({ id := ((d.nodes.getD j default)).id, kind := ((d.nodes.getD j default)).kind, attrs := ((d.nodes.getD j default)).attrs, flow := ((d.nodes.getD j default)).flow, grid := (((d.nodes.getD j default)).grid), draw := ((d.nodes.getD j default)).draw } : Node)) 0) := by
      exact docE_refs (by omega) (I4.2.trans (nodesE_end (by omega))) (I13.2.trans (allR_bad (by omega) h16))
     exact .finE [.r []] [] (fun z0 => (VI z0, [])) ((refsE (d).nodes (((d.nodes.getD j default)).kind) (refsN ({ id := ((d.nodes.getD j default)).id, kind := ((d.nodes.getD j default)).kind, attrs := ((d.nodes.getD j default)).attrs, flow := ((d.nodes.getD j default)).flow, grid := (((d.nodes.getD j default)).grid), draw := ((d.nodes.getD j default)).draw } : Node)) 0) : Int) ((docE d) : Int) e4
    ·
     (try simp only [bne_iff_ne, bne_eq_false_iff_eq, ne_eq] at h16)
     refine .back [.r [(0, X (Xn ((j : Int) + 1)))]] [(0, 0)] (ih13 ((j + 1) : Nat) ?_ ?_)
     ·
      exact ⟨by omega, I13.2.trans (allR_next (by omega) h16)⟩
     ·
      ((try dsimp only); omega)
   ·
    (try simp only [decide_eq_true_eq, decide_eq_false_iff_not, Int.not_lt, Int.not_le] at h13)
    have e5 : ((docE d) : Int) = 0 := by
     exact docE_refs (by omega) (I4.2.trans (nodesE_end (by omega))) (I13.2.trans (allR_end (by omega)))
    exact .finE [.r []] [] (fun z0 => (VI z0, [])) (0 : Int) ((docE d) : Int) e5
end Go.Ch
end
section
namespace Go.Ch
open Go Go.Ab
theorem set_fill {α : Type} [Inhabited α] {l : List α} {i n : Nat} {z x : α} (hn : n = l.length) (hi : i < n) (hx : x = l.getD i default) : (l.take i ++ List.replicate (n - i) z).set i x = l.take (i + 1) ++ List.replicate (n - (i + 1)) z := by
  subst hn
  have h1 : (l.take i).length = i := by simp; omega
  rw [List.set_append, if_neg (by omega), h1, Nat.sub_self, show l.length - i = (l.length - (i + 1)) + 1 by omega, List.replicate_succ, List.set_cons_zero, List.take_succ_eq_append_getElem hi, hx, List.append_assoc]
  simp only [List.getD, List.getElem?_eq_getElem hi, Option.getD_some]
  rfl
theorem set_same {α : Type} [Inhabited α] {l : List α} {i : Nat} {x : α} (hx : x = l.getD i default) : l.set i x = l := by
  subst hx
  by_cases h : i < l.length
  · rw [List.getD_eq_getElem?_getD, List.getElem?_eq_getElem h]; simp
  · rw [List.set_eq_of_length_le (by omega)]
end Go.Ch
end
section
set_option linter.unusedVariables false
set_option linter.unusedSimpArgs false
set_option maxRecDepth 100000
set_option maxHeartbeats 4000000
open Go Go.Proofs Go.Ab
namespace Go.Ch
theorem fc_copyF (l : List Elem) (hn : l.length ≤ 1048576) (hs : ∀ x ∈ l, x.attrs.length ≤ 1048576) : FC Tryz.prog 111 [VL 3 elemT l] (app emp []) (VL 3 elemT l) (app emp []) := by
 refine .go Tryz.f111 ?_
 refine .len 0 (fun hl0 => ?_)
 refine .loop (α := Nat × (List Elem)) [.r [], .r [(1, X (Xl elemT l)), (2, X (Xmz 3 elemT 24 (l.length : Int) (l.length : Int) ({ char := 0, ref := 0, attrs := [] } : Elem) [TI 0, TI 0, TN] ⟨.inl rfl, ⟨.inl rfl, ⟨tw_nil (by decide), trivial⟩⟩⟩))], .r [(1, X (Xl elemT l))]] 64 (fun (i, o) => ([(3, .row 24 l.length), (9, VL 3 elemT l), (10, VI (l.length : Int)), (11, VI (i : Int))], [(24, OR 3 elemT o)])) (fun (i, o) => i ≤ l.length ∧ o = l.take i ++ List.replicate (l.length - i) ({ char := 0, ref := 0, attrs := [] } : Elem)) (fun (i, o) => l.length - i) (0, (List.replicate l.length ({ char := 0, ref := 0, attrs := [] } : Elem))) ?_ ?_
 ·
  exact ⟨by omega, by simp⟩
 rintro ⟨i, o⟩ I3 ih3
 try dsimp only at I3
 have ol : o.length = l.length := by rw [I3.2]; simp; omega
 refine .br [.r []] (decide ((i : Int) < (l.length : Int))) (fun h3 => ?_) (fun h3 => ?_)
 ·
  (try simp only [decide_eq_true_eq, decide_eq_false_iff_not, Int.not_lt, Int.not_le] at h3)
  have hx := hs _ (getDE_mem (l := l) (k := i) (by omega))
  refine .back [.r [(1, X (Xi elemT l (i : Int)))], .r [(8, X (Xan attrT 184 (((l.getD i default)).attrs))), (10, X (Xpn l.length elemT o (i : Int))), (11, X (rowC attrT (((l.getD i default)).attrs) (Xsn l.length 3 elemT 24 o i ((l.getD i default)) [(184, OF 2 attrT (((l.getD i default)).attrs))])))], .r [(0, X (Xn ((i : Int) + 1)))]] [(24, 24)] (ih3 ((i + 1), (o.set i ((l.getD i default)))) ?_ ?_)
  ·
   refine ⟨by omega, ?_⟩
   rw [I3.2]
   exact set_fill rfl (by omega) rfl
  ·
   ((try dsimp only); omega)
 ·
  (try simp only [decide_eq_true_eq, decide_eq_false_iff_not, Int.not_lt, Int.not_le] at h3)
  have e1 : (l : List Elem) = o := by
   rw [I3.2, List.take_of_length_le (by omega), show l.length - i = 0 by omega]; simp
  exact .finE [.r [], .le (.fr 2 [(l.length : Nat) = (List.map elemT o).length] ⟨lm, trivial⟩)] [] (fun z0 => (VL 3 elemT z0, [])) (o : List Elem) (l : List Elem) e1

theorem fc_copyN (n : Node) (hb : NodeB n) : FC Tryz.prog 74 [.t (nodeT n)] (app emp []) (.t (nodeT n)) (app emp []) := by
 refine .go Tryz.f74 ?_
 have b1 := hb.at2
 have b2 := hb.fl2
 have b3 := hb.fl3
 have b4 := hb.ce2
 have b5 := hb.me
 have b6 := hb.dr1
 refine .loop (α := Nat × (List Cell)) [.r [], .r [(2, X (Xan attrT 32 n.attrs))], .r [(2, X (Xc1 72 (fc_copyF n.flow (by assumption) (by assumption)) X0))], .r [(2, X (Xan dopT 112 n.draw))], .r [], .r [(2, X (Xan rectT 184 n.grid.merges))], .r [(2, X (Xan cellT 224 n.grid.cells))], .r []] 280 (fun (i, o) => ([(1, .ptr 0 0), (2, .ptr 8 0), (3, .ptr 152 0), (29, .row 224 o.length), (30, VI (n.grid.cells.length : Int)), (31, VI (i : Int))], [(0, .box [VI n.id, VI n.kind, .row 32 n.attrs.length, VL 3 elemT n.flow, VI n.grid.rows, VI n.grid.cols, VL 5 cellT n.grid.cells, VL 4 rectT n.grid.merges, .row 112 n.draw.length]), (8, .box [VI 0, VI 0, VN, VN, VI 0, VI 0, VN, VN, VN]), (32, OR 2 attrT n.attrs), (112, OR 8 dopT n.draw), (152, .box [VI n.grid.rows, VI n.grid.cols, .row 224 o.length, .row 184 n.grid.merges.length]), (184, OR 4 rectT n.grid.merges), (224, OR 5 cellT o)])) (fun (i, o) => i ≤ n.grid.cells.length ∧ o = n.grid.cells) (fun (i, o) => n.grid.cells.length - i) (0, n.grid.cells) ?_ ?_
 ·
  exact ⟨by omega, rfl⟩
 rintro ⟨i, o⟩ I8 ih8
 try dsimp only at I8
 have ol : o.length = n.grid.cells.length := by rw [I8.2]
 refine .br [.r []] (decide ((i : Int) < (n.grid.cells.length : Int))) (fun h8 => ?_) (fun h8 => ?_)
 ·
  (try simp only [decide_eq_true_eq, decide_eq_false_iff_not, Int.not_lt, Int.not_le] at h8)
  have hc := hb.ce3 (o.getD i default) (by rw [I8.2]; exact getDX_mem (by omega))
  refine .back [.r [(1, X (Xp cellT o (i : Int))), (2, X (Xe cellT o i))], .r [(5, X (Xan attrT 376 (((o.getD i default)).attrs))), (6, X (Xp cellT o (i : Int))), (8, X (rowC attrT (((o.getD i default)).attrs) (Xs 5 cellT 224 o i ((o.getD i default)) [(376, OF 2 attrT (((o.getD i default)).attrs))])))], .r [(0, X (Xn ((i : Int) + 1)))], .le (.eq 29 (.row 224 o.length) (.row 224 ((o.set i ((o.getD i default))).length)) (.of_eq (by simp only [List.length_set]))), .le (.eb 152 2 (.row 224 o.length) (.row 224 ((o.set i ((o.getD i default))).length)) (by simp only [List.length_set]))] [(0, 0), (8, 8), (32, 32), (112, 112), (152, 152), (184, 184), (224, 224)] (ih8 ((i + 1), (o.set i ((o.getD i default)))) ?_ ?_)
  ·
   refine ⟨by omega, ?_⟩
   rw [I8.2]; exact set_same rfl
  ·
   ((try dsimp only); omega)
 ·
  (try simp only [decide_eq_true_eq, decide_eq_false_iff_not, Int.not_lt, Int.not_le] at h8)
  have e1 : (n : Node) = ({ id := n.id, kind := n.kind, attrs := n.attrs, flow := n.flow, grid := ({ rows := n.grid.rows, cols := n.grid.cols, cells := o, merges := n.grid.merges } : Grid), draw := n.draw } : Node) := by
   rw [I8.2]
  exact .finVE [.r [], .r []] [.fR 0 [(n.attrs.length : Nat) = (List.map attrT n.attrs).length, (o.length : Nat) = (List.map cellT o).length, (n.grid.merges.length : Nat) = (List.map rectT n.grid.merges).length, (n.draw.length : Nat) = (List.map dopT n.draw).length] ⟨lm, lm, lm, lm, trivial⟩] [] (fun z0 => (.t (nodeT z0), [])) (({ id := n.id, kind := n.kind, attrs := n.attrs, flow := n.flow, grid := ({ rows := n.grid.rows, cols := n.grid.cols, cells := o, merges := n.grid.merges } : Grid), draw := n.draw } : Node) : Node) (n : Node) e1

theorem fc_copyD (d : Doc) (hb : DocB d) : FC Tryz.prog 36 [.t (docT d)] (app emp []) (.t (docT d)) (app emp []) := by
 refine .go Tryz.f36 ?_
 have hl := hb.len
 refine .loop (α := Nat × (List Node)) [.r [], .r [(2, X (Xl nodeT d.nodes)), (3, X (Xmz 9 nodeT 40 (d.nodes.length : Int) (d.nodes.length : Int) ({ id := 0, kind := 0, attrs := [], flow := [], grid := ({ rows := 0, cols := 0, cells := [], merges := [] } : Grid), draw := [] } : Node) [TI 0, TI 0, TN, TN, TI 0, TI 0, TN, TN, TN] ⟨.inl rfl, ⟨.inl rfl, ⟨tw_nil (by decide), ⟨tw_nil (by decide), ⟨.inl rfl, ⟨.inl rfl, ⟨tw_nil (by decide), ⟨tw_nil (by decide), ⟨tw_nil (by decide), trivial⟩⟩⟩⟩⟩⟩⟩⟩⟩))], .r [(2, X (Xl nodeT d.nodes))], .le (.eb 56 0 (.row 40 d.nodes.length) (.row 40 ((List.replicate d.nodes.length ({ id := 0, kind := 0, attrs := [], flow := [], grid := ({ rows := 0, cols := 0, cells := [], merges := [] } : Grid), draw := [] } : Node)).length)) (by simp only [List.length_replicate]))] 104 (fun (i, o) => ([(2, .ptr 8 0), (3, .ptr 56 0), (12, VL 9 nodeT d.nodes), (13, VI (d.nodes.length : Int)), (14, VI (i : Int))], [(8, .box [VN]), (40, OR 9 nodeT o), (56, .box [.row 40 o.length])])) (fun (i, o) => i ≤ d.nodes.length ∧ o = d.nodes.take i ++ List.replicate (d.nodes.length - i) ({ id := 0, kind := 0, attrs := [], flow := [], grid := ({ rows := 0, cols := 0, cells := [], merges := [] } : Grid), draw := [] } : Node)) (fun (i, o) => d.nodes.length - i) (0, (List.replicate d.nodes.length ({ id := 0, kind := 0, attrs := [], flow := [], grid := ({ rows := 0, cols := 0, cells := [], merges := [] } : Grid), draw := [] } : Node))) ?_ ?_
 ·
  exact ⟨by omega, by simp⟩
 rintro ⟨i, o⟩ I3 ih3
 try dsimp only at I3
 have ol : o.length = d.nodes.length := by rw [I3.2]; simp; omega
 refine .br [.r []] (decide ((i : Int) < (d.nodes.length : Int))) (fun h3 => ?_) (fun h3 => ?_)
 ·
  (try simp only [decide_eq_true_eq, decide_eq_false_iff_not, Int.not_lt, Int.not_le] at h3)
  have hx := hb.all _ (getDN_mem (l := d.nodes) (i := i) (by omega))
  refine .back [.r [(1, X (Xi nodeT d.nodes (i : Int)))], .r [(4, X (Xc1 192 (fc_copyN ({ id := ((d.nodes.getD i default)).id, kind := ((d.nodes.getD i default)).kind, attrs := ((d.nodes.getD i default)).attrs, flow := ((d.nodes.getD i default)).flow, grid := (((d.nodes.getD i default)).grid), draw := ((d.nodes.getD i default)).draw } : Node) (by assumption)) X0)), (5, X (Xp nodeT o (i : Int))), (6, X (Xs 9 nodeT 40 o i ({ id := (({ id := ((d.nodes.getD i default)).id, kind := ((d.nodes.getD i default)).kind, attrs := ((d.nodes.getD i default)).attrs, flow := ((d.nodes.getD i default)).flow, grid := (((d.nodes.getD i default)).grid), draw := ((d.nodes.getD i default)).draw } : Node)).id, kind := (({ id := ((d.nodes.getD i default)).id, kind := ((d.nodes.getD i default)).kind, attrs := ((d.nodes.getD i default)).attrs, flow := ((d.nodes.getD i default)).flow, grid := (((d.nodes.getD i default)).grid), draw := ((d.nodes.getD i default)).draw } : Node)).kind, attrs := (({ id := ((d.nodes.getD i default)).id, kind := ((d.nodes.getD i default)).kind, attrs := ((d.nodes.getD i default)).attrs, flow := ((d.nodes.getD i default)).flow, grid := (((d.nodes.getD i default)).grid), draw := ((d.nodes.getD i default)).draw } : Node)).attrs, flow := (({ id := ((d.nodes.getD i default)).id, kind := ((d.nodes.getD i default)).kind, attrs := ((d.nodes.getD i default)).attrs, flow := ((d.nodes.getD i default)).flow, grid := (((d.nodes.getD i default)).grid), draw := ((d.nodes.getD i default)).draw } : Node)).flow, grid := ((({ id := ((d.nodes.getD i default)).id, kind := ((d.nodes.getD i default)).kind, attrs := ((d.nodes.getD i default)).attrs, flow := ((d.nodes.getD i default)).flow, grid := (((d.nodes.getD i default)).grid), draw := ((d.nodes.getD i default)).draw } : Node)).grid), draw := (({ id := ((d.nodes.getD i default)).id, kind := ((d.nodes.getD i default)).kind, attrs := ((d.nodes.getD i default)).attrs, flow := ((d.nodes.getD i default)).flow, grid := (((d.nodes.getD i default)).grid), draw := ((d.nodes.getD i default)).draw } : Node)).draw } : Node)))], .r [(0, X (Xn ((i : Int) + 1)))], .le (.eb 56 0 (.row 40 o.length) (.row 40 ((o.set i ({ id := (({ id := ((d.nodes.getD i default)).id, kind := ((d.nodes.getD i default)).kind, attrs := ((d.nodes.getD i default)).attrs, flow := ((d.nodes.getD i default)).flow, grid := (((d.nodes.getD i default)).grid), draw := ((d.nodes.getD i default)).draw } : Node)).id, kind := (({ id := ((d.nodes.getD i default)).id, kind := ((d.nodes.getD i default)).kind, attrs := ((d.nodes.getD i default)).attrs, flow := ((d.nodes.getD i default)).flow, grid := (((d.nodes.getD i default)).grid), draw := ((d.nodes.getD i default)).draw } : Node)).kind, attrs := (({ id := ((d.nodes.getD i default)).id, kind := ((d.nodes.getD i default)).kind, attrs := ((d.nodes.getD i default)).attrs, flow := ((d.nodes.getD i default)).flow, grid := (((d.nodes.getD i default)).grid), draw := ((d.nodes.getD i default)).draw } : Node)).attrs, flow := (({ id := ((d.nodes.getD i default)).id, kind := ((d.nodes.getD i default)).kind, attrs := ((d.nodes.getD i default)).attrs, flow := ((d.nodes.getD i default)).flow, grid := (((d.nodes.getD i default)).grid), draw := ((d.nodes.getD i default)).draw } : Node)).flow, grid := ((({ id := ((d.nodes.getD i default)).id, kind := ((d.nodes.getD i default)).kind, attrs := ((d.nodes.getD i default)).attrs, flow := ((d.nodes.getD i default)).flow, grid := (((d.nodes.getD i default)).grid), draw := ((d.nodes.getD i default)).draw } : Node)).grid), draw := (({ id := ((d.nodes.getD i default)).id, kind := ((d.nodes.getD i default)).kind, attrs := ((d.nodes.getD i default)).attrs, flow := ((d.nodes.getD i default)).flow, grid := (((d.nodes.getD i default)).grid), draw := ((d.nodes.getD i default)).draw } : Node)).draw } : Node)).length)) (by simp only [List.length_set]))] [(8, 8), (40, 40), (56, 56)] (ih3 ((i + 1), (o.set i ({ id := (({ id := ((d.nodes.getD i default)).id, kind := ((d.nodes.getD i default)).kind, attrs := ((d.nodes.getD i default)).attrs, flow := ((d.nodes.getD i default)).flow, grid := (((d.nodes.getD i default)).grid), draw := ((d.nodes.getD i default)).draw } : Node)).id, kind := (({ id := ((d.nodes.getD i default)).id, kind := ((d.nodes.getD i default)).kind, attrs := ((d.nodes.getD i default)).attrs, flow := ((d.nodes.getD i default)).flow, grid := (((d.nodes.getD i default)).grid), draw := ((d.nodes.getD i default)).draw } : Node)).kind, attrs := (({ id := ((d.nodes.getD i default)).id, kind := ((d.nodes.getD i default)).kind, attrs := ((d.nodes.getD i default)).attrs, flow := ((d.nodes.getD i default)).flow, grid := (((d.nodes.getD i default)).grid), draw := ((d.nodes.getD i default)).draw } : Node)).attrs, flow := (({ id := ((d.nodes.getD i default)).id, kind := ((d.nodes.getD i default)).kind, attrs := ((d.nodes.getD i default)).attrs, flow := ((d.nodes.getD i default)).flow, grid := (((d.nodes.getD i default)).grid), draw := ((d.nodes.getD i default)).draw } : Node)).flow, grid := ((({ id := ((d.nodes.getD i default)).id, kind := ((d.nodes.getD i default)).kind, attrs := ((d.nodes.getD i default)).attrs, flow := ((d.nodes.getD i default)).flow, grid := (((d.nodes.getD i default)).grid), draw := ((d.nodes.getD i default)).draw } : Node)).grid), draw := (({ id := ((d.nodes.getD i default)).id, kind := ((d.nodes.getD i default)).kind, attrs := ((d.nodes.getD i default)).attrs, flow := ((d.nodes.getD i default)).flow, grid := (((d.nodes.getD i default)).grid), draw := ((d.nodes.getD i default)).draw } : Node)).draw } : Node))) ?_ ?_)
  ·
   refine ⟨by omega, ?_⟩
   rw [I3.2]
   exact set_fill rfl (by omega) rfl
  ·
   ((try dsimp only); omega)
 ·
  (try simp only [decide_eq_true_eq, decide_eq_false_iff_not, Int.not_lt, Int.not_le] at h3)
  have e1 : (d : Doc) = ({ nodes := o } : Doc) := by
   rw [I3.2, List.take_of_length_le (by omega), show d.nodes.length - i = 0 by omega]; simp
  exact .finVE [.r []] [.fR 0 [(o.length : Nat) = (List.map nodeT o).length] ⟨lm, trivial⟩] [] (fun z0 => (.t (docT z0), [])) (({ nodes := o } : Doc) : Doc) (d : Doc) e1
end Go.Ch
end
section
set_option linter.unusedVariables false
namespace Go.Ch
open Go Go.Ab

/-! ### Values of items are values of operations -/
theorem both_mem : ∀ (a b : List Attr) (p : Attr × Attr), p ∈ bothL a b → (p.1 ∈ a ∨ p.1 = default) ∧ (p.2 ∈ b ∨ p.2 = default) := by
  intro a b
  induction a, b using bothL.induct with
  | case1 => intro p hp; simp [bothL] at hp
  | case2 y b ih =>
    intro p hp
    rw [bothL, List.mem_cons] at hp
    rcases hp with rfl | hp
    · exact ⟨.inr rfl, .inl List.mem_cons_self⟩
    · exact ⟨(ih p hp).1, (ih p hp).2.imp (List.mem_cons_of_mem _) id⟩
  | case3 x a ih =>
    intro p hp
    rw [bothL, List.mem_cons] at hp
    rcases hp with rfl | hp
    · exact ⟨.inl List.mem_cons_self, .inr rfl⟩
    · exact ⟨(ih p hp).1.imp (List.mem_cons_of_mem _) id, (ih p hp).2⟩
  | case4 x a y b h ih =>
    intro p hp
    rw [bothL, if_pos h, List.mem_cons] at hp
    rcases hp with rfl | hp
    · exact ⟨.inl List.mem_cons_self, .inr rfl⟩
    · exact ⟨(ih p hp).1.imp (List.mem_cons_of_mem _) id, (ih p hp).2⟩
  | case5 x a y b h k ih =>
    intro p hp
    rw [bothL, if_neg h, if_pos k, List.mem_cons] at hp
    rcases hp with rfl | hp
    · exact ⟨.inr rfl, .inl List.mem_cons_self⟩
    · exact ⟨(ih p hp).1, (ih p hp).2.imp (List.mem_cons_of_mem _) id⟩
  | case6 x a y b h k ih =>
    intro p hp
    rw [bothL, if_neg h, if_neg k, List.mem_cons] at hp
    rcases hp with rfl | hp
    · exact ⟨.inl List.mem_cons_self, .inl List.mem_cons_self⟩
    · exact ⟨(ih p hp).1.imp (List.mem_cons_of_mem _) id, (ih p hp).2.imp (List.mem_cons_of_mem _) id⟩
def ValsB (l : List Attr) : Prop := ∀ a ∈ l, a.val.size ≤ 1048576
theorem vals_raw {a b : List Attr} (ha : ValsB a) (hb : ValsB b) : ValsB (fm rawG a b) := by
  intro z hz
  unfold fm at hz
  obtain ⟨p, hp, hg⟩ := List.mem_filterMap.1 hz
  obtain ⟨h1, h2⟩ := both_mem a b p hp
  have d0 : (default : Attr).val.size ≤ 1048576 := by decide
  unfold rawG at hg
  split at hg
  · cases hg
    rcases h1 with h | h
    · exact ha _ h
    · rw [h]; exact d0
  · split at hg
    · cases hg
    · cases hg
      rcases h2 with h | h
      · exact hb _ h
      · rw [h]; exact d0
theorem putK_mem {α : Type} {key : α → Int} : ∀ {l : List α} {x y : α}, y ∈ putK key l x → y = x ∨ y ∈ l
  | [], x, y, h => by simp [putK] at h; exact .inl h
  | z :: l, x, y, h => by
    rw [putK] at h
    split at h
    · rcases List.mem_cons.1 h with h | h
      · exact .inl h
      · exact .inr (List.mem_cons_of_mem _ h)
    · rcases List.mem_cons.1 h with h | h
      · exact .inr (h ▸ List.mem_cons_self)
      · exact (putK_mem h).imp id (List.mem_cons_of_mem _)
theorem findA_mem {l : List (Int × List Attr)} {k : Int} (h : ∀ p ∈ l, ValsB p.2) : ValsB (findA l k) := by
  unfold findA
  cases hf : l.find? (fun p => p.1 == k) with
  | none => intro a ha; cases ha
  | some p => exact h p (List.mem_of_find?_eq_some hf)
theorem play_vals : ∀ (l : List DOp) (S : List DItem × List (Int × List Attr)), (∀ o ∈ l, o.vl.size ≤ 1048576) → (∀ p ∈ S.2, ValsB p.2) → ∀ p ∈ (l.foldl stepP S).2, ValsB p.2
  | [], S, _, h => h
  | o :: l, S, hl, h => by
    rw [List.foldl_cons]
    refine play_vals l _ (fun o ho => hl o (List.mem_cons_of_mem _ ho)) ?_
    unfold stepP
    split
    · intro p hp
      rcases putK_mem hp with rfl | hp
      · exact vals_raw (findA_mem h) (fun a ha => by rw [List.mem_singleton.1 ha]; exact hl o List.mem_cons_self)
      · exact h p hp
    · split
      · exact h
      · exact h
theorem raw_mem {l : List DOp} {x : DItem} (h : x ∈ rawI l) : x ∈ itsF l := by
  unfold rawI at h
  rcases List.mem_append.1 h with h | h
  · exact (walkI_below _ h).1
  · exact (srtO_perm ltN _).mem_iff.1 (List.mem_filter.1 h).1
theorem raw_vals {l : List DOp} (h : ∀ o ∈ l, o.vl.size ≤ 1048576) {x : DItem} (hx : x ∈ rawI l) : ValsB x.attrs := by
  have hm := raw_mem hx
  unfold itsF at hm
  obtain ⟨y, hy, rfl⟩ := List.mem_map.1 hm
  exact findA_mem (play_vals l ([], []) h (fun p hp => by cases hp))
theorem getA_size {l : List Attr} (h : ValsB l) (n : ByteArray) : ∀ (k i : Nat), l.length - i = k → (getA l n i).size ≤ 1048576
  | 0, i, hk => by rw [getA, if_neg (by omega)]; decide
  | k + 1, i, hk => by
    rw [getA, if_pos (by omega)]
    split
    · exact h _ (getDX_mem (by omega))
    · exact getA_size h n k (i + 1) (by omega)
theorem shown_le {l : List DItem} : ∀ (n i : Nat), l.length - i = n → i ≤ l.length → shownF l i ≤ l.length
  | 0, i, h, hi => by rw [shownF, if_neg (by omega)]; omega
  | n + 1, i, h, hi => by
    rw [shownF, if_pos (by omega)]
    split
    · exact shown_le n (i + 1) (by omega) (by omega)
    · omega
theorem raw_len {l : List DOp} (ho : ∀ o ∈ l, 0 < o.itm) : (rawI l).length ≤ 2 * l.length := by
  obtain ⟨r, hr⟩ := itsF_ok ho
  have h1 : (walkF l).length ≤ (itsF l).length := walk_sub hr _ (Int.le_refl 0)
  have h2 := List.length_filter_le (fun x : DItem => decide (x.item ∉ (walkF l).map DItem.item)) (srtN (itsF l))
  have h3 := itsF_len ho
  have h4 := srtN_len (itsF l)
  unfold rawI
  rw [List.length_append]
  omega

/-! ### Numbers -/
def keyNode : ByteArray := { data := #[110, 111, 100, 101] }
def itoaB (v : Int) : ByteArray := ⟨(Lib.itoa v).toArray⟩
/-- A number as it is written. -/
def numF (s : ByteArray) : Option Int := match Lib.atoiAll s.data.toList with
  | .ok v => if seq (itoaB v) s = true then some v else none
  | _ => none
theorem num_ok {s : ByteArray} {v : Int} (h : Lib.atoiAll s.data.toList = .ok v) : numF s = if seq (itoaB v) s = true then some v else none := by unfold numF; rw [h]
theorem num_no {s : ByteArray} (h : ∀ v, Lib.atoiAll s.data.toList ≠ .ok v) : numF s = none := by
  unfold numF
  split
  · rename_i v hv; exact absurd hv (h v)
  · rfl
/-- The text that an item is. -/
def itemD (l : List Node) (x : DItem) : Option Int := (numF (getA x.attrs keyNode 0)).bind fun v => if hasN l v = true ∧ (l.getD (lobN l v) default).kind = 1 then some v else none
def shownD (n : Node) : List DItem := (rawI n.draw).take (shownF (rawI n.draw) 0)
def itemsD (l : List Node) (n : Node) : List Int := (shownD n).filterMap (itemD l)
theorem items_next {l : List Node} {n : Node} {i : Nat} (h : i < (shownD n).length) : ((shownD n).take (i + 1)).filterMap (itemD l) = ((shownD n).take i).filterMap (itemD l) ++ (itemD l ((shownD n).getD i default)).toList := filM_succ _ h
theorem itemD_none {l : List Node} {x : DItem} (h : numF (getA x.attrs keyNode 0) = none) : itemD l x = none := by unfold itemD; rw [h]; rfl
theorem itemD_some {l : List Node} {x : DItem} {v : Int} (h : numF (getA x.attrs keyNode 0) = some v) : itemD l x = if hasN l v = true ∧ (l.getD (lobN l v) default).kind = 1 then some v else none := by unfold itemD; rw [h]; rfl
theorem draw_of {n : Node} (h : nodeE n = 0) : drawE n.draw 0 = 0 := by
  have h0 : ∀ {m : Node}, m.draw.length = 0 → drawE m.draw 0 = 0 := fun {m} h => by rw [drawE, if_neg (by omega)]
  by_cases hd : n.draw.length = 0
  · exact h0 hd
  · unfold nodeE at h
    split at h
    · cases h
    split at h
    · cases h
    split at h
    · rename_i q; exact absurd h q
    split at h
    · cases h
    rename_i q1
    have hk : hasD n.kind = true := by
      cases hq : hasD n.kind
      · exact absurd (.inr (.inr ⟨by omega, hq⟩)) q1
      · rfl
    unfold hasD at hk
    simp only [Bool.or_eq_true, beq_iff_eq] at hk
    split at h
    · rename_i q2
      unfold hasT hasL at q2
      simp only [Bool.or_eq_true, beq_iff_eq] at q2
      omega
    split at h
    · rename_i q2
      unfold hasG at q2
      simp only [Bool.or_eq_true, beq_iff_eq] at q2
      omega
    · exact h
theorem items_len {l : List Node} {n : Node} (hb : NodeB n) (he : nodeE n = 0) : (itemsD l n).length ≤ 2097152 := by
  have ho := drawE_pos (draw_of he)
  have h1 := raw_len ho
  have h2 := hb.dr1
  have h3 : (itemsD l n).length ≤ (shownD n).length := List.length_filterMap_le _ _
  have h4 : (shownD n).length ≤ (rawI n.draw).length := by unfold shownD; rw [List.length_take]; omega
  omega
end Go.Ch
end
section
set_option linter.unusedVariables false
set_option linter.unusedSimpArgs false
set_option maxRecDepth 100000
set_option maxHeartbeats 4000000
open Go Go.Proofs Go.Ab
namespace Go.Ch
theorem two_rel {st : Store} {m : Ab.Place} {w : World} {ok : Nat → Prop} {a b : AVal} {u v : Value} (h1 : VRel st m w ok a u) (h2 : VRel st m w ok b v) : VRel st m w ok (.tup [a, b]) (.tuple #[u, v]) := by
  refine .tup _ [u, v] rfl (fun i x y e1 e2 => ?_)
  match i with
  | 0 => cases e1; cases e2; exact h1
  | 1 => cases e1; cases e2; exact h2
  | i + 2 => cases e1
theorem fc_itoa (n : Int) (h : -9223372036854775808 ≤ n ∧ n ≤ 9223372036854775807) : FC Tryz.prog 103 [VI n] (app emp []) (VS (itoaB n)) (app emp []) := by
  refine FC.ofTab (us := [.int .i64 n]) (v := .string ⟨(Lib.itoa n).toArray⟩) (fun st m w ok xs hl hv => ?_) (fun st m w ok => .t _ _ (.sc _ rfl)) (fun w hT => ?_)
  · match xs, hl with
    | [x], _ =>
      have := VRel.sc_inv (hv 0 _ _ rfl rfl)
      rw [this]
  · have ht : Lib.TabIs Tryz.prog w "internal/strconv.uint64pow10" .u64 Lib.pow10Tab := by
      obtain ⟨cs, h1, h2⟩ := hT.var ("internal/strconv.uint64pow10", _) (List.mem_cons_self ..) 4 (by kernel_rfl)
      unfold Lib.TabIs
      rw [← h2]; exact h1
    refine (Tryz.strconv_Itoa n h.1 h.2 w ht).mono ?_
    rintro e w' ⟨rfl, k, os, rfl⟩
    refine ⟨rfl, rfl, rfl, rfl, ?_, fun b hb => ?_⟩
    · show w.heap.size ≤ (w.heap ++ os).size
      simp
    · show (w.heap ++ os)[b]? = _
      rw [Array.getElem?_append_left hb]
theorem fc_atoi1 (s : ByteArray) (hs : s.size ≤ 1048576) (v : Int) (h : Lib.atoiAll s.data.toList = .ok v) : FC Tryz.prog 116 [VS s] (app emp []) (.tup [VI v, .t (.sc .nilIface)]) (app emp []) := by
  refine FC.ofTab (us := [.string s]) (v := .tuple #[.int .i64 v, .nilIface]) (fun st m w ok xs hl hv => ?_) (fun st m w ok => two_rel (.t _ _ (.sc _ rfl)) (.t _ _ (.sc _ rfl))) (fun w hT => ?_)
  · match xs, hl with
    | [x], _ =>
      have := VRel.sc_inv (hv 0 _ _ rfl rfl)
      rw [this]
  · refine (Tryz.strconv_Atoi_ok s (by omega) v h w).mono ?_
    rintro e w' ⟨rfl, hw⟩
    refine ⟨rfl, ?_⟩
    rcases hw with rfl | ⟨t, rfl⟩
    · exact RowKit.Below.refl _ _
    · exact Lib.bytesWorld_below _ _ _
/-- What Atoi gives beside an error. -/
def atoiZ (s : ByteArray) : Int := match Lib.atoiAll s.data.toList with
  | .range => Lib.atoiSat s.data.toList
  | _ => 0
theorem fc_atoi0 (s : ByteArray) (hs : s.size ≤ 1048576) (h : ∀ v, Lib.atoiAll s.data.toList ≠ .ok v) : FC Tryz.prog 116 [VS s] (app emp []) (.tup [VI (atoiZ s), .ifc]) (app emp []) := by
  refine FC.ofTabR (us := [.string s]) (R := fun u => ∃ t x, u = .tuple #[.int .i64 (atoiZ s), .iface t x]) (fun st m w ok xs hl hv => ?_) (fun st m w ok u hu => ?_) (fun w hT => ?_)
  · match xs, hl with
    | [x], _ =>
      have := VRel.sc_inv (hv 0 _ _ rfl rfl)
      rw [this]
  · obtain ⟨t, x, rfl⟩ := hu
    exact two_rel (.t _ _ (.sc _ rfl)) (.ifc _ _)
  · have sy : ∃ tp p, w.var? Tryz.prog "strconv.ErrSyntax" = some #[.iface tp p] := by
      obtain ⟨cs, h1, tp, p, h2⟩ := hT.var ("strconv.ErrSyntax", _) (List.mem_cons_of_mem _ (List.mem_cons_self ..)) 2 (by kernel_rfl)
      exact ⟨tp, p, by rw [← h2]; exact h1⟩
    have ra : ∃ tp p, w.var? Tryz.prog "strconv.ErrRange" = some #[.iface tp p] := by
      obtain ⟨cs, h1, tp, p, h2⟩ := hT.var ("strconv.ErrRange", _) (List.mem_cons_of_mem _ (List.mem_cons_of_mem _ (List.mem_cons_self ..))) 3 (by kernel_rfl)
      exact ⟨tp, p, by rw [← h2]; exact h1⟩
    cases ha : Lib.atoiAll s.data.toList with
    | ok v => exact absurd ha (h v)
    | range =>
      have hz : atoiZ s = Lib.atoiSat s.data.toList := by unfold atoiZ; rw [ha]
      obtain ⟨tp, p, hv⟩ := ra
      refine (Tryz.strconv_Atoi_range s (by omega) ha (.iface tp p) w (by have h0 := World.var?_cell Tryz.laysC172.m16 hv 0; exact h0) (Or.inr ⟨tp, p, rfl⟩)).mono ?_
      rintro e w' ⟨N, rfl, _, _, hb⟩
      exact ⟨⟨_, rfl, _, _, by rw [hz]⟩, hb⟩
    | _ =>
      have hz : atoiZ s = 0 := by unfold atoiZ; rw [ha]
      obtain ⟨tp, p, hv⟩ := sy
      refine (Tryz.strconv_Atoi_syntax s (by omega) ha (.iface tp p) w (by have h0 := World.var?_cell Tryz.laysC172.m15 hv 0; exact h0) (Or.inr ⟨tp, p, rfl⟩)).mono ?_
      rintro e w' ⟨N, rfl, _, _, hb⟩
      exact ⟨⟨_, rfl, _, _, by rw [hz]⟩, hb⟩
end Go.Ch
end
section
set_option linter.unusedVariables false
set_option linter.unusedSimpArgs false
set_option maxRecDepth 100000
set_option maxHeartbeats 4000000
open Go Go.Proofs Go.Ab
namespace Go.Ch
theorem fc_itemsD (d : Doc) (n : Node) (hl : d.nodes.length ≤ 1048576) (hs : SortN d.nodes) (hb : NodeB n) (he : nodeE n = 0) : FC Tryz.prog 79 [.t (docT d), .t (nodeT n)] (app emp []) (VL 1 intT (itemsD d.nodes n)) (app emp []) := by
 refine .go Tryz.f79 ?_
 have b1 := hb.dr1
 have ho := drawE_pos (draw_of he)
 have hrl := raw_len ho
 have hsh : shownF (rawI n.draw) 0 ≤ (rawI n.draw).length := shown_le _ 0 rfl (Nat.zero_le _)
 have hsl : (shownD n).length ≤ 2097152 := by unfold shownD; rw [List.length_take]; omega
 refine .loop (α := Nat × (List Int)) [.r [], .r [], .r [(2, X (Xc1 48 (fc_rawI n.draw (by omega) (by assumption)) X0))], .r [(2, X (Xc0 (fc_dshown (rawI n.draw)) X0)), (3, X (Xst ditT 4 (rawI n.draw) (shownF (rawI n.draw) 0 : Int)) (by omega)), (4, X (Xl ditT ((rawI n.draw).take (shownF (rawI n.draw) 0))))], .le (.eq 20 (VL 4 ditT ((rawI n.draw).take (shownF (rawI n.draw) 0))) (VL 4 ditT (shownD n)) (.of_eq rfl)), .le (.eq 21 (VI (((rawI n.draw).take (shownF (rawI n.draw) 0)).length : Int)) (VI ((shownD n).length : Int)) (.of_eq rfl)), .le (.nR 5 1)] 113 (fun (i, o) => ([(2, .ptr 0 0), (5, .row 112 o.length), (20, VL 4 ditT (shownD n)), (21, VI ((shownD n).length : Int)), (22, VI (i : Int))], [(0, .box [VL 9 nodeT d.nodes]), (112, OR 1 intT o)])) (fun (i, o) => i ≤ (shownD n).length ∧ o = ((shownD n).take i).filterMap (itemD d.nodes)) (fun (i, o) => (shownD n).length - i) (0, []) ?_ ?_
 ·
  exact ⟨by omega, rfl⟩
 rintro ⟨i, o⟩ I4 ih4
 try dsimp only at I4
 have ol : o.length ≤ i := by rw [I4.2]; exact Nat.le_trans (List.length_filterMap_le _ _) (by rw [List.length_take]; omega)
 refine .br [.r []] (decide ((i : Int) < ((shownD n).length : Int))) (fun h4 => ?_) (fun h4 => ?_)
 ·
  (try simp only [decide_eq_true_eq, decide_eq_false_iff_not, Int.not_lt, Int.not_le] at h4)
  refine .mid [.r [(0, X (Xi ditT (shownD n) (i : Int)))], .r [(2, X (Xc0 (fc_get ((((shownD n).getD i default)).attrs) ({ data := #[110, 111, 100, 101] })) X0))]] ?_
  have hxm : (shownD n).getD i default ∈ shownD n := getDX_mem (by omega)
  have hsz : (getA (((shownD n).getD i default)).attrs { data := #[110, 111, 100, 101] } 0).size ≤ 1048576 := getA_size (raw_vals (fun o ho => (hb.dr2 o ho).2.2) (List.mem_of_mem_take hxm)) _ _ 0 rfl
  rcases hav : Lib.atoiAll (getA (((shownD n).getD i default)).attrs { data := #[110, 111, 100, 101] } 0).data.toList with v | _ | _
  ·
   have hv := hav
   have hvb := Lib.atoiAll_bounds hav
   have hnum := num_ok hav
   refine .br [.r [(1, X (Xc0 (fc_atoi1 (getA ((((shownD n).getD i default)).attrs) ({ data := #[110, 111, 100, 101] }) 0) (by assumption) v hv) X0))], .r [(4, Xv 1 (!false) (Xc0 (fc_itoa v (by omega)) X0)), (6, Xv 2 (!false) X0), (7, X (Xk' false))]] (false || !(seq (itoaB v) (getA ((((shownD n).getD i default)).attrs) ({ data := #[110, 111, 100, 101] }) 0))) (fun h8 => ?_) (fun h8 => ?_)
   ·
    (try simp only [Bool.not_eq_true', Bool.not_eq_false', Bool.or_eq_true, Bool.or_eq_false_iff] at h8)
    refine .back [.r [(0, X (Xn ((i : Int) + 1)))]] [(0, 0), (112, 112)] (ih4 ((i + 1), o) ?_ ?_)
    ·
     refine ⟨by omega, ?_⟩
     rw [items_next (by omega), itemD_none (hnum.trans (if_neg (by rw [h8.resolve_left (by decide)]; decide))), I4.2]; simp
    ·
     ((try dsimp only); omega)
   ·
    (try simp only [Bool.not_eq_true', Bool.not_eq_false', Bool.or_eq_true, Bool.or_eq_false_iff] at h8)
    refine .br [.r [(2, X (Xc0 (fc_findN d v (by assumption) (by assumption)) X0))], .r [(3, Xv 1 (hasN (d).nodes v) X0), (5, Xv 2 (hasN (d).nodes v) (Xi nodeT d.nodes (lobN (d).nodes v : Int)) (fun hg => by skip; exact ⟨(by omega), (by have := (hasN_iff.1 hg).1; omega)⟩)), (6, Xv 1 (hasN (d).nodes v) X0), (7, Xv 1 (hasN (d).nodes v) X0), (8, Xv 1 (hasN (d).nodes v) X0), (9, X (Xk (hasN (d).nodes v)))]] ((hasN (d).nodes v) && ((((d.nodes.getD (lobN (d).nodes v) default)).kind) == 1)) (fun h10 => ?_) (fun h10 => ?_)
    ·
     (try simp only [Bool.and_eq_true, Bool.and_eq_false_iff, Bool.not_eq_true', Bool.not_eq_false', beq_iff_eq, beq_eq_false_iff_ne, ne_eq] at h10)
     refine .back [.r [(3, X (rowC intT [v] (Xap 1 intT 112 o [v])))], .r [(0, X (Xn ((i : Int) + 1)))]] [(0, 0), (112, 112)] (ih4 ((i + 1), (o ++ [v])) ?_ ?_)
     ·
      refine ⟨by omega, ?_⟩
      rw [items_next (by omega), itemD_some (hnum.trans (if_pos (by simpa using h8))), if_pos h10, I4.2]; rfl
     ·
      ((try dsimp only); omega)
    ·
     (try simp only [Bool.and_eq_true, Bool.and_eq_false_iff, Bool.not_eq_true', Bool.not_eq_false', beq_iff_eq, beq_eq_false_iff_ne, ne_eq] at h10)
     refine .back [.r [(0, X (Xn ((i : Int) + 1)))]] [(0, 0), (112, 112)] (ih4 ((i + 1), o) ?_ ?_)
     ·
      refine ⟨by omega, ?_⟩
      rw [items_next (by omega), itemD_some (hnum.trans (if_pos (by simpa using h8))), if_neg (by rintro ⟨q1, q2⟩; rcases h10 with q | q; (rw [q1] at q; cases q); (exact q q2)), I4.2]; simp
     ·
      ((try dsimp only); omega)
  ·
   have hv : ∀ v, Lib.atoiAll (getA (((shownD n).getD i default)).attrs { data := #[110, 111, 100, 101] } 0).data.toList ≠ .ok v := fun v q => by rw [hav] at q; cases q
   have hnum := num_no hv
   refine .br [.r [(1, X (Xc0 (fc_atoi0 (getA ((((shownD n).getD i default)).attrs) ({ data := #[110, 111, 100, 101] }) 0) (by assumption) hv) X0))], .r [(3, X (Xskip (!true) (.junk)) rfl), (4, X (Xskip (!true) (.junk)) rfl), (5, X (Xskip (!true) (.junk)) rfl), (6, X (Xskip (!true) (VB false)) rfl), (7, X (Xk' true))]] (true || false) (fun h8 => ?_) (fun h8 => ?_)
   ·
    (try simp only [Bool.or_eq_true, Bool.or_eq_false_iff] at h8)
    refine .back [.r [(0, X (Xn ((i : Int) + 1)))]] [(0, 0), (112, 112)] (ih4 ((i + 1), o) ?_ ?_)
    ·
     refine ⟨by omega, ?_⟩
     rw [items_next (by omega), itemD_none hnum, I4.2]; simp
    ·
     ((try dsimp only); omega)
   ·
    (try simp only [Bool.or_eq_true, Bool.or_eq_false_iff] at h8)
    exfalso
    simp at h8
  ·
   have hv : ∀ v, Lib.atoiAll (getA (((shownD n).getD i default)).attrs { data := #[110, 111, 100, 101] } 0).data.toList ≠ .ok v := fun v q => by rw [hav] at q; cases q
   have hnum := num_no hv
   refine .br [.r [(1, X (Xc0 (fc_atoi0 (getA ((((shownD n).getD i default)).attrs) ({ data := #[110, 111, 100, 101] }) 0) (by assumption) hv) X0))], .r [(3, X (Xskip (!true) (.junk)) rfl), (4, X (Xskip (!true) (.junk)) rfl), (5, X (Xskip (!true) (.junk)) rfl), (6, X (Xskip (!true) (VB false)) rfl), (7, X (Xk' true))]] (true || false) (fun h8 => ?_) (fun h8 => ?_)
   ·
    (try simp only [Bool.or_eq_true, Bool.or_eq_false_iff] at h8)
    refine .back [.r [(0, X (Xn ((i : Int) + 1)))]] [(0, 0), (112, 112)] (ih4 ((i + 1), o) ?_ ?_)
    ·
     refine ⟨by omega, ?_⟩
     rw [items_next (by omega), itemD_none hnum, I4.2]; simp
    ·
     ((try dsimp only); omega)
   ·
    (try simp only [Bool.or_eq_true, Bool.or_eq_false_iff] at h8)
    exfalso
    simp at h8
 ·
  (try simp only [decide_eq_true_eq, decide_eq_false_iff_not, Int.not_lt, Int.not_le] at h4)
  have e1 : ((itemsD d.nodes n) : List Int) = o := by
   rw [I4.2, List.take_of_length_le (by omega)]; rfl
  exact .finE [.r [], .le (.fr 4 [(o.length : Nat) = (List.map intT o).length] ⟨lm, trivial⟩)] [] (fun z0 => (VL 1 intT z0, [])) (o : List Int) ((itemsD d.nodes n) : List Int) e1
end Go.Ch
end
section
set_option linter.unusedVariables false
namespace Go.Ab
variable {P : Program}

/-- What a store keeps of another one, as far as no world is looked at. -/
structure KN (st : Store) (m : Place) (z : Nat) (st' : Store) (m' : Place) : Prop where
  keep : ∀ id o, st id = some o → ∃ o', st' id = some o' ∧ o.len ≤ o'.len ∧ (o.len = o'.len → m' id = m id) ∧ (o.live = false → o'.live = false) ∧
    (∀ b, m'.has id b → m.has id b ∨ z ≤ b ∨ ∃ i oi, st i = some oi ∧ oi.live = true ∧ m.has i b) ∧ o.same o'
  new : ∀ id o, st' id = some o → st id = none → ∀ b, m'.has id b → z ≤ b ∨ ∃ i oi, st i = some oi ∧ oi.live = true ∧ m.has i b
theorem KN.refl (st : Store) (m : Place) (z : Nat) : KN st m z st m := ⟨fun _ o h => ⟨o, h, Nat.le_refl _, fun _ => rfl, id, fun _ q => .inl q, o.same_refl⟩, fun id o h h' => by rw [h'] at h; cases h⟩
theorem FrameExt.kn {F : Fen P} {st st' : Store} {m m' : Place} {w w' : World} (h : FrameExt F st m w st' m' w') : KN st m w.heap.size st' m' := ⟨h.keep, h.new⟩
theorem KN.back {st st' : Store} {m m' : Place} {z : Nat} (h : KN st m z st' m') {i b : Nat} {oi : Ob} (hi : st' i = some oi) (hl : oi.live = true) (hb : m'.has i b) : z ≤ b ∨ ∃ j oj, st j = some oj ∧ oj.live = true ∧ m.has j b := by
  cases h0 : st i with
  | none => exact h.new i oi hi h0 b hb
  | some o =>
    obtain ⟨o', ho', _, _, hlv, hpl, _⟩ := h.keep i o h0
    rw [hi] at ho'
    cases ho'
    have hol : o.live = true := by
      cases hh : o.live with
      | true => rfl
      | false => rw [hlv hh] at hl; cases hl
    rcases hpl b hb with hp | hp | hp
    · exact .inr ⟨i, o, h0, hol, hp⟩
    · exact .inl hp
    · exact .inr hp
theorem KN.trans {st st1 st2 : Store} {m m1 m2 : Place} {z z1 : Nat} (h : KN st m z st1 m1) (k : KN st1 m1 z1 st2 m2) (hz : z ≤ z1) : KN st m z st2 m2 := by
  have two : ∀ b, (z1 ≤ b ∨ ∃ i oi, st1 i = some oi ∧ oi.live = true ∧ m1.has i b) → z ≤ b ∨ ∃ i oi, st i = some oi ∧ oi.live = true ∧ m.has i b := by
    rintro b (q | ⟨i, oi, q1, q2, q3⟩)
    · exact .inl (by omega)
    · exact h.back q1 q2 q3
  refine ⟨fun id o ho => ?_, fun id o ho hn b hb => ?_⟩
  · obtain ⟨o1, ho1, hl, hm, hlv, hpl, hsh⟩ := h.keep id o ho
    obtain ⟨o2, ho2, hl', hm', hlv', hpl', hsh'⟩ := k.keep id o1 ho1
    refine ⟨o2, ho2, Nat.le_trans hl hl', fun e => ?_, fun e => hlv' (hlv e), fun b hb => ?_, Ob.same_trans hsh hsh'⟩
    · rw [hm' (by omega), hm (by omega)]
    · rcases hpl' b hb with hp | hp
      · exact hpl b hp
      · exact .inr (two b hp)
  · cases h1 : st1 id with
    | none => exact two b (k.new id o ho h1 b hb)
    | some o1 =>
      obtain ⟨o2, _, _, _, _, hpl, _⟩ := k.keep id o1 h1
      rcases hpl b hb with hp | hp
      · exact h.new id o1 h1 hn b hp
      · exact two b hp

theorem SRel.fence {F1 F2 : Fen P} {st : Store} {m : Place} {w : World} (hS : SRel F1 st m w) (hok : ∀ b, okB F1 st m w b → okB F2 st m w b) (ha : ∀ id o b, st id = some o → m.has id b → ¬ F2 b) (hl : ∀ b, F2 b → b < w.heap.size)
    (hh : ∀ b o, F2.says b o → w.heap[b]? = some o) : SRel F2 st m w :=
  ⟨fun id o ho => (hS.objs id o ho).ext (fun _ _ h => ⟨h, rfl⟩) hok, hS.inj, ha, hS.lt, hl, hh⟩

/-- What is packed behind a function value: the objects, call by call ('St'); the blocks that it has from the start ('g0'); those of them that no data lie in ('X'); the blocks of others ('gC'); values that stand in every call ('va', 'vu'); what else is known of the world ('E'). -/
structure Pk (P : Program) where
  F : Fen P
  w0 : World
  g0 : List Nat
  gC : List Nat
  X : Nat → Prop
  hX : ∀ b, X b → b ∈ g0
  St : List (List Tree) → Store
  S0 : Store
  m0 : Place
  va : Nat → AVal
  vu : Nat → Value
  E : List (List Tree) → World → Prop
  hE : ∀ pre w w', E pre w → (∀ b ∈ g0, w'.heap[b]? = w.heap[b]?) → E pre w'
  sD : ∀ b o, F.says b o → b < w0.heap.size ∧ b ∉ g0 ∧ b ∉ gC
  low : ∀ b, F b → b < w0.heap.size
  rnd : Option Nat
variable {k : Pk P} {g : List Nat} {z : Nat} {st : Store} {m : Place} {w w' : World} {b : Nat}
def Pk.D (k : Pk P) (b : Nat) : Prop := b < k.w0.heap.size ∧ b ∉ k.g0 ∧ b ∉ k.gC ∧ ¬ k.F.bar b
def Pk.may (k : Pk P) (g : List Nat) (b : Nat) : Prop := (b ∈ g ∧ ¬ k.X b) ∨ k.D b
/-- The fence of a call. -/
def Pk.fy (k : Pk P) (g : List Nat) (z : Nat) : Fen P where
  mem b := k.F b ∨ (b < z ∧ ¬ k.may g b)
  bar b := b < z ∧ ¬ k.may g b ∧ ∀ x, ¬ k.F.says b x
  says := k.F.says
  sub b o h := .inl (k.F.sub b o h)
  sup b h := .inr ⟨h.1, h.2.1⟩
  tab := k.F.tab
  opn b o h hb := hb.2.2 o h
  cel := k.F.cel
  rnd := k.rnd
  lo := 0
theorem Pk.saysD {o : Obj} (h : k.F.says b o) : k.D b := ⟨(k.sD b o h).1, (k.sD b o h).2.1, (k.sD b o h).2.2, k.F.opn b o h⟩
theorem Pk.ok_may (h : okB (k.fy g z) st m w b) (hz : b < z) : k.may g b := Classical.byContradiction fun hn => h.2.1 ⟨hz, hn, fun x hx => hn (.inr (Pk.saysD hx))⟩
theorem Pk.ok_mk (h : b < w.heap.size) (hm : k.may g b) (hl : ∀ id o, st id = some o → o.live = true → ¬ m.has id b) : okB (k.fy g z) st m w b := ⟨h, fun hb => hb.2.1 hm, hl⟩
structure Pk.At (k : Pk P) (pre : List (List Tree)) (g : List Nat) (m : Place) (w : World) : Prop where
  rel : SRel (k.fy g w.heap.size) (k.St pre) m w
  kn : KN k.S0 k.m0 k.w0.heap.size (k.St pre) m
  own : ∀ id o b, k.St pre id = some o → m.has id b → b ∈ g ∧ ¬ k.X b
  g0 : ∀ b ∈ k.g0, b ∈ g
  gn : ∀ b ∈ g, b ∈ k.g0 ∨ k.w0.heap.size ≤ b
  gl : ∀ b ∈ g, b < w.heap.size
  sz : k.w0.heap.size ≤ w.heap.size
  val : ∀ t, VRel (k.St pre) m w (okB (k.fy g w.heap.size) (k.St pre) m w) (k.va t) (k.vu t)
/-- Elsewhere the world may change. -/
theorem Pk.At.move {pre : List (List Tree)} (h : k.At pre g m w) (hsz : w.heap.size ≤ w'.heap.size) (hs : Still (okB (k.fy g w.heap.size) (k.St pre) m w) w w') (hb : ∀ id o b, k.St pre id = some o → m.has id b → w'.heap[b]? = w.heap[b]?)
    (hx : ∀ id Y p, k.St pre id = some (.ext Y p) → Y.holds p (m.g id) w → (∀ b, Y.D b → okB (k.fy g w.heap.size) (k.St pre) m w b) → Y.holds p (m.g id) w') : k.At pre g m w' := by
  have hok : ∀ b, okB (k.fy g w.heap.size) (k.St pre) m w b → okB (k.fy g w'.heap.size) (k.St pre) m w' b := fun b hb => Pk.ok_mk (by have := hb.1; omega) (Pk.ok_may hb hb.1) hb.2.2
  refine ⟨⟨fun id o ho => (h.rel.objs id o ho).still hok hs (fun Y p e => hx id Y p (e ▸ ho)) (fun b q => hb id o b ho q), h.rel.inj, fun id o b ho hm hf => ?_, fun id o b ho hm => Nat.lt_of_lt_of_le (h.rel.lt id o b ho hm) hsz, fun b hf => ?_, fun b o hh => ?_⟩, h.kn, h.own, h.g0, h.gn,
    fun b q => Nat.lt_of_lt_of_le (h.gl b q) hsz, Nat.le_trans h.sz hsz, fun t => (h.val t).still hok hs⟩
  · rcases hf with hf | hf
    · exact h.rel.avoid id o b ho hm (.inl hf)
    · exact hf.2 (.inl (h.own id o b ho hm))
  · rcases hf with hf | hf
    · have := k.low b hf; have := h.sz; omega
    · exact hf.1
  · have h1 := h.rel.hold b o hh
    obtain ⟨us, e, z, rfl⟩ := k.F.cel b o hh
    have hlt := (Array.getElem?_eq_some_iff.1 h1).1
    by_cases hlv : ∃ id o, k.St pre id = some o ∧ o.live = true ∧ m.has id b
    · obtain ⟨id, o, q1, q2, q3⟩ := hlv
      rw [hb id o b q1 q3]; exact h1
    · rw [hs b us e z (Pk.ok_mk hlt (.inr (Pk.saysD hh)) (fun id o q1 q2 q3 => hlv ⟨id, o, q1, q2, q3⟩)) h1]; exact h1
def Pk.holds (k : Pk P) (pre : List (List Tree)) (g : List Nat) (w : World) : Prop := (∃ m, k.At pre g m w) ∧ k.E pre w
def Pk.spec (k : Pk P) (fn : Value) (kind : (∃ f cap, fn = .func (.func f) #[] cap) ∨ ∃ l, fn = .func (.yield l) #[] #[]) (goes : List (List Tree) → Bool) (adm : List (List Tree) → List Tree → Prop) : YSpec where
  fn := fn
  kind := kind
  goes := goes
  adm := adm
  D := k.D
  holds := k.holds
  stab := by
    rintro pre g w w' ⟨⟨m, h⟩, hE⟩ hsz hg hD
    have hs : ∀ b, okB (k.fy g w.heap.size) (k.St pre) m w b → w'.heap[b]? = w.heap[b]? := fun b hb => by
      rcases Pk.ok_may hb hb.1 with q | q
      · exact hg b q.1
      · exact hD b q
    exact ⟨⟨m, h.move hsz (fun b us e z hb _ => hs b hb) (fun id o b ho hm => hg b (h.own id o b ho hm).1) (fun id Y p ho hh hY => Y.stab _ _ _ _ hh hsz (fun b hb => hg b (h.own id _ b ho (.inr hb)).1) (fun b hb => hs b (hY b hb)))⟩,
      k.hE pre w w' hE (fun b hb => hg b (h.g0 b hb))⟩
  stabD := by
    rintro pre g w w' q ⟨⟨m, h⟩, hE⟩ hq hqg hsz hb
    refine ⟨⟨m, h.move (by omega) (fun b us e z _ hc => hb b (fun e => by subst e; rw [hq] at hc; cases hc)) (fun id o b ho hm => hb b (fun e => hqg (e ▸ (h.own id o b ho hm).1))) (fun id Y p ho hh hY => Y.stabD _ _ _ _ q hh hq (fun hm => hqg (h.own id _ q ho (.inr hm)).1) hsz hb)⟩,
      k.hE pre w w' hE (fun b hg => hb b (fun e => hqg (e ▸ h.g0 b hg)))⟩

/-! ### One call more -/
def grow (g : List Nat) (z z' : Nat) : List Nat := g ++ List.range' z (z' - z)
theorem mem_grow {z' : Nat} : b ∈ grow g z z' ↔ b ∈ g ∨ (z ≤ b ∧ b < z') := by
  unfold grow
  rw [List.mem_append, List.mem_range'_1]
  constructor
  · rintro (h | h)
    · exact .inl h
    · exact .inr ⟨h.1, by omega⟩
  · rintro (h | h)
    · exact .inl h
    · exact .inr ⟨h.1, by omega⟩
theorem Pk.At.next {pre pre' : List (List Tree)} {m' : Place} (h : k.At pre g m w) (hS : SRel (k.fy g w.heap.size) (k.St pre') m' w') (hF : KN (k.St pre) m w.heap.size (k.St pre') m') (hsz : w.heap.size ≤ w'.heap.size)
    (hv : ∀ t, VRel (k.St pre') m' w' (okB (k.fy g w.heap.size) (k.St pre') m' w') (k.va t) (k.vu t)) : k.At pre' (grow g w.heap.size w'.heap.size) m' w' := by
  have hXlt : ∀ b, k.X b → b < w.heap.size := fun b hb => h.gl b (h.g0 b (k.hX b hb))
  have own : ∀ id o b, k.St pre' id = some o → m'.has id b → b ∈ grow g w.heap.size w'.heap.size ∧ ¬ k.X b := by
    intro id o b ho hm
    have hlt := hS.lt id o b ho hm
    have old : (∃ i oi, k.St pre i = some oi ∧ m.has i b) ∨ w.heap.size ≤ b := by
      cases h0 : k.St pre id with
      | none =>
        rcases hF.new id o ho h0 b hm with q | ⟨i, oi, q1, _, q2⟩
        · exact .inr q
        · exact .inl ⟨i, oi, q1, q2⟩
      | some o0 =>
        obtain ⟨o', _, _, _, _, hp, _⟩ := hF.keep id o0 h0
        rcases hp b hm with q | q | ⟨i, oi, q1, _, q2⟩
        · exact .inl ⟨id, o0, h0, q⟩
        · exact .inr q
        · exact .inl ⟨i, oi, q1, q2⟩
    rcases old with ⟨i, oi, q1, q2⟩ | q
    · obtain ⟨r1, r2⟩ := h.own i oi b q1 q2
      exact ⟨mem_grow.2 (.inl r1), r2⟩
    · exact ⟨mem_grow.2 (.inr ⟨q, hlt⟩), fun hx => by have := hXlt b hx; omega⟩
  have hok : ∀ b, okB (k.fy g w.heap.size) (k.St pre') m' w' b → okB (k.fy (grow g w.heap.size w'.heap.size) w'.heap.size) (k.St pre') m' w' b := fun b hb => by
    refine Pk.ok_mk hb.1 ?_ hb.2.2
    by_cases hlt : b < w.heap.size
    · rcases Pk.ok_may hb hlt with q | q
      · exact .inl ⟨mem_grow.2 (.inl q.1), q.2⟩
      · exact .inr q
    · exact .inl ⟨mem_grow.2 (.inr ⟨by omega, hb.1⟩), fun hx => by have := hXlt b hx; omega⟩
  refine ⟨hS.fence hok (fun id o b ho hm hf => ?_) (fun b hf => ?_) hS.hold, h.kn.trans hF h.sz, own, fun b hb => mem_grow.2 (.inl (h.g0 b hb)), fun b hb => ?_, fun b hb => ?_, Nat.le_trans h.sz hsz, fun t => (hv t).ext (fun _ _ h => ⟨h, rfl⟩) hok⟩
  · rcases hf with hf | hf
    · exact hS.avoid id o b ho hm (.inl hf)
    · exact hf.2 (.inl (own id o b ho hm))
  · rcases hf with hf | hf
    · have := k.low b hf; have := h.sz; omega
    · exact hf.1
  · rcases mem_grow.1 hb with q | q
    · exact h.gn b q
    · have := h.sz; exact .inr (by omega)
  · rcases mem_grow.1 hb with q | q
    · have := h.gl b q; omega
    · exact q.2
end Go.Ab
end
section
set_option linter.unusedVariables false
namespace Go.Ab
variable {P : Program}

/-- The parts of a store: what goes behind the function value ('SR'), and what is handed over as it is ('SC'). -/
structure Parts (F : Fen P) (S SR SC : Store) (m : Place) (wb w0 : World) (g0 gC : List Nat) (X : Nat → Prop) : Prop where
  rel : SRel F S m wb
  r : ∀ id o, SR id = some o → S id = some o
  c : ∀ id o, SC id = some o → S id = some o
  cov : ∀ id o, S id = some o → SR id = some o ∨ SC id = some o
  dis : ∀ id o, SC id = some o → SR id = none
  rc : ∀ id o, SR id = some o → ∀ i ∈ idsO o, SR i = S i
  cc : ∀ id o, SC id = some o → ∀ i ∈ idsO o, SC i = S i
  lr : ∀ id o, SR id = some o → o.live = true
  lc : ∀ id o, SC id = some o → o.live = true
  g0 : ∀ b, b ∈ g0 ↔ (∃ id o, SR id = some o ∧ m.has id b) ∨ X b
  gC : ∀ b, b ∈ gC ↔ ∃ id o, SC id = some o ∧ m.has id b
  xb : ∀ b, X b → wb.heap.size ≤ b ∧ b < w0.heap.size
  sz : wb.heap.size ≤ w0.heap.size
  os : w0.os = wb.os
  tape : w0.tape = wb.tape
  output : w0.output = wb.output
  same : ∀ b, b < wb.heap.size → w0.heap[b]? = wb.heap[b]?
variable {F : Fen P} {S SR SC : Store} {m : Place} {wb w0 : World} {g0 gC : List Nat} {X : Nat → Prop}
theorem Parts.still (h : Parts F S SR SC m wb w0 g0 gC X) : ∀ b, okB F S m wb b → w0.heap[b]? = wb.heap[b]? := fun b hb => h.same b hb.1
theorem Parts.hx (h : Parts F S SR SC m wb w0 g0 gC X) {id : Nat} {Y : YSpec} {p : List (List Tree)} (hi : S id = some (.ext Y p)) (hh : Y.holds p (m.g id) wb) (hD : ∀ b, Y.D b → okB F S m wb b) : Y.holds p (m.g id) w0 :=
  Y.stab _ _ _ _ hh h.sz (fun b hb => h.same b (h.rel.lt id _ b hi (.inr hb))) (fun b hb => h.still b (hD b hb))
/-- A value that names only what is in a part, in the world ahead of the call. -/
theorem Parts.val (h : Parts F S SR SC m wb w0 g0 gC X) {S1 : Store} {m1 : Place} {ok1 : Nat → Prop} (hok : ∀ b, okB F S m wb b → ok1 b) {v : AVal} {u : Value} (hv : VRel S m wb (okB F S m wb) v u)
    (hi : ∀ i ∈ idsV v, S1 i = S i ∧ m1 i = m i) : VRel S1 m1 w0 ok1 v u := by
  have h1 : VRel (fun i => if i ∈ idsV v then S i else none) m wb ok1 v u := hv.restrict hok (fun i hi => if_pos hi)
  have h2 : VRel S1 m1 wb ok1 v u := h1.ext (fun id o ho => by
    by_cases q : id ∈ idsV v
    · rw [if_pos q] at ho; exact ⟨(hi id q).1.trans ho, (hi id q).2⟩
    · rw [if_neg q] at ho; cases ho) (fun _ h => h)
  -- only blocks that may be read are looked at
  have key : ∀ {v : AVal} {u : Value}, VRel S m wb (okB F S m wb) v u → VRel S m w0 (okB F S m wb) v u := fun hv => hv.still (fun _ h => h) (fun b us e z hb _ => h.still b hb)
  have h3 := key hv
  have h4 : VRel (fun i => if i ∈ idsV v then S i else none) m w0 ok1 v u := h3.restrict hok (fun i hi => if_pos hi)
  exact h4.ext (fun id o ho => by
    by_cases q : id ∈ idsV v
    · rw [if_pos q] at ho; exact ⟨(hi id q).1.trans ho, (hi id q).2⟩
    · rw [if_neg q] at ho; cases ho) (fun _ h => h)
theorem Parts.obj (h : Parts F S SR SC m wb w0 g0 gC X) {S1 : Store} {m1 : Place} {ok1 : Nat → Prop} (hok : ∀ b, okB F S m wb b → ok1 b) {id : Nat} {o : Ob} (ho : S id = some o) (hi : ∀ i ∈ idsO o, S1 i = S i ∧ m1 i = m i) :
    ORel S1 m1 w0 ok1 o (m id) (m.g id) := by
  have h1 := h.rel.objs id o ho
  have h2 : ORel S m w0 (okB F S m wb) o (m id) (m.g id) := h1.still (fun _ h => h) (fun b us e z hb _ => h.still b hb) (fun Y p e hh hD => h.hx (e ▸ ho) hh hD) (fun b hb => h.same b (h.rel.lt id o b ho hb))
  refine h2.tq hok (fun v u hids hv => ?_) (fun mid n s e => ?_)
  · have h4 : VRel (fun i => if i ∈ idsV v then S i else none) m w0 ok1 v u := hv.restrict hok (fun i hi => if_pos hi)
    exact h4.ext (fun id o ho => by
      by_cases q : id ∈ idsV v
      · rw [if_pos q] at ho; exact ⟨(hi id (hids id q)).1.trans ho, (hi id (hids id q)).2⟩
      · rw [if_neg q] at ho; cases ho) (fun _ h => h)
  · subst e
    have := hi mid (by simp [idsO])
    exact ⟨this.2, fun es hh q => ⟨es, hh, this.1.trans q⟩⟩
variable {k : Pk P} {pre0 : List (List Tree)}
/-- What is packed, as it stands at first. -/
structure Pk.Of (k : Pk P) (pre0 : List (List Tree)) (F : Fen P) (SR : Store) (m : Place) (w0 : World) (g0 gC : List Nat) (X : Nat → Prop) : Prop where
  F : k.F = F
  w0 : k.w0 = w0
  g0 : k.g0 = g0
  gC : k.gC = gC
  X : k.X = X
  St : k.St pre0 = SR
  S0 : k.S0 = SR
  m0 : k.m0 = m
theorem Parts.start (h : Parts F S SR SC m wb w0 g0 gC X) (hk : k.Of pre0 F SR m w0 g0 gC X) (hv : ∀ t, VRel S m wb (okB F S m wb) (k.va t) (k.vu t)) (hvi : ∀ t, ∀ i ∈ idsV (k.va t), SR i = S i) : k.At pre0 g0 m w0 := by
  obtain ⟨e1, e2, e3, e4, e5, e6, e7, e8⟩ := hk
  have hD : ∀ b, okB F S m wb b → k.may g0 b := fun b hb => by
    refine .inr ⟨by rw [e2]; have := h.sz; have := hb.1; omega, ?_, ?_, by rw [e1]; exact hb.2.1⟩
    · rw [e3, h.g0]
      rintro (⟨id, o, q1, q2⟩ | q)
      · exact hb.2.2 id o (h.r id o q1) (h.lr id o q1) q2
      · have := (h.xb b q).1; have := hb.1; omega
    · rw [e4, h.gC]
      rintro ⟨id, o, q1, q2⟩
      exact hb.2.2 id o (h.c id o q1) (h.lc id o q1) q2
  have hok : ∀ b, okB F S m wb b → okB (k.fy g0 w0.heap.size) SR m w0 b := fun b hb => Pk.ok_mk (by have := hb.1; have := h.sz; omega) (hD b hb) (fun id o q1 q2 q3 => hb.2.2 id o (h.r id o q1) q2 q3)
  have own : ∀ id o b, SR id = some o → m.has id b → b ∈ g0 ∧ ¬ k.X b := fun id o b ho hm => by
    refine ⟨(h.g0 b).2 (.inl ⟨id, o, ho, hm⟩), fun hx => ?_⟩
    rw [e5] at hx
    have := (h.xb b hx).1
    have := h.rel.lt id o b (h.r id o ho) hm
    omega
  have gl : ∀ b ∈ g0, b < w0.heap.size := fun b hb => by
    rcases (h.g0 b).1 hb with ⟨id, o, q1, q2⟩ | q
    · have := h.rel.lt id o b (h.r id o q1) q2; have := h.sz; omega
    · exact (h.xb b q).2
  refine ⟨?_, by rw [e6, e7, e8]; exact KN.refl _ _ _, by rw [e6]; exact own, fun b hb => by rw [e3] at hb; exact hb, fun b hb => .inl (by rw [e3]; exact hb), gl, by rw [e2]; exact Nat.le_refl _, fun t => ?_⟩
  · rw [e6]
    refine ⟨fun id o ho => h.obj hok (h.r id o ho) (fun i hi => ⟨h.rc id o ho i hi, rfl⟩), fun i j oi oj b hi hj => h.rel.inj i j oi oj b (h.r i oi hi) (h.r j oj hj), fun id o b ho hm hf => ?_, fun id o b ho hm => gl b (own id o b ho hm).1, fun b hf => ?_, fun b o hh => ?_⟩
    · rcases hf with hf | hf
      · rw [e1] at hf; exact h.rel.avoid id o b (h.r id o ho) hm hf
      · exact hf.2 (.inl (own id o b ho hm))
    · rcases hf with hf | hf
      · have := k.low b hf; rw [e2] at this; exact this
      · exact hf.1
    · have hh : F.says b o := by rw [← e1]; exact hh
      rw [h.same b (h.rel.low b (F.sub b o hh))]
      exact h.rel.hold b o hh
  · rw [e6]; exact h.val hok (hv t) (fun i hi => ⟨hvi t i hi, rfl⟩)

/-- The place of the objects that are handed over. -/
def yPlace (m : Place) (e : Nat) (g : List Nat) : Place := ⟨fun j => if j = e then (none, 0) else m j, fun j => if j = e then g else m.g j⟩
theorem yPlace_e (m : Place) (e : Nat) (g : List Nat) (b : Nat) : (yPlace m e g).has e b ↔ b ∈ g := by unfold Place.has yPlace; simp
theorem yPlace_ne {m : Place} {e i : Nat} {g : List Nat} (h : i ≠ e) : yPlace m e g i = m i := by unfold yPlace; simp [h]
theorem yPlace_g {m : Place} {e i : Nat} {g : List Nat} (h : i ≠ e) : (yPlace m e g).g i = m.g i := by unfold yPlace; simp [h]
theorem yPlace_has {m : Place} {e i b : Nat} {g : List Nat} (h : i ≠ e) : (yPlace m e g).has i b ↔ m.has i b := by unfold Place.has; rw [yPlace_ne h, yPlace_g h]
theorem Parts.packed (h : Parts F S SR SC m wb w0 g0 gC X) (hk : k.Of pre0 F SR m w0 g0 gC X) (hA : k.At pre0 g0 m w0) (hE : k.E pre0 w0) {e : Nat} (he : SC e = none) (he2 : ∀ id o, SC id = some o → e ∉ idsO o) {fn : Value} {kind : (∃ f cap, fn = .func (.func f) #[] cap) ∨ ∃ l, fn = .func (.yield l) #[] #[]} {goes : List (List Tree) → Bool} {adm : List (List Tree) → List Tree → Prop} :
    SRel F (upd SC e (.ext (k.spec fn kind goes adm) pre0)) (yPlace m e g0) w0 ∧ (∀ b, okB F S m wb b → okB F (upd SC e (.ext (k.spec fn kind goes adm) pre0)) (yPlace m e g0) w0 b) := by
  obtain ⟨e1, e2, e3, e4, e5, e6, e7, e8⟩ := hk
  have ne : ∀ id o, SC id = some o → id ≠ e := fun id o ho q => by subst q; rw [he] at ho; cases ho
  have notg : ∀ b, b ∈ g0 → b < wb.heap.size → ∃ id o, SR id = some o ∧ m.has id b := fun b hb hlt => by
    rcases (h.g0 b).1 hb with q | q
    · exact q
    · have := (h.xb b q).1; omega
  have hok : ∀ b, okB F S m wb b → okB F (upd SC e (.ext (k.spec fn kind goes adm) pre0)) (yPlace m e g0) w0 b := fun b hb => by
    refine ⟨by have := hb.1; have := h.sz; omega, hb.2.1, fun id o ho hl hm => ?_⟩
    by_cases q : id = e
    · subst q
      obtain ⟨id, o, q1, q2⟩ := notg b ((yPlace_e _ _ _ _).1 hm) hb.1
      exact hb.2.2 id o (h.r id o q1) (h.lr id o q1) q2
    · rw [upd_ne q] at ho
      exact hb.2.2 id o (h.c id o ho) hl ((yPlace_has q).1 hm)
  have own : ∀ id o b, upd SC e (.ext (k.spec fn kind goes adm) pre0) id = some o → (yPlace m e g0).has id b → (id = e ∧ b ∈ g0) ∨ (id ≠ e ∧ SC id = some o ∧ m.has id b) := fun id o b ho hm => by
    by_cases q : id = e
    · subst q; exact .inl ⟨rfl, (yPlace_e _ _ _ _).1 hm⟩
    · rw [upd_ne q] at ho; exact .inr ⟨q, ho, (yPlace_has q).1 hm⟩
  refine ⟨⟨fun id o ho => ?_, fun i j oi oj b hi hj h1 h2 => ?_, fun id o b ho hm hf => ?_, fun id o b ho hm => ?_, fun b hf => Nat.lt_of_lt_of_le (h.rel.low b hf) h.sz, fun b o hh => ?_⟩, hok⟩
  · by_cases q : id = e
    · subst q
      rw [upd_same] at ho; cases ho
      refine ⟨by simp [yPlace], ?_, fun b hb => ?_⟩
      · have : (yPlace m id g0).g id = g0 := by simp [yPlace]
        rw [this]; exact ⟨⟨m, hA⟩, hE⟩
      · obtain ⟨q1, q2, q3, q4⟩ := hb
        rw [e2] at q1; rw [e3] at q2; rw [e4] at q3; rw [e1] at q4
        refine ⟨q1, q4, fun i o ho hl hm => ?_⟩
        rcases own i o b ho hm with ⟨-, r⟩ | ⟨-, r1, r2⟩
        · exact q2 r
        · exact q3 ((h.gC b).2 ⟨i, o, r1, r2⟩)
    · rw [upd_ne q] at ho
      rw [yPlace_ne q, yPlace_g q]
      refine h.obj hok (h.c id o ho) (fun i hi => ?_)
      have r : i ≠ e := fun q => he2 id o ho (q ▸ hi)
      exact ⟨by rw [upd_ne r]; exact h.cc id o ho i hi, yPlace_ne r⟩
  · rcases own i oi b hi h1 with ⟨q1, q2⟩ | ⟨q1, q2, q3⟩ <;> rcases own j oj b hj h2 with ⟨r1, r2⟩ | ⟨r1, r2, r3⟩
    · rw [q1, r1]
    · exfalso
      have hlt := h.rel.lt j oj b (h.c j oj r2) r3
      obtain ⟨id, o, s1, s2⟩ := notg b q2 hlt
      have := h.rel.inj id j _ _ b (h.r id o s1) (h.c j oj r2) s2 r3
      subst this
      rw [h.dis id oj r2] at s1; cases s1
    · exfalso
      have hlt := h.rel.lt i oi b (h.c i oi q2) q3
      obtain ⟨id, o, s1, s2⟩ := notg b r2 hlt
      have := h.rel.inj id i _ _ b (h.r id o s1) (h.c i oi q2) s2 q3
      subst this
      rw [h.dis id oi q2] at s1; cases s1
    · exact h.rel.inj i j _ _ b (h.c i oi q2) (h.c j oj r2) q3 r3
  · rcases own id o b ho hm with ⟨q1, q2⟩ | ⟨q1, q2, q3⟩
    · have hlt := h.rel.low b hf
      obtain ⟨id, o, s1, s2⟩ := notg b q2 hlt
      exact h.rel.avoid id o b (h.r id o s1) s2 hf
    · exact h.rel.avoid id o b (h.c id o q2) q3 hf
  · rcases own id o b ho hm with ⟨q1, q2⟩ | ⟨q1, q2, q3⟩
    · exact hA.gl b q2
    · have := h.rel.lt id o b (h.c id o q2) q3; have := h.sz; omega
  · rw [h.same b (h.rel.low b (F.sub b o hh))]; exact h.rel.hold b o hh
/-- The store behind the call. -/
def bothS (SC R : Store) : Store := fun id => match SC id with | some o => some o | none => R id
theorem bothS_c {SC R : Store} {id : Nat} {o : Ob} (h : SC id = some o) : bothS SC R id = some o := by unfold bothS; rw [h]
theorem bothS_r {SC R : Store} {id : Nat} (h : SC id = none) : bothS SC R id = R id := by unfold bothS; rw [h]
open Classical in
noncomputable def bothP (SC : Store) (m1 mR : Place) : Place := ⟨fun j => if (SC j).isSome then m1 j else mR j, fun j => if (SC j).isSome then m1.g j else mR.g j⟩
theorem Parts.unpack (h : Parts F S SR SC m wb w0 g0 gC X) (hk : k.Of pre0 F SR m w0 g0 gC X) {e : Nat} (he : SC e = none) (he2 : ∀ id o, SC id = some o → e ∉ idsO o) {Y : YSpec} {pre' : List (List Tree)} {m1 : Place} {w1 : World} (h1 : SRel F (upd SC e (.ext Y pre')) m1 w1)
    (h2 : FrameExt F (upd SC e (.ext Y pre0)) (yPlace m e g0) w0 (upd SC e (.ext Y pre')) m1 w1) {mR : Place} (hA : k.At pre' (m1.g e) mR w1) (hdis : ∀ id o, SC id = some o → k.St pre' id = none) :
    ∃ mf, SRel F (bothS SC (k.St pre')) mf w1 ∧ FrameExt F S m wb (bothS SC (k.St pre')) mf w1 ∧ (∀ t, VRel (bothS SC (k.St pre')) mf w1 (okB F (bothS SC (k.St pre')) mf w1) (k.va t) (k.vu t)) ∧
      (∀ id o b, bothS SC (k.St pre') id = some o → mf.has id b → b < w0.heap.size → ∃ i oi, S i = some oi ∧ m.has i b) := by
  obtain ⟨e1, e2, e3, e4, e5, e6, e7, e8⟩ := hk
  have ne : ∀ id o, SC id = some o → id ≠ e := fun id o ho q => by subst q; rw [he] at ho; cases ho
  have ce : ∀ (p : List (List Tree)) id o, SC id = some o → upd SC e (.ext Y p) id = some o := fun p id o ho => by rw [upd_ne (ne id o ho)]; exact ho
  let mf : Place := ⟨fun j => if (SC j).isSome then m1 j else mR j, fun j => if (SC j).isSome then m1.g j else mR.g j⟩
  have fc : ∀ id o, SC id = some o → mf id = m1 id := fun id o ho => by simp [mf, ho]
  have fr : ∀ id, SC id = none → mf id = mR id := fun id ho => by simp [mf, ho]
  have gc : ∀ id o, SC id = some o → mf.g id = m1.g id := fun id o ho => by simp [mf, ho]
  have gr : ∀ id, SC id = none → mf.g id = mR.g id := fun id ho => by simp [mf, ho]
  have hc : ∀ id o b, SC id = some o → (mf.has id b ↔ m1.has id b) := fun id o b ho => by unfold Place.has; rw [fc id o ho, gc id o ho]
  have hr : ∀ id b, SC id = none → (mf.has id b ↔ mR.has id b) := fun id b ho => by unfold Place.has; rw [fr id ho, gr id ho]
  have rn : ∀ id o, k.St pre' id = some o → SC id = none := fun id o ho => by
    cases hs : SC id with
    | none => rfl
    | some o' => have := hdis id o' hs; rw [this] at ho; cases ho
  have eg : ∀ b, b ∈ m1.g e → m1.has e b := fun b hb => .inr hb
  have se : upd SC e (.ext Y pre') e = some (.ext Y pre') := upd_same _ _ _
  -- a block that is read behind the function value
  have okR : ∀ b, okB (k.fy (m1.g e) w1.heap.size) (k.St pre') mR w1 b → okB F (bothS SC (k.St pre')) mf w1 b := fun b hb => by
    have hm := Pk.ok_may hb hb.1
    refine ⟨hb.1, fun hf => ?_, fun id o ho hl hmh => ?_⟩
    · rcases hm with q | q
      · exact h1.avoid e _ b se (eg b q.1) (F.sup b hf)
      · exact q.2.2.2 (by rw [e1]; exact hf)
    · cases hs : SC id with
      | none =>
        rw [bothS_r hs] at ho
        exact hb.2.2 id o ho hl ((hr id b hs).1 hmh)
      | some o' =>
        have hmh := (hc id o' b hs).1 hmh
        rcases hm with q | q
        · exact ne id o' hs (h1.inj id e _ _ b (ce pre' id o' hs) se hmh (eg b q.1))
        · obtain ⟨q1, q2, q3, q4⟩ := q
          rw [e2] at q1; rw [e3] at q2; rw [e4] at q3
          rcases h2.back (ce pre' id o' hs) (h.lc id o' hs) hmh with r | ⟨i, oi, r1, r2, r3⟩
          · omega
          · by_cases s : i = e
            · subst s; exact q2 ((yPlace_e _ _ _ _).1 r3)
            · rw [upd_ne s] at r1
              exact q3 ((h.gC b).2 ⟨i, oi, r1, (yPlace_has s).1 r3⟩)
  have okC : ∀ b, okB F (upd SC e (.ext Y pre')) m1 w1 b → okB F (bothS SC (k.St pre')) mf w1 b := fun b hb => by
    refine ⟨hb.1, hb.2.1, fun id o ho hl hmh => ?_⟩
    cases hs : SC id with
    | none =>
      rw [bothS_r hs] at ho
      exact hb.2.2 e _ se rfl (eg b (hA.own id o b ho ((hr id b hs).1 hmh)).1)
    | some o' =>
      rw [bothS_c hs] at ho; cases ho
      exact hb.2.2 id o (ce pre' id o hs) hl ((hc id o b hs).1 hmh)
  have hF : FrameExt F S m wb (bothS SC (k.St pre')) mf w1 := by
    refine ⟨h2.os.trans h.os, h2.tape.trans h.tape, h2.output.trans h.output, Nat.le_trans h.sz h2.size, fun b hb hf => ?_, fun id o ho => ?_, fun id o ho hn b hb => ?_⟩
    · rw [← h.same b hb]
      refine h2.block b (Nat.lt_of_lt_of_le hb h.sz) (hf.imp (fun q => q) (fun hf id o ho hl hm => ?_))
      by_cases s : id = e
      · subst s
        rcases (h.g0 b).1 ((yPlace_e _ _ _ _).1 hm) with ⟨i, oi, q1, q2⟩ | q
        · exact hf i oi (h.r i oi q1) (h.lr i oi q1) q2
        · have := (h.xb b q).1; omega
      · rw [upd_ne s] at ho
        exact hf id o (h.c id o ho) hl ((yPlace_has s).1 hm)
    · rcases h.cov id o ho with q | q
      · have hs : SC id = none := by
          cases hs : SC id with
          | none => rfl
          | some o' => rw [h.dis id o' hs] at q; cases q
        obtain ⟨o', k1, k2, k3, k4, k5, k6⟩ := hA.kn.keep id o (by rw [e7]; exact q)
        refine ⟨o', by rw [bothS_r hs]; exact k1, k2, fun z => by rw [fr id hs, k3 z, e8], k4, fun b hb => ?_, k6⟩
        rcases k5 b ((hr id b hs).1 hb) with z | z | ⟨i, oi, z1, z2, z3⟩
        · rw [e8] at z; exact .inl z
        · rw [e2] at z; have := h.sz; exact .inr (.inl (by omega))
        · rw [e7] at z1; rw [e8] at z3; exact .inr (.inr ⟨i, oi, h.r i oi z1, z2, z3⟩)
      · have hne := ne id o q
        obtain ⟨o', k1, k2, k3, k4, k5, k6⟩ := h2.keep id o (ce pre0 id o q)
        rw [upd_ne hne] at k1
        rw [q] at k1; cases k1
        refine ⟨o, bothS_c q, Nat.le_refl _, fun z => by rw [fc id o q, k3 z, yPlace_ne hne], fun z => z, fun b hb => ?_, o.same_refl⟩
        rcases k5 b ((hc id o b q).1 hb) with z | z | ⟨i, oi, z1, z2, z3⟩
        · exact .inl ((yPlace_has hne).1 z)
        · have := h.sz; exact .inr (.inl (by omega))
        · by_cases s : i = e
          · subst s
            rcases (h.g0 b).1 ((yPlace_e _ _ _ _).1 z3) with ⟨j, oj, q1, q2⟩ | q
            · exact .inr (.inr ⟨j, oj, h.r j oj q1, h.lr j oj q1, q2⟩)
            · exact .inr (.inl (h.xb b q).1)
          · rw [upd_ne s] at z1
            exact .inr (.inr ⟨i, oi, h.c i oi z1, z2, (yPlace_has s).1 z3⟩)
    · have hs : SC id = none := by
        cases hs : SC id with
        | none => rfl
        | some o' => have := h.c id o' hs; rw [hn] at this; cases this
      rw [bothS_r hs] at ho
      have hR : SR id = none := by
        cases hq : SR id with
        | none => rfl
        | some o' => have := h.r id o' hq; rw [hn] at this; cases this
      rcases hA.kn.new id o ho (by rw [e7]; exact hR) b ((hr id b hs).1 hb) with z | ⟨i, oi, z1, z2, z3⟩
      · rw [e2] at z; have := h.sz; exact .inl (by omega)
      · rw [e7] at z1; rw [e8] at z3; exact .inr ⟨i, oi, h.r i oi z1, z2, z3⟩
  have extR : ∀ id o, k.St pre' id = some o → bothS SC (k.St pre') id = some o ∧ mf id = mR id := fun id o ho => ⟨by rw [bothS_r (rn id o ho)]; exact ho, fr id (rn id o ho)⟩
  refine ⟨mf, ⟨fun id o ho => ?_, fun i j oi oj b hi hj hb1 hb2 => ?_, fun id o b ho hm hf => ?_, fun id o b ho hm => ?_, h1.low, h1.hold⟩, hF, fun t => (hA.val t).ext extR okR, fun id o b ho hm hb => ?_⟩
  · cases hs : SC id with
    | none =>
      rw [bothS_r hs] at ho
      rw [fr id hs, gr id hs]
      exact (hA.rel.objs id o ho).ext extR okR
    | some o' =>
      rw [bothS_c hs] at ho; cases ho
      rw [fc id o hs, gc id o hs]
      have hO := h1.objs id o (ce pre' id o hs)
      have hin : ∀ i ∈ idsO o, i ≠ e := fun i hi q => he2 id o hs (q ▸ hi)
      refine hO.tq okC (fun v u hids hv => ?_) (fun mid n s q => ?_)
      · have h5 : VRel SC m1 w1 (okB F (bothS SC (k.St pre')) mf w1) v u := hv.restrict okC (fun i hi => (upd_ne (hin i (hids i hi))).symm)
        exact h5.ext (fun id o ho => ⟨bothS_c ho, fc id o ho⟩) (fun _ h => h)
      · subst q
        have hme := hin mid (by simp [idsO])
        obtain ⟨b, bm, _, _, ⟨es, hh, q3⟩, _⟩ := hO
        rw [upd_ne hme] at q3
        refine ⟨fc mid _ q3, fun es' hh' q => ?_⟩
        rw [upd_ne hme] at q
        exact ⟨es', hh', bothS_c q⟩
  · cases hs : SC i with
    | none =>
      rw [bothS_r hs] at hi
      have q1 := hA.own i oi b hi ((hr i b hs).1 hb1)
      cases ht : SC j with
      | none =>
        rw [bothS_r ht] at hj
        exact hA.rel.inj i j oi oj b hi hj ((hr i b hs).1 hb1) ((hr j b ht).1 hb2)
      | some o' => exact absurd (h1.inj j e _ _ b (ce pre' j o' ht) se ((hc j o' b ht).1 hb2) (eg b q1.1)) (ne j o' ht)
    | some o' =>
      cases ht : SC j with
      | none =>
        rw [bothS_r ht] at hj
        have q1 := hA.own j oj b hj ((hr j b ht).1 hb2)
        exact absurd (h1.inj i e _ _ b (ce pre' i o' hs) se ((hc i o' b hs).1 hb1) (eg b q1.1)) (ne i o' hs)
      | some o'' => exact h1.inj i j _ _ b (ce pre' i o' hs) (ce pre' j o'' ht) ((hc i o' b hs).1 hb1) ((hc j o'' b ht).1 hb2)
  · cases hs : SC id with
    | none =>
      rw [bothS_r hs] at ho
      exact h1.avoid e _ b se (eg b (hA.own id o b ho ((hr id b hs).1 hm)).1) hf
    | some o' => exact h1.avoid id o' b (ce pre' id o' hs) ((hc id o' b hs).1 hm) hf
  · cases hs : SC id with
    | none =>
      rw [bothS_r hs] at ho
      exact hA.rel.lt id o b ho ((hr id b hs).1 hm)
    | some o' => exact h1.lt id o' b (ce pre' id o' hs) ((hc id o' b hs).1 hm)
  · cases hs : SC id with
    | none =>
      rw [bothS_r hs] at ho
      obtain ⟨q1, q2⟩ := hA.own id o b ho ((hr id b hs).1 hm)
      rcases hA.gn b q1 with q | q
      · rw [e3] at q
        rcases (h.g0 b).1 q with ⟨i, oi, z1, z2⟩ | z
        · exact ⟨i, oi, h.r i oi z1, z2⟩
        · rw [e5] at q2; exact absurd z q2
      · rw [e2] at q; omega
    | some o' =>
      have hne := ne id o' hs
      obtain ⟨o2, _, _, _, _, k5, _⟩ := h2.keep id o' (ce pre0 id o' hs)
      rcases k5 b ((hc id o' b hs).1 hm) with z | z | ⟨i, oi, z1, z2, z3⟩
      · exact ⟨id, o', h.c id o' hs, (yPlace_has hne).1 z⟩
      · omega
      · by_cases s : i = e
        · subst s
          have hb1 : b ∈ g0 := (yPlace_e _ _ _ _).1 z3
          rcases (h.g0 b).1 hb1 with ⟨j, oj, q1, q2⟩ | q
          · exact ⟨j, oj, h.r j oj q1, q2⟩
          · -- a block that no object has
            exact absurd (h1.inj id i _ _ b (ce pre' id o' hs) se ((hc id o' b hs).1 hm) (eg b (hA.g0 b (by rw [e3]; exact hb1)))) hne
        · rw [upd_ne s] at z1
          exact ⟨i, oi, h.c i oi z1, (yPlace_has s).1 z3⟩

end Go.Ab
end
section
set_option linter.unusedVariables false
namespace Go.Ab
variable {P : Program}

theorem app_emp_mem : ∀ {l : List (Nat × Ob)} {S : Store} {id : Nat} {o : Ob}, app S l id = some o → (id, o) ∈ l ∨ (id ∉ l.map (·.1) ∧ S id = some o)
  | [], S, id, o, h => .inr ⟨by simp, h⟩
  | (i, x) :: l, S, id, o, h => by
    rcases app_emp_mem (l := l) (S := upd S i x) h with q | ⟨q1, q2⟩
    · exact .inl (List.mem_cons_of_mem _ q)
    · by_cases e : id = i
      · subst e; rw [upd_same] at q2; cases q2; exact .inl List.mem_cons_self
      · rw [upd_ne e] at q2
        exact .inr ⟨by simp only [List.map_cons, List.mem_cons, not_or]; exact ⟨e, q1⟩, q2⟩
theorem app_mem0 {l : List (Nat × Ob)} {id : Nat} {o : Ob} (h : app emp l id = some o) : (id, o) ∈ l := (app_emp_mem h).resolve_right (fun q => by cases q.2)
theorem app_emp_none {l : List (Nat × Ob)} {id : Nat} (h : id ∉ l.map (·.1)) : app emp l id = none := app_not h
theorem app_emp_isSome {l : List (Nat × Ob)} {id : Nat} (h : id ∈ l.map (·.1)) : ∃ o, app emp l id = some o := app_some h
/-- The blocks of some objects. -/
def blks (m : Place) (ids : List Nat) : List Nat := ids.flatMap fun i => (m i).1.toList ++ m.g i
theorem mem_blks {m : Place} {ids : List Nat} {b : Nat} : b ∈ blks m ids ↔ ∃ i ∈ ids, m.has i b := by
  unfold blks Place.has
  rw [List.mem_flatMap]
  constructor
  · rintro ⟨i, h1, h2⟩
    refine ⟨i, h1, ?_⟩
    rcases List.mem_append.1 h2 with h | h
    · left; cases hm : (m i).1 with
      | none => rw [hm] at h; cases h
      | some c => rw [hm] at h; simp at h; rw [h]
    · exact .inr h
  · rintro ⟨i, h1, h2⟩
    refine ⟨i, h1, List.mem_append.2 ?_⟩
    rcases h2 with h | h
    · left; rw [h]; simp
    · exact .inr h
def subIds (l : List Nat) (r : List (Nat × Ob)) : Bool := l.all (hasId (r.map (·.1)))
def sideB (r c : List (Nat × Ob)) (e : Nat) : Bool :=
  r.all (fun x => x.2.live) && c.all (fun x => x.2.live) && r.all (fun x => !hasId (c.map (·.1)) x.1) && !hasId (c.map (·.1)) e && r.all (fun x => subIds (idsO x.2) r) && c.all (fun x => subIds (idsO x.2) c)
structure Side (r c : List (Nat × Ob)) (e : Nat) : Prop where
  lr : ∀ x ∈ r, x.2.live = true
  lc : ∀ x ∈ c, x.2.live = true
  dis : ∀ x ∈ r, x.1 ∉ c.map (·.1)
  e : e ∉ c.map (·.1)
  rc : ∀ x ∈ r, ∀ i ∈ idsO x.2, i ∈ r.map (·.1)
  cc : ∀ x ∈ c, ∀ i ∈ idsO x.2, i ∈ c.map (·.1)
theorem subIds_iff {l : List Nat} {r : List (Nat × Ob)} : subIds l r = true ↔ ∀ i ∈ l, i ∈ r.map (·.1) := by
  unfold subIds
  rw [List.all_eq_true]
  exact ⟨fun h i hi => hasId_iff.1 (h i hi), fun h i hi => hasId_iff.2 (h i hi)⟩
theorem side_of {r c : List (Nat × Ob)} {e : Nat} (h : sideB r c e = true) : Side r c e := by
  unfold sideB at h
  simp only [Bool.and_eq_true, List.all_eq_true, Bool.not_eq_true'] at h
  obtain ⟨⟨⟨⟨⟨h1, h2⟩, h3⟩, h4⟩, h5⟩, h6⟩ := h
  have hn : ∀ i, hasId (c.map (·.1)) i = false → i ∉ c.map (·.1) := fun i q hm => by rw [hasId_iff.2 hm] at q; cases q
  exact ⟨fun x hx => h1 x hx, fun x hx => h2 x hx, fun x hx => hn _ (h3 x hx), hn _ h4, fun x hx => subIds_iff.1 (h5 x hx), fun x hx => subIds_iff.1 (h6 x hx)⟩
theorem app_both {r c : List (Nat × Ob)} {id : Nat} : app emp (r ++ c) id = match app emp c id with | some o => some o | none => app emp r id := by
  rw [app_append]
  by_cases h : id ∈ c.map (·.1)
  · obtain ⟨o, ho⟩ := app_emp_isSome h
    rw [ho]
    have : app (app emp r) c id = app emp c id := app_at (.inl h)
    rw [this, ho]
  · rw [app_not h, app_emp_none h]
theorem parts_of {F : Fen P} {r c : List (Nat × Ob)} {e : Nat} {m : Place} {wb w0 : World} (hs : Side r c e) (hS : SRel F (app emp (r ++ c)) m wb) {X : Nat → Prop} {g0 : List Nat} (hg : ∀ b, b ∈ g0 ↔ (∃ i ∈ r.map (·.1), m.has i b) ∨ X b)
    (xb : ∀ b, X b → wb.heap.size ≤ b ∧ b < w0.heap.size) (sz : wb.heap.size ≤ w0.heap.size) (os : w0.os = wb.os) (tape : w0.tape = wb.tape) (output : w0.output = wb.output) (same : ∀ b, b < wb.heap.size → w0.heap[b]? = wb.heap[b]?) :
    Parts F (app emp (r ++ c)) (app emp r) (app emp c) m wb w0 g0 (blks m (c.map (·.1))) X := by
  have dis : ∀ id o, app emp c id = some o → app emp r id = none := fun id o ho => by
    cases hr : app emp r id with
    | none => rfl
    | some o' => exact absurd (app_emp_some ho) (hs.dis (id, o') (app_mem0 hr))
  have r' : ∀ id o, app emp r id = some o → app emp (r ++ c) id = some o := fun id o ho => by
    rw [app_both]
    cases hc : app emp c id with
    | none => exact ho
    | some o' => rw [dis id o' hc] at ho; cases ho
  have c' : ∀ id o, app emp c id = some o → app emp (r ++ c) id = some o := fun id o ho => by rw [app_both, ho]
  refine ⟨hS, r', c', fun id o ho => ?_, dis, fun id o ho i hi => ?_, fun id o ho i hi => ?_, fun id o ho => hs.lr _ (app_mem0 ho), fun id o ho => hs.lc _ (app_mem0 ho), fun b => ?_, fun b => ?_, xb, sz, os, tape, output, same⟩
  · rw [app_both] at ho
    cases hc : app emp c id with
    | none => rw [hc] at ho; exact .inl ho
    | some o' => rw [hc] at ho; exact .inr ho
  · obtain ⟨o', ho'⟩ := app_emp_isSome (hs.rc _ (app_mem0 ho) i hi)
    rw [ho', r' i o' ho']
  · obtain ⟨o', ho'⟩ := app_emp_isSome (hs.cc _ (app_mem0 ho) i hi)
    rw [ho', c' i o' ho']
  · rw [hg]
    refine or_congr ⟨?_, ?_⟩ Iff.rfl
    · rintro ⟨i, h1, h2⟩
      obtain ⟨o, ho⟩ := app_emp_isSome h1
      exact ⟨i, o, ho, h2⟩
    · rintro ⟨i, o, h1, h2⟩
      exact ⟨i, app_emp_some h1, h2⟩
  · rw [mem_blks]
    constructor
    · rintro ⟨i, h1, h2⟩
      obtain ⟨o, ho⟩ := app_emp_isSome h1
      exact ⟨i, o, ho, h2⟩
    · rintro ⟨i, o, h1, h2⟩
      exact ⟨i, app_emp_some h1, h2⟩
/-- A closure, call by call, as a function value that is handed in. -/
theorem Pk.calls {k : Pk P} {fid : FuncId} {caps : List AVal} {R : List (List Tree) → List (Nat × Ob)} {cs : List Value} {G : List (List Tree) → Bool} {A : List (List Tree) → List Tree → Prop} (hcl : callable P fid = true)
    (hC : ∀ pre xs, A pre xs → FC P fid (xs.map .t ++ caps) (app emp (R pre)) (.t (.sc (.bool (G (pre ++ [xs]))))) (app emp (R (pre ++ [xs])))) (hR : k.St = fun pre => app emp (R pre)) (hE : k.E = fun _ _ => True)
    (hva : ∀ i v u, caps[i]? = some v → cs[i]? = some u → k.va i = v ∧ k.vu i = u) (hl : cs.length = caps.length) {kind} : YCalls P (k.spec (.func (.func fid) #[] cs.toArray) kind G A) := by
  intro pre xs us g w hA hh hgl hul hx
  obtain ⟨⟨m, hAt⟩, -⟩ := hh
  have hAt := hAt
  have hFC := hC pre xs hA
  have hSt : ∀ p, k.St p = app emp (R p) := fun p => by rw [hR]
  have hcall := hFC (k.fy g w.heap.size) m w (us ++ cs) (by rw [← hSt]; exact hAt.rel) (by simp [hul, hl]) (fun i v u hv hu => by
    by_cases hi : i < xs.length
    · rw [List.getElem?_append_left (by simpa using hi), List.getElem?_map, Option.map_eq_some_iff] at hv
      obtain ⟨x, hx1, rfl⟩ := hv
      rw [List.getElem?_append_left (by omega)] at hu
      exact .t _ _ ((hx i x u hx1 hu).mono (fun _ h => h.elim) (fun _ _ _ h => h.elim))
    · rw [List.getElem?_append_right (by simpa using hi)] at hv
      rw [List.getElem?_append_right (by omega)] at hu
      simp only [List.length_map] at hv
      rw [hul] at hu
      obtain ⟨q1, q2⟩ := hva _ v u hv hu
      have := hAt.val (i - xs.length)
      rw [q1, q2] at this
      rw [← hSt]; exact this)
  unfold callable at hcl
  split at hcl
  rotate_left
  · cases hcl
  rename_i fn hfn
  simp only [Bool.and_eq_true, Bool.not_eq_true'] at hcl
  obtain ⟨code, hcode⟩ := Option.isSome_iff_exists.1 hcl.1
  refine ⟨.func fid, cs.toArray, .enter fid (us ++ cs).toArray, rfl, ?_, callsIn_wide.2 (hcall.mono ?_)⟩
  · have e : us.toArray ++ cs.toArray = (us ++ cs).toArray := by simp
    simp only [invoke, e]
    exact run_enter hfn hcl.2 hcode _ w
  · rintro e w' ⟨v, m', rfl, k1, k2, k3⟩
    have := VRel.sc_inv k3
    subst this
    rw [← hSt] at k1 k2
    rw [← hSt] at k2
    have hn := hAt.next k1 k2.kn k2.size (fun t => k2.val (hAt.val t))
    exact ⟨rfl, k2.os, k2.tape, k2.output, k2.size, fun b hb hg => k2.block b hb (.inr fun id o ho _ hm => hg (hAt.own id o b ho hm).1), grow g w.heap.size w'.heap.size, fun b hb => mem_grow.2 (.inl hb), fun b hb => mem_grow.1 hb, ⟨m', hn⟩, by show k.E _ _; rw [hE]; trivial⟩
/-- A contract over a function value that is handed in, at a closure. -/
theorem FC.pack {W fid : FuncId} {a1 a2 caps : List AVal} {R : List (List Tree) → List (Nat × Ob)} {C : List (Nat × Ob)} {pre0 pre' : List (List Tree)} {res : AVal} {e : Nat} {G : List (List Tree) → Bool} {A : List (List Tree) → List Tree → Prop}
    (hC : ∀ pre xs, A pre xs → FC P fid (xs.map .t ++ caps) (app emp (R pre)) (.t (.sc (.bool (G (pre ++ [xs]))))) (app emp (R (pre ++ [xs]))))
    (hW : ∀ Y : YSpec, Y.goes = G → Y.adm = A → YCalls P Y → FC P W (a1 ++ .yl e :: a2) (app emp ((e, .ext Y pre0) :: C)) res (app emp ((e, .ext Y pre') :: C)))
    (hcl : callable P fid = true) (hside : sideB (R pre0) C e = true) (hids : (R pre').map (·.1) = (R pre0).map (·.1)) (ha : subIds (idsL (a1 ++ a2)) C = true) (hcaps : subIds (idsL caps) (R pre0) = true) (hres : memfree res = true) :
    FC P W (a1 ++ .fn fid caps :: a2) (app emp (R pre0 ++ C)) res (app emp (R pre' ++ C)) := by
  intro F m w us hS hl hr
  have hs := side_of hside
  -- the closure among the arguments
  have hlen : a1.length < us.length := by rw [hl]; simp
  have hf := hr a1.length (.fn fid caps) us[a1.length] (by simp) (List.getElem?_eq_getElem hlen)
  generalize huf : us[a1.length] = uf at hf
  cases hf with
  | fn _ _ cs hcl2 hcr =>
  have hp := parts_of (X := fun _ => False) (g0 := blks m ((R pre0).map (·.1))) (w0 := w) hs hS (fun b => by rw [mem_blks]; simp) (fun b h => h.elim) (Nat.le_refl _) rfl rfl rfl (fun _ _ => rfl)
  have hSR : ∀ i, i ∈ (R pre0).map (·.1) → app emp (R pre0) i = app emp (R pre0 ++ C) i := fun i hi => by
    obtain ⟨o, ho⟩ := app_emp_isSome hi
    rw [ho, hp.r i o ho]
  have hsD : ∀ b o, F.says b o → b < w.heap.size ∧ b ∉ blks m ((R pre0).map (·.1)) ∧ b ∉ blks m (C.map (·.1)) := fun b o h => by
    refine ⟨hS.low b (F.sub b o h), fun hb => ?_, fun hb => ?_⟩
    · obtain ⟨i, h1, h2⟩ := mem_blks.1 hb
      obtain ⟨o', ho'⟩ := app_emp_isSome h1
      exact hS.avoid i o' b (hp.r i o' ho') h2 (F.sub b o h)
    · obtain ⟨i, h1, h2⟩ := mem_blks.1 hb
      obtain ⟨o', ho'⟩ := app_emp_isSome h1
      exact hS.avoid i o' b (hp.c i o' ho') h2 (F.sub b o h)
  let k : Pk P := ⟨F, w, blks m ((R pre0).map (·.1)), blks m (C.map (·.1)), fun _ => False, fun _ h => h.elim, fun pre => app emp (R pre), app emp (R pre0), m, fun t => caps.getD t .junk, fun t => cs.getD t undef, fun _ _ => True, fun _ _ _ _ _ => trivial, hsD, hS.low, none⟩
  have hk : k.Of pre0 F (app emp (R pre0)) m w (blks m ((R pre0).map (·.1))) (blks m (C.map (·.1))) (fun _ => False) := ⟨rfl, rfl, rfl, rfl, rfl, rfl, rfl, rfl⟩
  have hvv : ∀ t, VRel (app emp (R pre0 ++ C)) m w (okB F (app emp (R pre0 ++ C)) m w) (k.va t) (k.vu t) := fun t => by
    show VRel _ _ _ _ (caps.getD t .junk) (cs.getD t undef)
    cases hc : caps[t]? with
    | none => simp only [List.getD, hc, Option.getD_none]; exact .junk _
    | some v =>
      have ht : t < cs.length := by rw [hcl2]; exact (List.getElem?_eq_some_iff.1 hc).1
      have := hcr t v cs[t] hc (List.getElem?_eq_getElem ht)
      simpa [List.getD, hc, ht] using this
  have hvi : ∀ t, ∀ i ∈ idsV (k.va t), app emp (R pre0) i = app emp (R pre0 ++ C) i := fun t i hi => by
    refine hSR i (subIds_iff.1 hcaps i ?_)
    have hi : i ∈ idsV (caps.getD t .junk) := hi
    cases hc : caps[t]? with
    | none => simp only [List.getD, hc, Option.getD_none] at hi; simp [idsV] at hi
    | some v =>
      simp only [List.getD, hc, Option.getD_some] at hi
      exact mem_idsL.2 ⟨v, List.mem_of_getElem? hc, hi⟩
  have hA := hp.start hk hvv hvi
  have he : app emp C e = none := app_emp_none hs.e
  have he2 : ∀ id o, app emp C id = some o → e ∉ idsO o := fun id o ho hm => hs.e (hs.cc _ (app_mem0 ho) e hm)
  obtain ⟨g1, g2⟩ := hp.packed hk hA trivial he he2 (fn := .func (.func fid) #[] cs.toArray) (kind := .inl ⟨fid, cs.toArray, rfl⟩) (goes := G) (adm := A)
  have hY : YCalls P (k.spec (.func (.func fid) #[] cs.toArray) (.inl ⟨fid, cs.toArray, rfl⟩) G A) := Pk.calls hcl hC rfl rfl (fun i v u hv hu => by
    refine ⟨?_, ?_⟩
    · show caps.getD i .junk = v; simp [List.getD, hv]
    · show cs.getD i undef = u; simp [List.getD, hu]) hcl2
  have hst : ∀ (Y : YSpec) (p : List (List Tree)), app emp ((e, .ext Y p) :: C) = upd (app emp C) e (.ext Y p) := fun Y p => by
    funext id
    show app (upd emp e _) C id = _
    by_cases q : id ∈ C.map (·.1)
    · have : id ≠ e := fun r => hs.e (r ▸ q)
      rw [upd_ne this]; exact app_at (.inl q)
    · rw [app_not q]
      by_cases r : id = e
      · subst r; rw [upd_same, upd_same]
      · rw [upd_ne r, upd_ne r, app_emp_none q]; rfl
  have hcall := hW (k.spec (.func (.func fid) #[] cs.toArray) (.inl ⟨fid, cs.toArray, rfl⟩) G A) rfl rfl hY F (yPlace m e (blks m ((R pre0).map (·.1)))) w us (by rw [hst]; exact g1) (by rw [hl]; simp) (fun i v u hv hu => by
    rw [hst]
    have same : ∀ v u, VRel (app emp (R pre0 ++ C)) m w (okB F (app emp (R pre0 ++ C)) m w) v u → (∀ i ∈ idsV v, i ∈ idsL (a1 ++ a2)) → VRel (upd (app emp C) e (.ext (k.spec (.func (.func fid) #[] cs.toArray) (.inl ⟨fid, cs.toArray, rfl⟩) G A) pre0)) (yPlace m e (blks m ((R pre0).map (·.1)))) w (okB F (upd (app emp C) e (.ext (k.spec (.func (.func fid) #[] cs.toArray) (.inl ⟨fid, cs.toArray, rfl⟩) G A) pre0)) (yPlace m e (blks m ((R pre0).map (·.1)))) w) v u := fun v u hv hi =>
      hp.val g2 hv (fun i hh => by
        have hc := subIds_iff.1 ha i (hi i hh)
        have hne : i ≠ e := fun q => hs.e (q ▸ hc)
        obtain ⟨o, ho⟩ := app_emp_isSome hc
        exact ⟨by rw [upd_ne hne, ho, hp.c i o ho], yPlace_ne hne⟩)
    rcases Nat.lt_trichotomy i a1.length with q | q | q
    · rw [List.getElem?_append_left q] at hv
      exact same v u (hr i v u (by rw [List.getElem?_append_left q]; exact hv) hu) (fun j hj => mem_idsL.2 ⟨v, List.mem_append_left _ (List.mem_of_getElem? hv), hj⟩)
    · subst q
      rw [List.getElem?_append_right (Nat.le_refl _), Nat.sub_self, List.getElem?_cons_zero] at hv
      cases hv
      have : us[a1.length]? = some (.func (.func fid) #[] cs.toArray) := by rw [List.getElem?_eq_getElem hlen, huf]
      rw [this] at hu; cases hu
      exact .yl e _ pre0 (upd_same _ _ _)
    · obtain ⟨j, rfl⟩ : ∃ j, i = a1.length + (j + 1) := ⟨i - a1.length - 1, by omega⟩
      rw [List.getElem?_append_right (by omega), show a1.length + (j + 1) - a1.length = j + 1 by omega, List.getElem?_cons_succ] at hv
      exact same v u (hr _ v u (by rw [List.getElem?_append_right (by omega), show a1.length + (j + 1) - a1.length = j + 1 by omega, List.getElem?_cons_succ]; exact hv) hu) (fun j' hj => mem_idsL.2 ⟨v, List.mem_append_right _ (List.mem_of_getElem? hv), hj⟩))
  refine hcall.mono ?_
  rintro en w1 ⟨v, m1, rfl, k1, k2, k3⟩
  rw [hst] at k1 k2 k3
  rw [hst] at k2
  have hext := (k1.objs e _ (upd_same _ _ _)).2.1
  obtain ⟨⟨mR, hA'⟩, -⟩ := hext
  have hdis : ∀ id o, app emp C id = some o → k.St pre' id = none := fun id o ho => by
    show app emp (R pre') id = none
    refine app_emp_none (fun hm => ?_)
    rw [hids] at hm
    obtain ⟨x, hx, rfl⟩ := List.mem_map.1 hm
    exact hs.dis x hx (app_emp_some ho)
  obtain ⟨mf, r1, r2, r3, -⟩ := hp.unpack hk he he2 k1 k2 hA' hdis
  have hfin : bothS (app emp C) (k.St pre') = app emp (R pre' ++ C) := by
    funext id
    rw [app_both]; rfl
  rw [hfin] at r1 r2
  exact ⟨v, mf, rfl, r1, r2, memfree_rel hres k3⟩
end Go.Ab
end
section
set_option linter.unusedVariables false
namespace Go.Ab
variable {P : Program}

/-- The record of a loop is turned: what we have lies as it lay. -/
theorem turn {F : Fen P} {st : Store} {m : Place} {w w' : World} {l : Nat} (hS : SRel F st m w) (hsz : w'.heap.size = w.heap.size) (hb : ∀ b, b ≠ l → w'.heap[b]? = w.heap[b]?) {r : Loop} (hl : w.heap[l]? = some (.loop r)) (hn : ∀ id o, st id = some o → ¬ m.has id l)
    (hY : ∀ id Y p, st id = some (.ext Y p) → ¬ Y.D l) : SRel F st m w' ∧ Still (okB F st m w) w w' := by
  have hs : Still (okB F st m w) w w' := fun b us e z _ hc => hb b (fun q => by subst q; rw [hl] at hc; cases hc)
  refine ⟨hS.still hs (fun id Y p hi hh _ => Y.stab _ _ _ _ hh (by omega) (fun b hg => hb b (fun q => hn id _ hi (q ▸ .inr hg))) (fun b hD => hb b (fun q => hY id Y p hi (q ▸ hD)))) (by omega) (fun id o b ho hm => hb b (fun q => hn id o ho (q ▸ hm))) (fun b o h => ?_), hs⟩
  rw [hb b (fun q => ?_)]
  · exact hS.hold b o h
  · subst q
    obtain ⟨us, e, z, rfl⟩ := F.cel b o h
    have := hS.hold b _ h
    rw [hl] at this; cases this
theorem putObjF (w : World) (l : Nat) (o : Obj) : (w.putObj l o).heap.size = w.heap.size ∧ ∀ b, b ≠ l → (w.putObj l o).heap[b]? = w.heap[b]? := ⟨by simp, fun b h => World.putObj_heap_other h⟩

/-- How a round may be left, as the loop's record has it. -/
def exitOf : Option Code → Option Exit
  | none => some .normal
  | some .ret => some .ret
  | some (.exit id) => some (.exit id)
  | _ => none
/-- The slots of a round: what yield was handed in its parameters. -/
def bindS (ps : List Nat) (xs : List Tree) (sl : List (Nat × AVal)) : List (Nat × AVal) := (ps.zip xs).foldl (fun s p => (p.1, .t p.2) :: s) sl
theorem bind_rel {st : Store} {m : Place} {w : World} {ok : Nat → Prop} : ∀ (ps : List Nat) (xs : List Tree) (us : List Value) (sl : List (Nat × AVal)) (tmps : Array Value), us.length = xs.length → (∀ p ∈ ps, p < tmps.size) →
    (∀ (i : Nat) (x : Tree) (u : Value), xs[i]? = some x → us[i]? = some u → TRep w ok x u) → SlotsRel st m w ok sl tmps → SlotsRel st m w ok (bindS ps xs sl) ((ps.zip us).foldl (fun t p => t.setIfInBounds p.1 p.2) tmps) ∧ ((ps.zip us).foldl (fun t p => t.setIfInBounds p.1 p.2) tmps).size = tmps.size
  | [], xs, us, sl, tmps, _, _, _, h => ⟨by simpa [bindS] using h, by simp⟩
  | p :: ps, [], [], sl, tmps, _, _, _, h => ⟨by simpa [bindS] using h, by simp⟩
  | p :: ps, x :: xs, u :: us, sl, tmps, hl, hp, hx, h => by
    have h1 : SlotsRel st m w ok ((p, .t x) :: sl) (tmps.setIfInBounds p u) := fun t => by
      have hpt := hp p List.mem_cons_self
      simp only [get]
      by_cases e : p = t
      · subst e
        have : (tmps.setIfInBounds p u).getD p undef = u := by simp [hpt]
        rw [this]; simp only [show Nat.beq p p = true from Nat.beq_refl p, cond_true]
        exact .t _ _ (hx 0 x u rfl rfl)
      · rw [beq_ne e, cond_false]
        have : (tmps.setIfInBounds p u).getD t undef = tmps.getD t undef := by simp [Array.getElem?_setIfInBounds_ne e]
        rw [this]; exact h t
    obtain ⟨i1, i2⟩ := bind_rel ps xs us ((p, .t x) :: sl) (tmps.setIfInBounds p u) (by simpa using hl) (fun q hq => by simpa using hp q (List.mem_cons_of_mem _ hq)) (fun i x' u' a b => hx (i + 1) x' u' (by simpa using a) (by simpa using b)) h1
    exact ⟨by simpa [bindS] using i1, by simpa using i2⟩
/-- What a loop over a function lays as it begins. -/
structure Entered (F : Fen P) (fn : FuncId) (tmps : Array Value) (ps : Array Tmp) (asg body : Code) (w : World) (l : Nat) (mark : List Deferred) (w1 : World) : Prop where
  run : (Instr.enterLoop fn tmps ps asg body F.rnd).run P w = .ok (l, mark) w1
  lt : w.heap.size ≤ l ∧ l < w1.heap.size
  sz : w.heap.size ≤ w1.heap.size
  same : ∀ b, b < w.heap.size → w1.heap[b]? = w.heap[b]?
  os : w1.os = w.os
  tape : w1.tape = w.tape
  output : w1.output = w.output
  rcd : ∃ d, w1.heap[l]? = some (.loop { state := .ready, pending := none, fn, tmps, params := ps, assign := asg, body, defers := d })
  mks : mark = [] ∨ ∃ D, mark = [markD D] ∧ w.heap.size ≤ D ∧ D < w1.heap.size ∧ D ≠ l ∧ w1.heap[D]? = some (.deferred (some []))
theorem enter_any (F : Fen P) (fn : FuncId) (tmps : Array Value) (ps : Array Tmp) (asg body : Code) (w : World) (h : ∀ l, F.rnd = some l → ∃ r, w.heap[l]? = some (.loop r)) : ∃ l mark w1, Entered F fn tmps ps asg body w l mark w1 := by
  cases hr : F.rnd with
  | none =>
    refine ⟨w.heap.size + 1, [markD w.heap.size], (w.alloc (.deferred (some []))).alloc (.loop { state := .ready, pending := none, fn, tmps, params := ps, assign := asg, body, defers := w.heap.size }), ?_, ⟨by omega, by simp⟩, by simp; omega, fun b hb => ?_, rfl, rfl, rfl, ⟨w.heap.size, ?_⟩, .inr ⟨w.heap.size, rfl, Nat.le_refl _, by simp; omega, by omega, ?_⟩⟩
    · rw [hr]; exact run_enterLoop_outer _ _ _ _ _
    · rw [RowKit.Below.heap_alloc _ _ b (by simp; omega), RowKit.Below.heap_alloc _ _ b hb]
    · have := World.alloc_heap_new (w.alloc (.deferred (some []))) (.loop { state := .ready, pending := none, fn, tmps, params := ps, assign := asg, body, defers := w.heap.size })
      rwa [World.size_alloc] at this
    · exact (RowKit.Below.heap_alloc _ _ _ (by simp)).trans (World.alloc_heap_new w _)
  | some l0 =>
    obtain ⟨r, hl⟩ := h l0 hr
    refine ⟨w.heap.size, [], w.alloc (.loop { state := .ready, pending := none, fn, tmps, params := ps, assign := asg, body, defers := r.defers }), ?_, ⟨Nat.le_refl _, by simp⟩, by simp, fun b hb => RowKit.Below.heap_alloc _ _ b hb, rfl, rfl, rfl, ⟨r.defers, World.alloc_heap_new w _⟩, .inl rfl⟩
    rw [hr]; exact run_enterLoop_inner hl _ _ _ _ _

variable {n : Nat} {l0 : List (Nat × Ob)} {Q : Exit → St → Prop}
def okSlots (sl slB : List (Nat × AVal)) (r : List (Nat × Ob)) : Prop := ∀ t, get slB t = .junk ∨ (get slB t = get sl t ∧ ∀ i ∈ idsV (get sl t), i ∈ r.map (·.1))
def okSlotsB (sl : List (Nat × AVal)) (r : List (Nat × Ob)) : List Nat → Bool
  | [] => true
  | t :: ts => subIds (idsV (get sl t)) r && okSlotsB sl r ts
theorem okSlots_keep {sl : List (Nat × AVal)} {r : List (Nat × Ob)} : ∀ {ts : List Nat}, okSlotsB sl r ts = true → okSlots sl (keepS sl ts) r
  | [], _ => fun t => .inl rfl
  | t :: ts, h => fun t' => by
    simp only [okSlotsB, Bool.and_eq_true] at h
    simp only [keepS, get]
    by_cases e : t = t'
    · subst e; right; simp only [show Nat.beq t t = true from Nat.beq_refl t, cond_true]; exact ⟨trivial, subIds_iff.1 h.1⟩
    · rw [beq_ne e, cond_false]; exact okSlots_keep h.2 t'
theorem Sim.rng {g : Operand} {ps : Array Tmp} {asg body : Code} {gf : FuncId} {caps : List AVal} {R : List (List Tree) → List (Nat × Ob)} {C : List (Nat × Ob)} {sl slB : List (Nat × AVal)} {nx e : Nat} {res : AVal} {vs : List (List Tree)}
    {J : List (List Tree) → Option Code} {A : List (List Tree) → List Tree → Prop} {ex : Exit}
    (hg : ev sl g = .fn gf caps)
    (hW : ∀ Y : YSpec, Y.goes = (fun p => (J p).isNone) → Y.adm = A → YCalls P Y → FC P gf (.yl e :: caps) (app emp ((e, .ext Y []) :: C)) res (app emp ((e, .ext Y vs) :: C)))
    (hA : ∀ pre xs, A pre xs → J pre = none ∧ xs.length = ps.size)
    (hbody : ∀ pre xs, A pre xs → ∃ slA RA nxA, (∀ id, nxA ≤ id → app emp RA id = none) ∧
      Sim P n (R pre) asg ⟨bindS ps.toList xs slB, app emp (R pre), nx⟩ (fun e1 s1 => e1 = .normal ∧ Le n (R pre) s1 ⟨slA, app emp RA, nxA⟩) ∧
      Sim P n RA body ⟨slA, app emp RA, nxA⟩ (fun e2 s2 => exitOf (J (pre ++ [xs])) = some e2 ∧ ∃ nx2, Le n RA s2 ⟨[], app emp (R (pre ++ [xs])), nx2⟩))
    (hcl : callable P gf = true) (hJ0 : J [] = none) (hside : sideB (R []) C e = true) (hids : ∀ pre, (R pre).map (·.1) = (R []).map (·.1)) (hcaps : subIds (idsL caps) C = true) (hsl : okSlots sl slB (R []))
    (hps : ps.toList.all (fun p => Nat.blt p n) = true) (hnx : (R []).all (fun x => Nat.blt x.1 nx) = true) (hex : exitOf (J vs) = some ex) (hq : Q ex ⟨slB, app emp (R vs ++ C), nx⟩) :
    Sim P n l0 (.rangeFunc g ps asg body) ⟨sl, app emp (R [] ++ C), nx⟩ Q := by
  intro F m0 w0 m a w h0 h1 h2
  have hs := side_of hside
  have hS := h1.srel
  -- the iterator
  have hgv : VRel (app emp (R [] ++ C)) m w (okB F (app emp (R [] ++ C)) m w) (ev sl g) (a.eval g) := ev_rel (fun t _ => h1.slots t)
  rw [hg] at hgv
  generalize hu : a.eval g = uf at hgv
  cases hgv with
  | fn _ _ cs hcl2 hcr =>
  unfold callable at hcl
  split at hcl
  rotate_left
  · cases hcl
  rename_i gfn hgfn
  simp only [Bool.and_eq_true, Bool.not_eq_true'] at hcl
  obtain ⟨gcode, hgcode⟩ := Option.isSome_iff_exists.1 hcl.1
  refine wpIn_rangeFunc ?_
  intro fn hfn
  obtain ⟨⟨mds, hm1, hm2, hm3⟩, hlo, hout⟩ := h1.defers
  obtain ⟨l, mark, w1, hE⟩ := enter_any F fn a.tmps ps asg body w (fun l hl => (hout l hl).2)
  obtain ⟨dd, hrec⟩ := hE.rcd
  obtain ⟨rec, hrecD⟩ : ∃ rec : LoopState → Option Code → Loop, rec = fun st pe => { state := st, pending := pe, fn, tmps := a.tmps, params := ps, assign := asg, body, defers := dd } := ⟨_, rfl⟩
  have hrec : w1.heap[l]? = some (.loop (rec .ready none)) := by rw [hrecD]; exact hrec
  have hE2 : Entered F fn a.tmps ps asg body w l mark w1 := hE
  obtain ⟨erun, ⟨elt1, elt2⟩, esz, esame, eos, etape, eout, -, emk⟩ := hE
  -- what is packed
  have hg0 : ∀ b, b ∈ blks m ((R []).map (·.1)) ++ [l] ↔ (∃ i ∈ (R []).map (·.1), m.has i b) ∨ b = l := fun b => by
    rw [List.mem_append, mem_blks, List.mem_singleton]
  have hp := parts_of (X := fun b => b = l) (g0 := blks m ((R []).map (·.1)) ++ [l]) (w0 := w1) hs hS hg0 (fun b hb => by subst hb; exact ⟨elt1, elt2⟩) esz eos etape eout esame
  have hSR : ∀ i, i ∈ (R []).map (·.1) → app emp (R []) i = app emp (R [] ++ C) i := fun i hi => by
    obtain ⟨o, ho⟩ := app_emp_isSome hi
    rw [ho, hp.r i o ho]
  have hsD : ∀ b o, F.says b o → b < w1.heap.size ∧ b ∉ blks m ((R []).map (·.1)) ++ [l] ∧ b ∉ blks m (C.map (·.1)) := fun b o h => by
    have hlt := hS.low b (F.sub b o h)
    refine ⟨by omega, fun hb => ?_, fun hb => ?_⟩
    · rcases (hg0 b).1 hb with ⟨i, q1, q2⟩ | q
      · obtain ⟨o', ho'⟩ := app_emp_isSome q1
        exact hS.avoid i o' b (hp.r i o' ho') q2 (F.sub b o h)
      · omega
    · obtain ⟨i, q1, q2⟩ := mem_blks.1 hb
      obtain ⟨o', ho'⟩ := app_emp_isSome q1
      exact hS.avoid i o' b (hp.c i o' ho') q2 (F.sub b o h)
  obtain ⟨stt, hstt⟩ : ∃ stt : List (List Tree) → LoopState, stt = fun pre => if (J pre).isNone then .ready else .done := ⟨_, rfl⟩
  let k : Pk P := ⟨F, w1, blks m ((R []).map (·.1)) ++ [l], blks m (C.map (·.1)), fun b => b = l, fun b hb => (hg0 b).2 (.inr hb), fun pre => app emp (R pre), app emp (R []), m, fun t => get slB t, fun t => a.tmps.getD t undef,
    fun pre W => W.heap[l]? = some (.loop (rec (stt pre) (J pre))), fun pre W W' h hb => (hb l ((hg0 l).2 (.inr rfl))).trans h, hsD, fun b hb => Nat.lt_of_lt_of_le (hS.low b hb) esz, some l⟩
  have hk : k.Of [] F (app emp (R [])) m w1 (blks m ((R []).map (·.1)) ++ [l]) (blks m (C.map (·.1))) (fun b => b = l) := ⟨rfl, rfl, rfl, rfl, rfl, rfl, rfl, rfl⟩
  have hvv : ∀ t, VRel (app emp (R [] ++ C)) m w (okB F (app emp (R [] ++ C)) m w) (k.va t) (k.vu t) := fun t => by
    show VRel _ _ _ _ (get slB t) _
    rcases hsl t with q | ⟨q, -⟩
    · rw [q]; exact .junk _
    · rw [q]; exact h1.slots t
  have hvi : ∀ t, ∀ i ∈ idsV (k.va t), app emp (R []) i = app emp (R [] ++ C) i := fun t i hi => by
    have hi : i ∈ idsV (get slB t) := hi
    rcases hsl t with q | ⟨q, q2⟩
    · rw [q] at hi; cases hi
    · rw [q] at hi; exact hSR i (q2 i hi)
  have hAt := hp.start hk hvv hvi
  have hE0 : k.E [] w1 := by
    show w1.heap[l]? = some (.loop (rec (stt []) (J [])))
    rw [show stt [] = .ready by rw [hstt]; simp [hJ0], hJ0]; exact hrec
  have he : app emp C e = none := app_emp_none hs.e
  have he2 : ∀ id o, app emp C id = some o → e ∉ idsO o := fun id o ho hm => hs.e (hs.cc _ (app_mem0 ho) e hm)
  obtain ⟨g1, g2⟩ := hp.packed hk hAt hE0 he he2 (fn := .func (.yield l) #[] #[]) (kind := .inr ⟨l, rfl⟩) (goes := fun p => (J p).isNone) (adm := A)
  -- a round
  have hY : YCalls P (k.spec (.func (.yield l) #[] #[]) (.inr ⟨l, rfl⟩) (fun p => (J p).isNone) A) := by
    intro pre xs us gg W hAd hh hgl hul hx
    obtain ⟨⟨mm, hW0⟩, hEW⟩ := hh
    obtain ⟨hJp, hxl⟩ := hA pre xs hAd
    have hEW : W.heap[l]? = some (.loop (rec .ready none)) := by
      have : W.heap[l]? = some (.loop (rec (stt pre) (J pre))) := hEW
      rw [show stt pre = .ready by rw [hstt]; simp [hJp], hJp] at this; exact this
    have hlW : l < W.heap.size := (Array.getElem?_eq_some_iff.1 hEW).1
    have hlg : l ∈ gg := hW0.g0 l ((hg0 l).2 (.inr rfl))
    refine ⟨.yield l, #[], .round l fn ((ps.zip us.toArray).foldl (fun t (p, v) => t.setIfInBounds p v) a.tmps) asg body, rfl, ?_, ?_⟩
    · have hy := run_yield (P := P) (args := us.toArray) hEW (by rw [hrecD]; simp; omega)
      rw [hrecD] at hy
      simpa only [invoke] using hy
    have hzip : (ps.zip us.toArray).foldl (fun t (p, v) => t.setIfInBounds p v) a.tmps = (ps.toList.zip us).foldl (fun t p => t.setIfInBounds p.1 p.2) a.tmps := by
      rw [← Array.foldl_toList, Array.toList_zip]
    obtain ⟨slA, RA, nxA, hfrA, hsa, hsb⟩ := hbody pre xs hAd
    have hok0 : SlotsRel (app emp (R pre)) mm W (okB (k.fy gg W.heap.size) (app emp (R pre)) mm W) slB a.tmps := fun t => hW0.val t
    have hpsn : ∀ p ∈ ps.toList, p < a.tmps.size := fun p hp => by
      rw [h1.size]; exact Nat.lt_of_succ_le (Nat.le_of_ble_eq_true (List.all_eq_true.1 hps p hp))
    obtain ⟨b1, b2⟩ := bind_rel ps.toList xs us slB a.tmps hul hpsn (fun i x u p q => (hx i x u p q).mono (fun _ h => h.elim) (fun _ _ _ h => h.elim)) hok0
    have notX : ∀ id o b, app emp (R pre) id = some o → mm.has id b → b ≠ l := fun id o b ho hm => (hW0.own id o b ho hm).2
    have hrel0 : Rel (k.fy gg W.heap.size) n ⟨bindS ps.toList xs slB, app emp (R pre), nx⟩ mm { tmps := (ps.toList.zip us).foldl (fun t p => t.setIfInBounds p.1 p.2) a.tmps, defers := [] } W :=
      ⟨b1, by rw [b2]; exact h1.size, Marks.nil (Nat.zero_le _) (fun l' hl' => by
        have : l = l' := by simpa [Pk.fy, k] using hl'
        subst this
        exact ⟨fun id o ho hm => notX id o l ho hm rfl, _, hEW⟩), hW0.rel, fun id hid => by
        refine app_emp_none (fun hm => ?_)
        rw [hids] at hm
        obtain ⟨x, hx, rfl⟩ := List.mem_map.1 hm
        have := Nat.lt_of_succ_le (Nat.le_of_ble_eq_true (List.all_eq_true.1 hnx x hx))
        simp only at hid; omega⟩
    refine roundIn_of_wpIn (F := Fence.wide) trivial ?_
    rw [hzip]
    have hsim := hsa (k.fy gg W.heap.size) mm W mm _ W hW0.rel hrel0 (FrameExt.refl _ _ _ _)
    refine wpIn_mono hsim ?_
    rintro e1 a1 W1 ⟨s1, m1, hR1, hF1, rfl, hle1⟩
    obtain ⟨m2, hR2, hF2⟩ := hle1 (k.fy gg W.heap.size) mm W m1 a1 W1 hW0.rel hR1 hF1
    have hl1 : W1.heap[l]? = some (.loop (rec .ready none)) := (hF2.block l hlW (.inr fun id o ho _ hm => notX id o l ho hm rfl)).trans hEW
    have own1 : ∀ (st' : Store) (m' : Place) (W' : World), KN (app emp (R pre)) mm W.heap.size st' m' → ∀ id o, st' id = some o → ¬ m'.has id l := fun st' m' W' hkn id o ho hm => by
      cases hr : app emp (R pre) id with
      | none =>
        rcases hkn.new id o ho hr l hm with q | ⟨i, oi, q1, _, q2⟩
        · omega
        · exact notX i oi l q1 q2 rfl
      | some o0 =>
        obtain ⟨o', _, _, _, _, hpp, _⟩ := hkn.keep id o0 hr
        rcases hpp l hm with q | q | ⟨i, oi, q1, _, q2⟩
        · exact notX id o0 l hr q rfl
        · omega
        · exact notX i oi l q1 q2 rfl
    have dl : ∀ (st' : Store) (m' : Place) (W' : World), SRel (k.fy gg W.heap.size) st' m' W' → ∀ id Y p, st' id = some (.ext Y p) → ¬ Y.D l := fun st' m' W' hSS id Y p hi hD => by
      have h3 := (hSS.objs id _ hi).2.2 l hD
      rcases Pk.ok_may h3 hlW with q | q
      · exact q.2 rfl
      · exact q.2.1 ((hg0 l).2 (.inr rfl))
    show Exit.then _ _ Exit.normal a1 W1
    refine ⟨_, run_beginRound hl1 (by rw [hrecD]), ?_⟩
    obtain ⟨z1, z2⟩ := putObjF W1 l (.loop { rec .ready none with state := .busy })
    obtain ⟨t1, t2⟩ := turn hR2.srel z1 z2 hl1 (own1 _ _ W1 hF2.kn) (dl _ _ W1 hR2.srel)
    have hl2 : (W1.putObj l (.loop { rec .ready none with state := .busy })).heap[l]? = some (.loop { rec .ready none with state := .busy }) := World.putObj_heap_same (Array.getElem?_eq_some_iff.1 hl1).1
    have z3 : (W1.putObj l (.loop { rec .ready none with state := .busy })).os = W1.os ∧ (W1.putObj l (.loop { rec .ready none with state := .busy })).tape = W1.tape ∧ (W1.putObj l (.loop { rec .ready none with state := .busy })).output = W1.output := ⟨rfl, rfl, rfl⟩
    generalize W1.putObj l (.loop { rec .ready none with state := .busy }) = W2 at z1 z2 z3 t1 t2 hl2
    have hrelB : Rel (k.fy gg W.heap.size) n ⟨slA, app emp RA, nxA⟩ m2 a1 W2 :=
      ⟨fun t => (hR2.slots t).still (fun b hb => hb.grow (by omega)) t2, hR2.size, by
        obtain ⟨⟨ml, q1, q2, q3⟩, q4, q5⟩ := hR2.defers
        refine ⟨⟨ml, q1, q2, fun D hD => ⟨(q3 D hD).1, (q3 D hD).2.1, (z2 D (fun hh => ?_)).trans (q3 D hD).2.2⟩⟩, by omega, fun l' hl' => ?_⟩
        · have := (q3 D hD).2.2; rw [hh, hl1] at this; cases this
        · have : l = l' := by simpa [Pk.fy, k] using hl'
          subst this
          exact ⟨(q5 l hl').1, _, hl2⟩, t1, hfrA⟩
    have hsim2 := hsb (k.fy gg W.heap.size) m2 W2 m2 a1 W2 t1 hrelB (FrameExt.refl _ _ _ _)
    refine wpIn_mono hsim2 ?_
    rintro e2 a2 W3 ⟨s2, m3, hR3, hF3, hex2, nx2, hle2⟩
    obtain ⟨m4, hR4, hF4⟩ := hle2 (k.fy gg W.heap.size) m2 W2 m3 a2 W3 t1 hR3 hF3
    have own2 : ∀ id o, app emp RA id = some o → ¬ m2.has id l := own1 _ _ W2 hF2.kn
    have hl3 : W3.heap[l]? = some (.loop { rec .ready none with state := .busy }) := (hF4.block l (Array.getElem?_eq_some_iff.1 hl2).1 (.inr fun id o ho _ hm => own2 id o ho hm)).trans hl2
    have hkn : KN (app emp (R pre)) mm W.heap.size (app emp (R (pre ++ [xs]))) m4 := hF2.kn.trans hF4.kn (by have := hF2.size; omega)
    have hsz3 : W.heap.size ≤ W3.heap.size := by have := hF2.size; have := hF4.size; omega
    have hval : ∀ t, VRel (app emp (R (pre ++ [xs]))) m4 W3 (okB (k.fy gg W.heap.size) (app emp (R (pre ++ [xs]))) m4 W3) (k.va t) (k.vu t) := fun t =>
      hF4.val ((hF2.val (hW0.val t)).still (fun b hb => hb.grow (by omega)) t2)
    have fin : ∀ jump : Option Code, jump = J (pre ++ [xs]) → ∃ v W4, (Instr.endRound l jump).run P W3 = .ok v W4 ∧ YPost (k.spec (.func (.yield l) #[] #[]) (.inr ⟨l, rfl⟩) (fun p => (J p).isNone) A) pre xs gg W (.returned v) W4 := by
      intro jump hj
      refine ⟨_, _, run_endRound jump hl3, ?_⟩
      obtain ⟨y1, y2⟩ := putObjF W3 l (.loop { rec .ready none with state := if jump.isNone then .ready else .done, pending := jump })
      obtain ⟨u1, u2⟩ := turn hR4.srel y1 y2 hl3 (own1 _ _ W3 hkn) (dl _ _ W3 hR4.srel)
      have hl4 : (W3.putObj l (.loop { rec .ready none with state := if jump.isNone then .ready else .done, pending := jump })).heap[l]? = some (.loop (rec (stt (pre ++ [xs])) (J (pre ++ [xs])))) := by
        rw [World.putObj_heap_same (Array.getElem?_eq_some_iff.1 hl3).1, hstt, hj, hrecD]
      have e0 : ({ rec .ready none with state := .busy, pending := none } : Loop) = { rec .ready none with state := .busy } := by rw [hrecD]
      have os4 : (W3.putObj l (.loop { rec .ready none with state := if jump.isNone then .ready else .done, pending := jump })).os = W.os ∧ (W3.putObj l (.loop { rec .ready none with state := if jump.isNone then .ready else .done, pending := jump })).tape = W.tape ∧ (W3.putObj l (.loop { rec .ready none with state := if jump.isNone then .ready else .done, pending := jump })).output = W.output :=
        ⟨hF4.os.trans (z3.1.trans hF2.os), hF4.tape.trans (z3.2.1.trans hF2.tape), hF4.output.trans (z3.2.2.trans hF2.output)⟩
      generalize W3.putObj l (.loop { rec .ready none with state := if jump.isNone then .ready else .done, pending := jump }) = W4 at y1 y2 u1 u2 hl4 os4
      refine ⟨by simp [Pk.spec, hj], os4.1, os4.2.1, os4.2.2, by omega, fun b hb hg => ?_, grow gg W.heap.size W4.heap.size, fun b hb => mem_grow.2 (.inl hb), fun b hb => mem_grow.1 hb, ⟨m4, ?_⟩, hl4⟩
      · have hbl : b ≠ l := fun q => hg (q ▸ hlg)
        rw [y2 b hbl]
        have n1 : ∀ id o, app emp (R pre) id = some o → ¬ mm.has id b := fun id o ho hm => hg (hW0.own id o b ho hm).1
        have n2 : ∀ id o, app emp RA id = some o → ¬ m2.has id b := fun id o ho hm => by
          cases hr : app emp (R pre) id with
          | none =>
            rcases hF2.kn.new id o ho hr b hm with q | ⟨i, oi, q1, _, q2⟩
            · omega
            · exact n1 i oi q1 q2
          | some o0 =>
            obtain ⟨o', _, _, _, _, hpp, _⟩ := hF2.kn.keep id o0 hr
            rcases hpp b hm with q | q | ⟨i, oi, q1, _, q2⟩
            · exact n1 id o0 hr q
            · omega
            · exact n1 i oi q1 q2
        have hs2 := hF2.size
        rw [hF4.block b (by omega) (.inr fun id o ho _ hm => n2 id o ho hm), z2 b hbl, hF2.block b hb (.inr fun id o ho _ hm => n1 id o ho hm)]
      · exact Pk.At.next (k := k) hW0 u1 hkn (by omega) (fun t => (hval t).still (fun b hb => hb.grow (by omega)) u2)
    -- the ways out of a round
    cases hjj : J (pre ++ [xs]) with
    | none =>
      rw [hjj] at hex2
      obtain rfl : Exit.normal = e2 := by simpa [exitOf] using hex2
      exact fin none hjj.symm
    | some cj =>
      rw [hjj] at hex2
      cases cj with
      | ret => obtain rfl : Exit.ret = e2 := by simpa [exitOf] using hex2
               exact fin (some .ret) hjj.symm
      | exit id => obtain rfl : Exit.exit id = e2 := by simpa [exitOf] using hex2
                   exact fin (some (.exit id)) hjj.symm
      | _ => simp [exitOf] at hex2
  have hst : ∀ (Y : YSpec) (p : List (List Tree)), app emp ((e, .ext Y p) :: C) = upd (app emp C) e (.ext Y p) := fun Y p => by
    funext id
    show app (upd emp e _) C id = _
    by_cases q : id ∈ C.map (·.1)
    · have : id ≠ e := fun r => hs.e (r ▸ q)
      rw [upd_ne this]; exact app_at (.inl q)
    · rw [app_not q]
      by_cases r : id = e
      · subst r; rw [upd_same, upd_same]
      · rw [upd_ne r, upd_ne r, app_emp_none q]; rfl
  have hcall := hW (k.spec (.func (.yield l) #[] #[]) (.inr ⟨l, rfl⟩) (fun p => (J p).isNone) A) rfl rfl hY F (yPlace m e (blks m ((R []).map (·.1)) ++ [l])) w1 (.func (.yield l) #[] #[] :: cs) (by rw [hst]; exact g1) (by simp [hcl2]) (fun i v u hv hu => by
    rw [hst]
    cases i with
    | zero =>
      simp only [List.getElem?_cons_zero, Option.some.injEq] at hv hu
      subst hv; subst hu
      exact .yl e _ [] (upd_same _ _ _)
    | succ i =>
      simp only [List.getElem?_cons_succ] at hv hu
      refine hp.val g2 (hcr i v u hv hu) (fun j hj => ?_)
      have hc := subIds_iff.1 hcaps j (mem_idsL.2 ⟨v, List.mem_of_getElem? hv, hj⟩)
      have hne : j ≠ e := fun q => hs.e (q ▸ hc)
      obtain ⟨o, ho⟩ := app_emp_isSome hc
      exact ⟨by rw [upd_ne hne, ho, hp.c j o ho], yPlace_ne hne⟩)
  refine ⟨l, mark, w1, { target := .fn (.func gf) cs.toArray, args := #[.func (.yield l) #[] #[]] }, w1, gf, (Value.func (.yield l) #[] #[] :: cs).toArray, w1, erun, ?_, ?_, ?_, ?_, ?_⟩
  · simp only [resolve, hu]; simp [go_sem]
  · intro f' hf'; trivial
  · have e2 : #[Value.func (.yield l) #[] #[]] ++ cs.toArray = (Value.func (.yield l) #[] #[] :: cs).toArray := by simp
    simp only [invoke, e2]
    exact run_enter hgfn hcl.2 hgcode _ w1
  · intro h; simp [fw, Fence.wide] at h
  refine CallsIn.mono (F := fw F) (callsIn_wide.2 hcall) ?_
  rintro en w2 ⟨v, m1, rfl, k1, k2, k3⟩
  rw [hst] at k1 k2 k3
  rw [hst] at k2
  obtain ⟨⟨mR, hA'⟩, hEv⟩ := (k1.objs e _ (upd_same _ _ _)).2.1
  have hEv : w2.heap[l]? = some (.loop (rec (stt vs) (J vs))) := hEv
  have hidm : ∀ pre i, i ∈ (R pre).map (·.1) ↔ i ∈ (R []).map (·.1) := fun pre i => by rw [hids]
  have hdis : ∀ id o, app emp C id = some o → k.St vs id = none := fun id o ho => by
    show app emp (R vs) id = none
    refine app_emp_none (fun hm => ?_)
    rw [hidm] at hm
    obtain ⟨x, hx, rfl⟩ := List.mem_map.1 hm
    exact hs.dis x hx (app_emp_some ho)
  obtain ⟨mf, r1, r2, r3, r4⟩ := hp.unpack hk he he2 k1 k2 hA' hdis
  have hfin : bothS (app emp C) (k.St vs) = app emp (R vs ++ C) := by
    funext id
    rw [app_both]; rfl
  rw [hfin] at r1 r2 r3 r4
  have fresh2 : ∀ id, app emp (R [] ++ C) id = none → app emp (R vs ++ C) id = none := fun id hid => by
    refine app_emp_none (fun hm => ?_)
    have : id ∈ (R [] ++ C).map (·.1) := by
      rw [List.map_append, List.mem_append] at hm ⊢
      exact hm.imp (fun q => (hidm vs id).1 q) (fun q => q)
    obtain ⟨o, ho⟩ := app_emp_isSome this
    rw [hid] at ho; cases ho
  have nl : ∀ id o, app emp (R vs ++ C) id = some o → ¬ mf.has id l := fun id o ho hm => by
    obtain ⟨i, oi, q1, q2⟩ := r4 id o l ho hm elt2
    have := hS.lt i oi l q1 q2; omega
  have dl : ∀ id Y p, app emp (R vs ++ C) id = some (.ext Y p) → ¬ Y.D l := fun id Y p hi hD => by
    cases hq : app emp (R [] ++ C) id with
    | none => rw [fresh2 id hq] at hi; cases hi
    | some o =>
      obtain ⟨o', q1, _, _, _, _, q6⟩ := r2.keep id o hq
      rw [hi] at q1; cases q1
      cases o <;> simp [Ob.same] at q6
      subst q6
      have := ((hS.objs id _ hq).2.2 l hD).1
      omega
  show ∃ jump w4, _ ∧ _
  have hnb : (rec (stt vs) (J vs)).state ≠ .busy := by
    rw [hrecD, hstt]
    simp only
    split <;> simp
  have hpend : (rec (stt vs) (J vs)).pending = J vs := by rw [hrecD]
  refine ⟨J vs, _, by rw [← hpend]; exact run_endLoop hEv hnb, ?_⟩
  obtain ⟨z1, z2⟩ := putObjF w2 l (.loop { rec (stt vs) (J vs) with state := .exhausted })
  obtain ⟨t1, t2⟩ := turn r1 z1 z2 hEv nl dl
  have os4 : (w2.putObj l (.loop { rec (stt vs) (J vs) with state := .exhausted })).os = w2.os ∧ (w2.putObj l (.loop { rec (stt vs) (J vs) with state := .exhausted })).tape = w2.tape ∧ (w2.putObj l (.loop { rec (stt vs) (J vs) with state := .exhausted })).output = w2.output := ⟨rfl, rfl, rfl⟩
  generalize w2.putObj l (.loop { rec (stt vs) (J vs) with state := .exhausted }) = w3 at z1 z2 t1 t2 os4
  have hF3 : FrameExt F (app emp (R [] ++ C)) m w (app emp (R vs ++ C)) mf w3 := by
    refine ⟨os4.1.trans r2.os, os4.2.1.trans r2.tape, os4.2.2.trans r2.output, by have := r2.size; omega, fun b hb hf => ?_, r2.keep, r2.new⟩
    rw [z2 b (by omega)]
    exact r2.block b hb hf
  have hmk : Marks F (app emp (R vs ++ C)) mf w3 (mark ++ a.defers) := by
    have h5 := h1.defers.ext hF3
    rcases emk with rfl | ⟨D, rfl, d1, d2, d3, d4⟩
    · exact h5
    · obtain ⟨⟨ml, q1, q2, q3⟩, q4, q5⟩ := h5
      refine ⟨⟨D :: ml, by rw [q1]; rfl, List.nodup_cons.2 ⟨fun hm => ?_, q2⟩, fun D' hD' => ?_⟩, q4, q5⟩
      · have hml : ml = mds := by
          have := q1.symm.trans hm1
          exact (List.map_inj_right (fun x y hxy => by simpa [markD] using hxy)).1 this
        rw [hml] at hm
        have := (Array.getElem?_eq_some_iff.1 (hm3 D hm).2.2).1
        omega
      · rcases List.mem_cons.1 hD' with rfl | hD'
        · refine ⟨by omega, fun id o ho hm => ?_, ?_⟩
          · obtain ⟨i, oi, p1, p2⟩ := r4 id o D' ho hm d2
            have := hS.lt i oi D' p1 p2; omega
          · rw [z2 D' d3]
            rw [k2.block D' d2 (.inr fun id o ho _ hm => ?_)]
            · exact d4
            · by_cases s : id = e
              · rw [s] at hm
                rcases (hg0 D').1 ((yPlace_e _ _ _ _).1 hm) with ⟨i, p1, p2⟩ | p
                · obtain ⟨oi, ho'⟩ := app_emp_isSome p1
                  have := hS.lt i oi D' (hp.r i oi ho') p2; omega
                · exact d3 p
              · rw [upd_ne s] at ho
                have := hS.lt id o D' (hp.c id o ho) ((yPlace_has s).1 hm); omega
        · exact q3 D' hD'
  have hrelF : Rel F n ⟨slB, app emp (R vs ++ C), nx⟩ mf { a with defers := mark ++ a.defers } w3 :=
    ⟨fun t => (r3 t).still (fun b hb => hb.grow (by omega)) t2, h1.size, hmk, t1, fun id hid => fresh2 id (h1.fresh id hid)⟩
  have hF0 := h2.trans h0 hF3
  cases hjj : J vs with
  | none =>
    rw [hjj] at hex
    obtain rfl : Exit.normal = ex := by simpa [exitOf] using hex
    exact ⟨_, mf, hrelF, hF0, hq⟩
  | some cj =>
    rw [hjj] at hex
    cases cj with
    | ret =>
      obtain rfl : Exit.ret = ex := by simpa [exitOf] using hex
      exact wpIn_ret ⟨_, mf, hrelF, hF0, hq⟩
    | exit id =>
      obtain rfl : Exit.exit id = ex := by simpa [exitOf] using hex
      exact wpIn_exit ⟨_, mf, hrelF, hF0, hq⟩
    | _ => simp [exitOf] at hex
end Go.Ab
end
section
set_option linter.unusedVariables false
namespace Go.Ab
variable {P : Program} {n : Nat} {l0 : List (Nat × Ob)} {Q : Exit → St → Prop}

/-- What the iterator is said to do: it hands over the first m of the values 'vl', one by one. -/
structure Iter (P : Program) (gf : FuncId) (caps : List AVal) (C : List (Nat × Ob)) (e : Nat) {V : Type} (enc : V → List Tree) (d : V) (vl : List V) (J : Nat → Option Code) (m : Nat) (res : AVal) : Prop where
  fc : ∀ Y : YSpec, Y.goes = (fun p => (J p.length).isNone) → (∀ k, k < vl.length → J k = none → Y.adm ((vl.take k).map enc) (enc (vl.getD k d))) → YCalls P Y →
    FC P gf (.yl e :: caps) (app emp ((e, .ext Y []) :: C)) res (app emp ((e, .ext Y ((vl.take m).map enc)) :: C))
  le : m ≤ vl.length
def rgG : Option (At × List Prop) → Operand
  | some (.mid (.rangeFunc g _ _ _) _ _, _) => g
  | _ => default
def rgP : Option (At × List Prop) → Array Tmp
  | some (.mid (.rangeFunc _ ps _ _) _ _, _) => ps
  | _ => #[]
def rgA : Option (At × List Prop) → Code
  | some (.mid (.rangeFunc _ _ a _) _ _, _) => a
  | _ => default
def rgB : Option (At × List Prop) → Code
  | some (.mid (.rangeFunc _ _ _ b) _ _, _) => b
  | _ => default
def rgK : Option (At × List Prop) → List Fr
  | some (.mid (.rangeFunc _ _ _ _) K _, _) => K
  | _ => []
def rgQ (l0 : List (Nat × Ob)) (nx : Nat) (p : List (Nat × AVal) × List (Nat × Ob)) : Option (At × List Prop) → Option ((List (Nat × AVal) × List (Nat × Ob)) × List Prop)
  | some (.mid (.rangeFunc _ _ _ _) _ s, C) => match renSt l0 (idT p.2) (keysT p.1) nx s with
    | some p => some (p, C)
    | none => none
  | _ => none
def QA (n : Nat) (l : List (Nat × Ob)) (p : List (Nat × AVal) × List (Nat × Ob)) (nx : Nat) (e : Exit) (s : St) : Prop := e = .normal ∧ Le n l s (mkSt p nx)
def QB (n : Nat) (l : List (Nat × Ob)) (j : Option Code) (r : List (Nat × Ob)) (e : Exit) (s : St) : Prop := exitOf j = some e ∧ ∃ nx, Le n l s (mkSt ([], r) nx)
theorem QA_le {l : List (Nat × Ob)} {p : List (Nat × AVal) × List (Nat × Ob)} {nx : Nat} : LeClosed n l (QA n l p nx) := fun e s s' h k => ⟨k.1, h.trans k.2⟩
theorem QB_le {l r : List (Nat × Ob)} {j : Option Code} : LeClosed n l (QB n l j r) := fun e s s' h k => ⟨k.1, k.2.elim fun nx q => ⟨nx, h.trans q⟩⟩
/-- A round: the loop's variables are set ('asg'), then the body runs. -/
structure Rnd (P : Program) (n : Nat) (asg body : Code) (ps : List Nat) (xs : List Tree) (slB : List (Nat × AVal)) (nx : Nat) (r r' : List (Nat × Ob)) (j : Option Code) (p : List (Nat × AVal) × List (Nat × Ob)) (nxA : Nat) : Prop where
  fr : p.2.all (fun x => Nat.blt x.1 nxA) = true
  a : SimC P n r (QA n r p nxA) ⟨.run asg, [], mkSt (bindS ps xs slB, r) nx⟩
  b : SimC P n p.2 (QB n p.2 j r') ⟨.run body, [], mkSt p nxA⟩
theorem SimC.rng {c : Cfg} (sc : List It) {gf : FuncId} {caps : List AVal} {V : Type} (enc : V → List Tree) (d : V) (vl : List V) (R : Nat → List (Nat × Ob)) (C : List (Nat × Ob)) (J : Nat → Option Code) (m e nx : Nat) (sl : List (Nat × AVal)) (ts : List Nat) (pA : Nat → List (Nat × AVal) × List (Nat × Ob)) (nxA : Nat) {res : AVal}
    (hit : Iter P gf caps C e enc d vl J m res)
    (hbody : ∀ k, k < vl.length → J k = none → Rnd P n (rgA (runP P n sc c)) (rgB (runP P n sc c)) (rgP (runP P n sc c)).toList (enc (vl.getD k d)) (keepS sl ts) nx (R k) (R (k + 1)) (J (k + 1)) (pA k) nxA)
    (ex : Exit) (k : SimC P n l0 Q ⟨.out ex, rgK (runP P n sc c), mkSt (keepS sl ts, R m ++ C) nx⟩)
    (hl : ∀ k, (enc (vl.getD k d)).length = (rgP (runP P n sc c)).size)
    (hJ0 : J 0 = none := by rfl) (hids : ∀ k, (R k).map (·.1) = (R 0).map (·.1) := by intro _; rfl)
    (hg : ev sl (rgG (runP P n sc c)) = .fn gf caps := by kernel_rfl) (hex : exitOf (J m) = some ex := by rfl)
    (hside : (sideB (R 0) C e && subIds (idsL caps) C && okSlotsB sl (R 0) ts && (R 0).all (fun x => Nat.blt x.1 nx) && callable P gf && (rgP (runP P n sc c)).toList.all (fun p => Nat.blt p n)) = true := by kernel_rfl)
    (h : rgQ l0 nx (sl, R 0 ++ C) (runP P n sc c) = some ((sl, R 0 ++ C), csL sc) := by kernel_rfl) : SimC P n l0 Q c := by
  generalize hr : runP P n sc c = r at *
  simp only [Bool.and_eq_true] at hside
  obtain ⟨⟨⟨⟨⟨s1, s2⟩, s3⟩, s4⟩, s5⟩, s6⟩ := hside
  match r, h with
  | some (.mid (.rangeFunc g ps asg body) K s, C'), h =>
    simp only [rgQ] at h
    split at h
    · rename_i p hp
      simp only [Option.some.injEq, Prod.mk.injEq] at h
      obtain ⟨rfl, rfl⟩ := h
      refine run_sound hr (csL_all sc) (fun hm hQ => ?_)
      have hle : Le n l0 s (mkSt (sl, R 0 ++ C) nx) := Le.ren hp
      show Sim P n l0 (.rangeFunc g ps asg body) s (wrapK P n l0 K Q)
      refine Sim.weaken hle ?_
      have hlen : ∀ k, k ≤ vl.length → ((vl.take k).map enc).length = k := fun k hk => by simp [List.length_take, Nat.min_eq_left hk]
      have hR0 : (fun p : List (List Tree) => R p.length) [] = R 0 := rfl
      refine Sim.rng (R := fun p => R p.length) (J := fun p => J p.length) (A := fun pre xs => ∃ k, k < vl.length ∧ J k = none ∧ pre = (vl.take k).map enc ∧ xs = enc (vl.getD k d)) (C := C) (e := e) (vs := (vl.take m).map enc) (ex := ex) (slB := keepS sl ts) (nx := nx) (res := res) (gf := gf) (caps := caps)
        hg (fun Y h1 h2 h3 => hit.fc Y h1 (fun k hk hj => by rw [h2]; exact ⟨k, hk, hj, rfl, rfl⟩) h3) ?_ ?_ s5 hJ0 s1 (fun pre => hids _) s2 (okSlots_keep s3) s6 s4 (by rw [hlen m hit.le]; exact hex) ?_
      · rintro pre xs ⟨k, hk, hj, rfl, rfl⟩
        exact ⟨by rw [hlen k (by omega)]; exact hj, hl k⟩
      · rintro pre xs ⟨k, hk, hj, rfl, rfl⟩
        obtain ⟨b1, b2, b3⟩ := hbody k hk hj
        have e1 : ((vl.take k).map enc).length = k := hlen k (by omega)
        have e2 : ((vl.take k).map enc ++ [enc (vl.getD k d)]).length = k + 1 := by rw [List.length_append, e1]; rfl
        refine ⟨(pA k).1, (pA k).2, nxA, fun id hid => ?_, ?_, ?_⟩
        · refine app_emp_none (fun hm => ?_)
          obtain ⟨x, hx, rfl⟩ := List.mem_map.1 hm
          have := Nat.lt_of_succ_le (Nat.le_of_ble_eq_true (List.all_eq_true.1 b1 x hx))
          omega
        · have := b2.run hm QA_le
          simp only [e1]
          exact this
        · have := b3.run hm QB_le
          simp only [e2]
          refine Sim.mono this (fun e2' s2 hq => ?_)
          obtain ⟨q1, nx2, q2⟩ := hq
          exact ⟨q1, nx2, q2⟩
      · have := k.run hm hQ
        rw [hlen m hit.le]
        exact this
    · cases h
def rbQ (τ : List (Nat × Nat)) (l0 : List (Nat × Ob)) (nx : Nat) : Option (At × List Prop) → Option (Exit × List (Nat × Ob) × List Prop)
  | some (.fin e s, C) => match renSt l0 τ [] nx s with
    | some (_, l) => some (e, l, C)
    | none => none
  | _ => none
/-- The end of a round's body. -/
theorem SimC.rend {c : Cfg} {j : Option Code} {r : List (Nat × Ob)} (sc : List It) (τ : List (Nat × Nat)) (ex : Exit) (l : List (Nat × Ob)) (he : exitOf j = some ex) (hl : l = r) (h : rbQ τ l0 (nxT τ) (runP P n sc c) = some (ex, l, csL sc) := by kernel_rfl) : SimC P n l0 (QB n l0 j r) c := by
  generalize hr : runP P n sc c = q at *
  subst hl
  match q, h with
  | some (.fin e s, C'), h =>
    simp only [rbQ] at h
    split at h
    · rename_i sl' l' hp
      simp only [Option.some.injEq, Prod.mk.injEq] at h
      obtain ⟨rfl, rfl, rfl⟩ := h
      refine run_sound hr (csL_all sc) (fun hm hQ => ?_)
      have hsl : sl' = [] := by
        unfold renSt at hp
        obtain ⟨-, hp⟩ := bif_some hp
        split at hp
        · rename_i hsl
          simp only [renSlots, Option.some.injEq] at hsl
          simp only [Option.some.injEq, Prod.mk.injEq] at hp
          rw [← hp.1, ← hsl]
        · cases hp
      subst hsl
      exact ⟨he, _, Le.ren hp⟩
    · cases h
def raQ (τ : List (Nat × Nat)) (l0 : List (Nat × Ob)) (p : List (Nat × AVal) × List (Nat × Ob)) (nx : Nat) : Option (At × List Prop) → Option ((List (Nat × AVal) × List (Nat × Ob)) × List Prop)
  | some (.fin .normal s, C) => match renSt l0 τ (keysT p.1) nx s with
    | some q => some (q, C)
    | none => none
  | _ => none
/-- The loop's variables are set. -/
theorem SimC.rass {c : Cfg} {p : List (Nat × AVal) × List (Nat × Ob)} {nx : Nat} (sc : List It) (τ : List (Nat × Nat)) (h : raQ τ l0 p nx (runP P n sc c) = some (p, csL sc) := by kernel_rfl) : SimC P n l0 (QA n l0 p nx) c := by
  generalize hr : runP P n sc c = q at *
  match q, h with
  | some (.fin .normal s, C'), h =>
    simp only [raQ] at h
    split at h
    · rename_i q' hp
      simp only [Option.some.injEq, Prod.mk.injEq] at h
      obtain ⟨rfl, rfl⟩ := h
      exact run_sound hr (csL_all sc) (fun hm hQ => ⟨rfl, Le.ren hp⟩)
    · cases h
/-- A function value that was handed in is called. -/
def Xy (P : Program) (Y : YSpec) (pre : List (List Tree)) (xs : List Tree) : Px (YCalls P Y ∧ Y.adm pre xs) := ⟨Orc.no, [YCalls P Y, Y.adm pre xs], fun h => ⟨h.1, h.2, trivial⟩⟩
/-- A bool that is known. -/
def Xbv (b b' : Bool) : Px (b = b') := ⟨oV (VB b'), [Weak (VB b) (VB b')], fun h => ⟨Weak.of_eq (by rw [h]), trivial⟩⟩
end Go.Ab
end
