/- Parts of the proof: ChDelta16, ChDelta8, ChDelta17, ChAfter, ChAfter2, ChDiff, ChDiff2, ChDiff3, ChMerge, ChMerge2, ChMerge3. -/
import Derived.Test.YtbdbibmbfmlobaaM1
import Derived.Test.YtbdbibmbfmlobaaM2
import Derived.Test.YtbdbibmbfmlobaaM3
import Derived.Test.YtbdbibmbfmlobaaM4
import Derived.Test.YtbdbibmbfmlobaaM5
import Derived.Test.YtbdbibmbfmlobaaM6
section
set_option linter.unusedVariables false
set_option linter.unusedSimpArgs false
set_option maxRecDepth 100000
set_option maxHeartbeats 4000000
open Go Go.Proofs Go.Ab
namespace Go.Ch
theorem fc_dKeep0 (o : List DStep) (a : List Elem) (c : Int) (n : Int) (l : List Attr) (h0 : n = 0) : FC Try.prog 103 [.ptr 0 0, VI n, VL 2 attrT l] (app emp [(0, .box [.row 1 o.length, .row 2 a.length, VI c]), (1, OR 4 dstepT o), (2, OR 3 elemT a)]) (.tup []) (app emp [(0, .box [.row 1 o.length, .row 2 a.length, VI c]), (1, OR 4 dstepT o), (2, OR 3 elemT a)]) := by
 refine .go Try.f103 ?_
 refine .len 2 (fun hl2 => ?_)
 refine .br [.r []] (n == 0) (fun h0 => ?_) (fun h0 => ?_)
 ·
  (try simp only [beq_iff_eq, beq_eq_false_iff_ne, ne_eq] at h0)
  exact .fin [] [(0, 0), (1, 1), (2, 2)]
 ·
  (try simp only [beq_iff_eq, beq_eq_false_iff_ne, ne_eq] at h0)
  exfalso
  omega

theorem fc_dDoneE (o : List DStep) (a : List Elem) (c : Int) (ho : o.length ≤ 100000000000) (hc : ¬ checkD (flushD ⟨o, a, c⟩) = 0) (hd : DN 400000000000 (flushD ⟨o, a, c⟩)) : FC Try.prog 105 [.ptr 0 0] (app emp [(0, .box [.row 1 o.length, .row 2 a.length, VI c]), (1, OR 4 dstepT o), (2, OR 3 elemT a)]) (.tup [VL 4 dstepT [], VI 3]) (app emp [(0, .box [.row 1 ((flushD ⟨o, a, c⟩).length), .row 3 0, VI 0]), (1, OR 4 dstepT (flushD ⟨o, a, c⟩)), (2, OF 3 elemT a), (3, OR 3 elemT [])]) := by
 refine .go Try.f105 ?_
 refine .br [.r [], .r [(1, X (Xc3 27 [(0, 0), (1, 1), (2, 2)] (fc_dFlush o a c (by omega)) X0))], .r [(4, X (Xc0 (fc_dCheck (flushD ⟨o, a, c⟩) (by assumption)) (rowC dstepT (flushD ⟨o, a, c⟩) X0)))]] ((checkD (flushD ⟨o, a, c⟩)) != 0) (fun h2 => ?_) (fun h2 => ?_)
 ·
  (try simp only [bne_iff_ne, bne_eq_false_iff_eq, ne_eq] at h2)
  exact .fin [.r [], .le (.nL 2 4)] [(0, 0), (1, 1), (2, 2), (27, 3)]
 ·
  (try simp only [bne_iff_ne, bne_eq_false_iff_eq, ne_eq] at h2)
  exfalso
  omega

theorem fc_dTidy (d : List DStep) (hd : DN 100000000000 d) (hl : d.length ≤ 100000000) (he : elS d ≤ 10000000000) : FC Try.prog 49 [VL 4 dstepT d] (app emp []) (.tup [VL 4 dstepT (tidyL d), VI (tidyE d)]) (app emp []) := by
 refine .go Try.f49 ?_
 refine .len 0 (fun hl0 => ?_)
 have hd4 := hd.mono (n := 400000000000) (by decide)
 refine .loop (α := Nat × Int × (List DStep) × (List Elem)) [.r [], .r [], .le (.nB 16 0 4), .le (.nB 16 1 3), .r [(1, X (Xl dstepT d))]] 50 (fun (i, y, o, x) => ([(4, .ptr 16 0), (8, VL 4 dstepT d), (9, VI (d.length : Int)), (10, VI (i : Int))], [(16, .box [.row 24 o.length, .row 25 x.length, VI y]), (24, OR 4 dstepT o), (25, OR 3 elemT x)])) (fun (i, y, o, x) => i ≤ d.length ∧ tidyG ⟨[], [], 0⟩ d = tidyG ⟨o, x, y⟩ (d.drop i) ∧ TB d i ⟨o, x, y⟩) (fun (i, y, o, x) => d.length - i) (0, 0, [], []) ?_ ?_
 ·
  exact ⟨by omega, rfl, TB.start d⟩
 rintro ⟨i, y, o, x⟩ I3 ih3
 try dsimp only at I3
 have b1 := I3.2.2.out
 have b2 := I3.2.2.add
 have b3 := I3.2.2.cut
 simp only at b1 b2 b3
 refine .br [.r []] (decide ((i : Int) < (d.length : Int))) (fun h3 => ?_) (fun h3 => ?_)
 ·
  (try simp only [decide_eq_true_eq, decide_eq_false_iff_not, Int.not_lt, Int.not_le] at h3)
  obtain ⟨e1, e2⟩ := elS_take (d := d) (i := i) (by omega)
  have hT := tidyG_at (d := d) (i := i) (by omega) ⟨o, x, y⟩
  obtain ⟨d1, d2, d3⟩ := hd4 _ (getD_mem' (l := d) (k := i) (by omega))
  obtain ⟨f1, f2⟩ := I3.2.2.flush (by omega) (by omega) (by omega)
  refine .br [.r [(0, X (Xi dstepT d (i : Int)))], .r [(1, X (Xc0 (fc_step ((d.getD i default))) X0))], .r [(5, Xv 1 ((((d.getD i default)).kind) == 1) X0), (6, Xv 1 ((((d.getD i default)).kind) == 1) (Xl elemT (((d.getD i default)).elems))), (7, Xv 1 ((((d.getD i default)).kind) == 1) X0), (8, X (Xk ((((d.getD i default)).kind) == 1))), (11, Xv 1 (((((d.getD i default)).kind) == 1) && (((((d.getD i default)).elems).length : Int) == 0)) X0), (12, X (Xk (((((d.getD i default)).kind) == 1) && (((((d.getD i default)).elems).length : Int) == 0)))), (15, Xv 1 (!((((((d.getD i default)).kind) == 1) && (((((d.getD i default)).elems).length : Int) == 0)) && ((stepD ((d.getD i default))) == 11))) X0), (16, Xv 1 (!((((((d.getD i default)).kind) == 1) && (((((d.getD i default)).elems).length : Int) == 0)) && ((stepD ((d.getD i default))) == 11))) X0), (17, Xv 1 (!((((((d.getD i default)).kind) == 1) && (((((d.getD i default)).elems).length : Int) == 0)) && ((stepD ((d.getD i default))) == 11))) X0), (19, Xv 1 ((!((((((d.getD i default)).kind) == 1) && (((((d.getD i default)).elems).length : Int) == 0)) && ((stepD ((d.getD i default))) == 11))) && ((((d.getD i default)).kind) != 1)) X0), (20, Xv 1 ((!((((((d.getD i default)).kind) == 1) && (((((d.getD i default)).elems).length : Int) == 0)) && ((stepD ((d.getD i default))) == 11))) && ((((d.getD i default)).kind) != 1)) X0), (21, Xka (!((((((d.getD i default)).kind) == 1) && (((((d.getD i default)).elems).length : Int) == 0)) && ((stepD ((d.getD i default))) == 11))) ((((d.getD i default)).kind) != 1)), (22, Xv 1 (!((((((d.getD i default)).kind) == 1) && (((((d.getD i default)).elems).length : Int) == 0)) && ((stepD ((d.getD i default))) == 11))) X0), (24, Xv 1 ((!((((((d.getD i default)).kind) == 1) && (((((d.getD i default)).elems).length : Int) == 0)) && ((stepD ((d.getD i default))) == 11))) && (((((d.getD i default)).kind) != 1) && ((((d.getD i default)).n) == 0))) X0), (25, Xka (!((((((d.getD i default)).kind) == 1) && (((((d.getD i default)).elems).length : Int) == 0)) && ((stepD ((d.getD i default))) == 11))) (((((d.getD i default)).kind) != 1) && ((((d.getD i default)).n) == 0))), (26, X (Xk' ((((((d.getD i default)).kind) == 1) && (((((d.getD i default)).elems).length : Int) == 0)) && ((stepD ((d.getD i default))) == 11))))]] (((((((d.getD i default)).kind) == 1) && (((((d.getD i default)).elems).length : Int) == 0)) && ((stepD ((d.getD i default))) == 11)) || ((((((d.getD i default)).kind) != 1) && ((((d.getD i default)).n) == 0)) && ((stepD ((d.getD i default))) == 2))) (fun h6 => ?_) (fun h6 => ?_)
  ·
   (try simp only [Bool.and_eq_true, Bool.and_eq_false_iff, Bool.not_eq_true', Bool.not_eq_false', Bool.or_eq_true, Bool.or_eq_false_iff, beq_iff_eq, beq_eq_false_iff_ne, ne_eq, bne_iff_ne, bne_eq_false_iff_eq] at h6)
   have hL : lenE (d.getD i default) = (chkA true (((d.getD i default)).attrs) 0) := by unfold lenE; first | rw [if_pos (by omega)] | rw [if_neg (by omega)]
   refine .br [.r [(2, X (Xc0 (fc_acheckChange (((d.getD i default)).attrs)) X0))], .r []] ((chkA true (((d.getD i default)).attrs) 0) != 0) (fun h8 => ?_) (fun h8 => ?_)
   ·
    (try simp only [bne_iff_ne, bne_eq_false_iff_eq, ne_eq] at h8)
    have e1 : ((tidyL d) : List DStep) = [] := by
     unfold tidyL
     rw [I3.2.1, hT, if_pos (by rw [hL]; exact h8)]
    have e2 : ((tidyE d) : Int) = (chkA true (((d.getD i default)).attrs) 0) := by
     unfold tidyE
     rw [I3.2.1, hT, if_pos (by rw [hL]; exact h8)]
     exact hL
    exact .finE [.r [], .le (.nL 2 4)] [] (fun (z0, z1) => (.tup [VL 4 dstepT z0, VI z1], [])) (([] : List DStep), ((chkA true (((d.getD i default)).attrs) 0) : Int)) (((tidyL d) : List DStep), ((tidyE d) : Int)) (pr e1 e2)
   ·
    (try simp only [bne_iff_ne, bne_eq_false_iff_eq, ne_eq] at h8)
    have hL0 : lenE (d.getD i default) = 0 := by rw [hL]; omega
    rw [if_neg (by rw [hL0]; decide)] at hT
    obtain ⟨hk, hn1, hn2⟩ := lenE_ok hL0
    have hN := I3.2.2.next (by omega) hd hL0
    clear h6
    refine .br [.r [], .r []] ((((d.getD i default)).kind) == 0) (fun h14 => ?_) (fun h14 => ?_)
    ·
     (try simp only [beq_iff_eq, beq_eq_false_iff_ne, ne_eq] at h14)
     by_cases hn0 : (d.getD i default).n = 0
     ·
      refine .back [.r [(4, X (Xc3 442 [(0, 16), (1, 24), (2, 25)] (fc_dKeep0 o x y (((d.getD i default)).n) (((d.getD i default)).attrs) (by assumption)) X0))], .r [(0, X (Xn ((i : Int) + 1)))]] [(16, 16), (24, 24), (25, 25)] (ih3 ((i + 1), y, o, x) ?_ ?_)
      ·
       have hW : tdW ⟨o, x, y⟩ (d.getD i default) = ⟨o, x, y⟩ := by unfold tdW; rw [if_pos h14, if_pos hn0]
       have hb : ¬ tdBad ⟨o, x, y⟩ (d.getD i default) := fun h => h.1 h14
       have hN2 := hN hb
       rw [if_neg hb] at hT
       rw [hW] at hT hN2
       exact ⟨by omega, I3.2.1.trans hT, hN2⟩
      ·
       ((try dsimp only); omega)
     ·
      refine .back [.r [(4, X (Xc3 442 [(0, 16), (1, 24), (2, 25)] (fc_dKeep o x y (((d.getD i default)).n) (((d.getD i default)).attrs) (by omega) (by first | omega | simp) (by omega) (by first | assumption | exact kbd (by assumption))) X0))], .r [(0, X (Xn ((i : Int) + 1)))]] [(16, 16), (24, 24), (442, 25)] (ih3 ((i + 1), 0, (keepD (flushD ⟨o, x, y⟩) (((d.getD i default)).n) (((d.getD i default)).attrs)), []) ?_ ?_)
      ·
       have hW : tdW ⟨o, x, y⟩ (d.getD i default) = ⟨keepD (flushD ⟨o, x, y⟩) (d.getD i default).n (d.getD i default).attrs, [], 0⟩ := by unfold tdW; rw [if_pos h14, if_neg hn0]
       have hb : ¬ tdBad ⟨o, x, y⟩ (d.getD i default) := fun h => h.1 h14
       have hN2 := hN hb
       rw [if_neg hb] at hT
       rw [hW] at hT hN2
       exact ⟨by omega, I3.2.1.trans hT, hN2⟩
      ·
       ((try dsimp only); omega)
    ·
     (try simp only [beq_iff_eq, beq_eq_false_iff_ne, ne_eq] at h14)
     refine .br [.r []] ((((d.getD i default)).kind) == 1) (fun h16 => ?_) (fun h16 => ?_)
     ·
      (try simp only [beq_iff_eq, beq_eq_false_iff_ne, ne_eq] at h16)
      have hz : True := trivial
      refine .back [.r [(2, X (Xc3 442 [(0, 16), (1, 24), (2, 25)] (fc_dElems o x y (((d.getD i default)).elems) (by assumption) (by omega)) X0))], .r [(0, X (Xn ((i : Int) + 1)))]] [(16, 16), (24, 24), (25, 25)] (ih3 ((i + 1), y, o, (x ++ (((d.getD i default)).elems))) ?_ ?_)
      ·
       have hW : tdW ⟨o, x, y⟩ (d.getD i default) = ⟨o, x ++ (d.getD i default).elems, y⟩ := by unfold tdW; rw [if_neg h14, if_pos h16]
       have hb : ¬ tdBad ⟨o, x, y⟩ (d.getD i default) := fun h => h.2.1 h16
       have hN2 := hN hb
       rw [if_neg hb] at hT
       rw [hW] at hT hN2
       exact ⟨by omega, I3.2.1.trans hT, hN2⟩
      ·
       ((try dsimp only); omega)
     ·
      (try simp only [beq_iff_eq, beq_eq_false_iff_ne, ne_eq] at h16)
      refine .br [.r [(4, X (Xn (y + (((d.getD i default)).n))))], .r []] (decide ((y + (((d.getD i default)).n)) > 2147483647)) (fun h12 => ?_) (fun h12 => ?_)
      ·
       (try simp only [decide_eq_true_eq, decide_eq_false_iff_not, Int.not_lt, Int.not_le, gt_iff_lt] at h12)
       refine .at 506 [(16, 16), (24, 24), (25, 25)] ([(4, .ptr 16 0), (8, VL 4 dstepT d), (9, VI (d.length : Int)), (10, VI (i : Int)), (59, VB (decide ((y + (((d.getD i default)).n)) > 2147483647)))], [(16, .box [.row 24 o.length, .row 25 x.length, VI (y + (((d.getD i default)).n))]), (24, OR 4 dstepT o), (25, OR 3 elemT x)]) ?_
       have e3 : ((tidyL d) : List DStep) = [] := by
        unfold tidyL
        rw [I3.2.1, hT, if_pos ⟨h14, h16, by simp only; omega⟩]
       have e4 : ((tidyE d) : Int) = 3 := by
        unfold tidyE
        rw [I3.2.1, hT, if_pos ⟨h14, h16, by simp only; omega⟩]
       exact .finE [.r [], .le (.nL 2 4)] [] (fun (z0, z1) => (.tup [VL 4 dstepT z0, VI z1], [])) (([] : List DStep), (3 : Int)) (((tidyL d) : List DStep), ((tidyE d) : Int)) (pr e3 e4)
      ·
       (try simp only [decide_eq_true_eq, decide_eq_false_iff_not, Int.not_lt, Int.not_le, gt_iff_lt] at h12)
       refine .at 506 [(16, 16), (24, 24), (25, 25)] ([(4, .ptr 16 0), (8, VL 4 dstepT d), (9, VI (d.length : Int)), (10, VI (i : Int)), (59, VB (decide ((y + (((d.getD i default)).n)) > 2147483647)))], [(16, .box [.row 24 o.length, .row 25 x.length, VI (y + (((d.getD i default)).n))]), (24, OR 4 dstepT o), (25, OR 3 elemT x)]) ?_
       refine .back [.r [(0, X (Xn ((i : Int) + 1)))]] [(16, 16), (24, 24), (25, 25)] (ih3 ((i + 1), (y + (((d.getD i default)).n)), o, x) ?_ ?_)
       ·
        have hW : tdW ⟨o, x, y⟩ (d.getD i default) = ⟨o, x, y + (d.getD i default).n⟩ := by unfold tdW; rw [if_neg h14, if_neg h16]
        have hb : ¬ tdBad ⟨o, x, y⟩ (d.getD i default) := fun h => by have := h.2.2; simp only at this; omega
        have hN2 := hN hb
        rw [if_neg hb] at hT
        rw [hW] at hT hN2
        exact ⟨by omega, I3.2.1.trans hT, hN2⟩
       ·
        ((try dsimp only); omega)
  ·
   (try simp only [Bool.and_eq_true, Bool.and_eq_false_iff, Bool.not_eq_true', Bool.not_eq_false', Bool.or_eq_true, Bool.or_eq_false_iff, beq_iff_eq, beq_eq_false_iff_ne, ne_eq, bne_iff_ne, bne_eq_false_iff_eq] at h6)
   have hL : lenE (d.getD i default) = (stepD ((d.getD i default))) := by unfold lenE; first | rw [if_pos (by omega)] | rw [if_neg (by omega)]
   refine .br [.r []] ((stepD ((d.getD i default))) != 0) (fun h8 => ?_) (fun h8 => ?_)
   ·
    (try simp only [bne_iff_ne, bne_eq_false_iff_eq, ne_eq] at h8)
    have e5 : ((tidyL d) : List DStep) = [] := by
     unfold tidyL
     rw [I3.2.1, hT, if_pos (by rw [hL]; exact h8)]
    have e6 : ((tidyE d) : Int) = (stepD ((d.getD i default))) := by
     unfold tidyE
     rw [I3.2.1, hT, if_pos (by rw [hL]; exact h8)]
     exact hL
    exact .finE [.r [], .le (.nL 2 4)] [] (fun (z0, z1) => (.tup [VL 4 dstepT z0, VI z1], [])) (([] : List DStep), ((stepD ((d.getD i default))) : Int)) (((tidyL d) : List DStep), ((tidyE d) : Int)) (pr e5 e6)
   ·
    (try simp only [bne_iff_ne, bne_eq_false_iff_eq, ne_eq] at h8)
    have hL0 : lenE (d.getD i default) = 0 := by rw [hL]; omega
    rw [if_neg (by rw [hL0]; decide)] at hT
    obtain ⟨hk, hn1, hn2⟩ := lenE_ok hL0
    have hN := I3.2.2.next (by omega) hd hL0
    clear h6
    refine .br [.r [], .r []] ((((d.getD i default)).kind) == 0) (fun h14 => ?_) (fun h14 => ?_)
    ·
     (try simp only [beq_iff_eq, beq_eq_false_iff_ne, ne_eq] at h14)
     by_cases hn0 : (d.getD i default).n = 0
     ·
      refine .back [.r [(4, X (Xc3 410 [(0, 16), (1, 24), (2, 25)] (fc_dKeep0 o x y (((d.getD i default)).n) (((d.getD i default)).attrs) (by assumption)) X0))], .r [(0, X (Xn ((i : Int) + 1)))]] [(16, 16), (24, 24), (25, 25)] (ih3 ((i + 1), y, o, x) ?_ ?_)
      ·
       have hW : tdW ⟨o, x, y⟩ (d.getD i default) = ⟨o, x, y⟩ := by unfold tdW; rw [if_pos h14, if_pos hn0]
       have hb : ¬ tdBad ⟨o, x, y⟩ (d.getD i default) := fun h => h.1 h14
       have hN2 := hN hb
       rw [if_neg hb] at hT
       rw [hW] at hT hN2
       exact ⟨by omega, I3.2.1.trans hT, hN2⟩
      ·
       ((try dsimp only); omega)
     ·
      refine .back [.r [(4, X (Xc3 410 [(0, 16), (1, 24), (2, 25)] (fc_dKeep o x y (((d.getD i default)).n) (((d.getD i default)).attrs) (by omega) (by first | omega | simp) (by omega) (by first | assumption | exact kbd (by assumption))) X0))], .r [(0, X (Xn ((i : Int) + 1)))]] [(16, 16), (24, 24), (410, 25)] (ih3 ((i + 1), 0, (keepD (flushD ⟨o, x, y⟩) (((d.getD i default)).n) (((d.getD i default)).attrs)), []) ?_ ?_)
      ·
       have hW : tdW ⟨o, x, y⟩ (d.getD i default) = ⟨keepD (flushD ⟨o, x, y⟩) (d.getD i default).n (d.getD i default).attrs, [], 0⟩ := by unfold tdW; rw [if_pos h14, if_neg hn0]
       have hb : ¬ tdBad ⟨o, x, y⟩ (d.getD i default) := fun h => h.1 h14
       have hN2 := hN hb
       rw [if_neg hb] at hT
       rw [hW] at hT hN2
       exact ⟨by omega, I3.2.1.trans hT, hN2⟩
      ·
       ((try dsimp only); omega)
    ·
     (try simp only [beq_iff_eq, beq_eq_false_iff_ne, ne_eq] at h14)
     refine .br [.r []] ((((d.getD i default)).kind) == 1) (fun h16 => ?_) (fun h16 => ?_)
     ·
      (try simp only [beq_iff_eq, beq_eq_false_iff_ne, ne_eq] at h16)
      have hz : True := trivial
      refine .back [.r [(2, X (Xc3 410 [(0, 16), (1, 24), (2, 25)] (fc_dElems o x y (((d.getD i default)).elems) (by assumption) (by omega)) X0))], .r [(0, X (Xn ((i : Int) + 1)))]] [(16, 16), (24, 24), (25, 25)] (ih3 ((i + 1), y, o, (x ++ (((d.getD i default)).elems))) ?_ ?_)
      ·
       have hW : tdW ⟨o, x, y⟩ (d.getD i default) = ⟨o, x ++ (d.getD i default).elems, y⟩ := by unfold tdW; rw [if_neg h14, if_pos h16]
       have hb : ¬ tdBad ⟨o, x, y⟩ (d.getD i default) := fun h => h.2.1 h16
       have hN2 := hN hb
       rw [if_neg hb] at hT
       rw [hW] at hT hN2
       exact ⟨by omega, I3.2.1.trans hT, hN2⟩
      ·
       ((try dsimp only); omega)
     ·
      (try simp only [beq_iff_eq, beq_eq_false_iff_ne, ne_eq] at h16)
      refine .br [.r [(4, X (Xn (y + (((d.getD i default)).n))))], .r []] (decide ((y + (((d.getD i default)).n)) > 2147483647)) (fun h12 => ?_) (fun h12 => ?_)
      ·
       (try simp only [decide_eq_true_eq, decide_eq_false_iff_not, Int.not_lt, Int.not_le, gt_iff_lt] at h12)
       refine .at 474 [(16, 16), (24, 24), (25, 25)] ([(4, .ptr 16 0), (8, VL 4 dstepT d), (9, VI (d.length : Int)), (10, VI (i : Int)), (59, VB (decide ((y + (((d.getD i default)).n)) > 2147483647)))], [(16, .box [.row 24 o.length, .row 25 x.length, VI (y + (((d.getD i default)).n))]), (24, OR 4 dstepT o), (25, OR 3 elemT x)]) ?_
       have e7 : ((tidyL d) : List DStep) = [] := by
        unfold tidyL
        rw [I3.2.1, hT, if_pos ⟨h14, h16, by simp only; omega⟩]
       have e8 : ((tidyE d) : Int) = 3 := by
        unfold tidyE
        rw [I3.2.1, hT, if_pos ⟨h14, h16, by simp only; omega⟩]
       exact .finE [.r [], .le (.nL 2 4)] [] (fun (z0, z1) => (.tup [VL 4 dstepT z0, VI z1], [])) (([] : List DStep), (3 : Int)) (((tidyL d) : List DStep), ((tidyE d) : Int)) (pr e7 e8)
      ·
       (try simp only [decide_eq_true_eq, decide_eq_false_iff_not, Int.not_lt, Int.not_le, gt_iff_lt] at h12)
       refine .at 474 [(16, 16), (24, 24), (25, 25)] ([(4, .ptr 16 0), (8, VL 4 dstepT d), (9, VI (d.length : Int)), (10, VI (i : Int)), (59, VB (decide ((y + (((d.getD i default)).n)) > 2147483647)))], [(16, .box [.row 24 o.length, .row 25 x.length, VI (y + (((d.getD i default)).n))]), (24, OR 4 dstepT o), (25, OR 3 elemT x)]) ?_
       refine .back [.r [(0, X (Xn ((i : Int) + 1)))]] [(16, 16), (24, 24), (25, 25)] (ih3 ((i + 1), (y + (((d.getD i default)).n)), o, x) ?_ ?_)
       ·
        have hW : tdW ⟨o, x, y⟩ (d.getD i default) = ⟨o, x, y + (d.getD i default).n⟩ := by unfold tdW; rw [if_neg h14, if_neg h16]
        have hb : ¬ tdBad ⟨o, x, y⟩ (d.getD i default) := fun h => by have := h.2.2; simp only at this; omega
        have hN2 := hN hb
        rw [if_neg hb] at hT
        rw [hW] at hT hN2
        exact ⟨by omega, I3.2.1.trans hT, hN2⟩
       ·
        ((try dsimp only); omega)
 ·
  (try simp only [decide_eq_true_eq, decide_eq_false_iff_not, Int.not_lt, Int.not_le] at h3)
  by_cases hck : checkD (flushD ⟨o, x, y⟩) = 0
  ·
   have hTe := tidyG_end (d := d) (i := i) (by omega) ⟨o, x, y⟩
   obtain ⟨f1, f2⟩ := I3.2.2.flush (by omega) (by omega) (by rw [List.take_of_length_le (by omega)]; omega)
   have e9 : ((tidyL d) : List DStep) = (flushD ⟨o, x, y⟩) := by
    unfold tidyL
    rw [I3.2.1, hTe, if_pos hck]
   have e10 : ((tidyE d) : Int) = 0 := by
    unfold tidyE
    rw [I3.2.1, hTe, if_pos hck]
   exact .finE [.r [(0, X (Xc3 58 [(0, 16), (1, 24), (2, 25)] (fc_dDone o x y (by omega) (by assumption) (by assumption)) X0))], .le (.fr 2 [(((flushD ⟨o, x, y⟩).length) : Nat) = (List.map dstepT (flushD ⟨o, x, y⟩)).length] ⟨lm, trivial⟩)] [] (fun (z0, z1) => (.tup [VL 4 dstepT z0, VI z1], [])) (((flushD ⟨o, x, y⟩) : List DStep), (0 : Int)) (((tidyL d) : List DStep), ((tidyE d) : Int)) (pr e9 e10)
  ·
   have hTe := tidyG_end (d := d) (i := i) (by omega) ⟨o, x, y⟩
   obtain ⟨f1, f2⟩ := I3.2.2.flush (by omega) (by omega) (by rw [List.take_of_length_le (by omega)]; omega)
   have e11 : ((tidyL d) : List DStep) = [] := by
    unfold tidyL
    rw [I3.2.1, hTe, if_neg hck]
   have e12 : ((tidyE d) : Int) = 3 := by
    unfold tidyE
    rw [I3.2.1, hTe, if_neg hck]
   exact .finE [.r [(0, X (Xc3 58 [(0, 16), (1, 24), (2, 25)] (fc_dDoneE o x y (by omega) (by assumption) (by assumption)) X0))]] [] (fun (z0, z1) => (.tup [VL 4 dstepT z0, VI z1], [])) (([] : List DStep), (3 : Int)) (((tidyL d) : List DStep), ((tidyE d) : Int)) (pr e11 e12)
end Go.Ch
end
section
set_option linter.unusedVariables false
set_option linter.unusedSimpArgs false
set_option maxRecDepth 100000
set_option maxHeartbeats 4000000
open Go Go.Proofs Go.Ab
namespace Go.Ch
end Go.Ch
end
section
set_option linter.unusedVariables false
set_option linter.unusedSimpArgs false
set_option maxRecDepth 100000
set_option maxHeartbeats 4000000
open Go Go.Proofs Go.Ab
namespace Go.Ch
end Go.Ch
end
section
set_option linter.unusedVariables false
set_option linter.unusedSimpArgs false
set_option maxRecDepth 100000
set_option maxHeartbeats 4000000
open Go Go.Proofs Go.Ab
namespace Go.Ch
theorem fc_put1 (l : List Attr) (a : Attr) (hn : l.length ≤ 400000000000) : FC Try.prog 156 [VL 2 attrT l, .t (attrT a)] (app emp []) (VL 2 attrT (putA a l false)) (app emp []) := by
 refine .go Try.f156 ?_
 refine .len 0 (fun hl0 => ?_)
 refine .loop (α := Bool × Nat × (List Attr)) [.r [], .r [], .r [], .r [(1, X (Xl attrT l))], .le (.nR 5 2)] 57 (fun (b, i, o) => ([(0, VL 2 attrT l), (3, .ptr 0 0), (5, .row 56 o.length), (6, VB b), (9, VI (l.length : Int)), (10, VI (i : Int))], [(0, .box [VS a.name, VS a.val]), (56, OR 2 attrT o)])) (fun (b, i, o) => i ≤ l.length ∧ o ++ putA a (l.drop i) b = putA a l false ∧ o.length ≤ 2 * i) (fun (b, i, o) => l.length - i) (false, 0, []) ?_ ?_
 ·
  exact ⟨by omega, rfl, by simp⟩
 rintro ⟨b, i, o⟩ I4 ih4
 try dsimp only at I4
 refine .br [.r []] (decide ((i : Int) < (l.length : Int))) (fun h4 => ?_) (fun h4 => ?_)
 ·
  (try simp only [decide_eq_true_eq, decide_eq_false_iff_not, Int.not_lt, Int.not_le] at h4)
  have hP := (putA_step (l := l) (i := i) (by omega) a b o).symm.trans I4.2.1
  refine .br [.r [], .r [(5, Xv 2 (!b) (Xi attrT l (i : Int))), (6, Xv 1 (!b) X0), (7, Xv 1 (!b) X0), (9, Xv 1 (!b) X0), (10, Xv 2 (!b) X0), (11, X (Xk (!b)))]] (!b && !(slt (((l.getD i default)).name) a.name)) (fun h6 => ?_) (fun h6 => ?_)
  ·
   (try simp only [Bool.not_eq_true', Bool.not_eq_false', Bool.and_eq_true, Bool.and_eq_false_iff] at h6)
   first
   | (rw [if_pos h6, h6.1, h6.2] at hP)
   | (have hb : (b || !(slt (l.getD i default).name a.name)) = b := by rcases h6 with h | h <;> simp [-List.getD_eq_getElem?_getD, h]
      rw [if_neg (by rintro ⟨x, y⟩; rcases h6 with h | h; (rw [x] at h; cases h); (rw [y] at h; cases h)), hb] at hP)
   refine .br [.r [(3, X (rowC attrT [a] (Xap 2 attrT 56 o [a])))], .r [], .r [(2, X (Xi attrT l (i : Int)))]] (!(seq (((l.getD i default)).name) a.name)) (fun h9 => ?_) (fun h9 => ?_)
   ·
    (try simp only [Bool.not_eq_true', Bool.not_eq_false'] at h9)
    refine .back [.r [(3, X (Xi attrT l (i : Int))), (6, X (rowC attrT [((l.getD i default))] (Xap 2 attrT 56 (o ++ [a]) [((l.getD i default))])))], .r [(0, X (Xn ((i : Int) + 1)))]] [(0, 0), (56, 56)] (ih4 (true, (i + 1), ((o ++ [a]) ++ [((l.getD i default))])) ?_ ?_)
    ·
     first | rw [if_pos h9] at hP | rw [if_neg (by rw [h9]; decide)] at hP
     refine ⟨by omega, ?_, by (try simp only [List.length_append, List.length_cons, List.length_nil]); omega⟩
     first | exact hP | (rw [← hP]; simp)
    ·
     ((try dsimp only); omega)
   ·
    (try simp only [Bool.not_eq_true', Bool.not_eq_false'] at h9)
    refine .back [.r [(0, X (Xn ((i : Int) + 1)))]] [(0, 0), (56, 56)] (ih4 (true, (i + 1), (o ++ [a])) ?_ ?_)
    ·
     first | rw [if_pos h9] at hP | rw [if_neg (by rw [h9]; decide)] at hP
     refine ⟨by omega, ?_, by (try simp only [List.length_append, List.length_cons, List.length_nil]); omega⟩
     first | exact hP | (rw [← hP]; simp)
    ·
     ((try dsimp only); omega)
  ·
   (try simp only [Bool.not_eq_true', Bool.not_eq_false', Bool.and_eq_true, Bool.and_eq_false_iff] at h6)
   first
   | (rw [if_pos h6, h6.1, h6.2] at hP)
   | (have hb : (b || !(slt (l.getD i default).name a.name)) = b := by rcases h6 with h | h <;> simp [-List.getD_eq_getElem?_getD, h]
      rw [if_neg (by rintro ⟨x, y⟩; rcases h6 with h | h; (rw [x] at h; cases h); (rw [y] at h; cases h)), hb] at hP)
   refine .br [.r [(2, X (Xi attrT l (i : Int)))]] (!(seq (((l.getD i default)).name) a.name)) (fun h9 => ?_) (fun h9 => ?_)
   ·
    (try simp only [Bool.not_eq_true', Bool.not_eq_false'] at h9)
    refine .back [.r [(3, X (Xi attrT l (i : Int))), (6, X (rowC attrT [((l.getD i default))] (Xap 2 attrT 56 o [((l.getD i default))])))], .r [(0, X (Xn ((i : Int) + 1)))]] [(0, 0), (56, 56)] (ih4 (b, (i + 1), (o ++ [((l.getD i default))])) ?_ ?_)
    ·
     first | rw [if_pos h9] at hP | rw [if_neg (by rw [h9]; decide)] at hP
     refine ⟨by omega, ?_, by (try simp only [List.length_append, List.length_cons, List.length_nil]); omega⟩
     first | exact hP | (rw [← hP]; simp)
    ·
     ((try dsimp only); omega)
   ·
    (try simp only [Bool.not_eq_true', Bool.not_eq_false'] at h9)
    refine .back [.r [(0, X (Xn ((i : Int) + 1)))]] [(0, 0), (56, 56)] (ih4 (b, (i + 1), o) ?_ ?_)
    ·
     first | rw [if_pos h9] at hP | rw [if_neg (by rw [h9]; decide)] at hP
     refine ⟨by omega, ?_, by (try simp only [List.length_append, List.length_cons, List.length_nil]); omega⟩
     first | exact hP | (rw [← hP]; simp)
    ·
     ((try dsimp only); omega)
 ·
  (try simp only [decide_eq_true_eq, decide_eq_false_iff_not, Int.not_lt, Int.not_le] at h4)
  have hP := I4.2.1
  rw [List.drop_eq_nil_of_le (by omega)] at hP
  have hol := I4.2.2
  refine .br [.r []] (!b) (fun h12 => ?_) (fun h12 => ?_)
  ·
   (try simp only [Bool.not_eq_true', Bool.not_eq_false'] at h12)
   have e1 : ((putA a l false) : List Attr) = (o ++ [a]) := by
    rw [← hP, h12]; simp [putA]
   exact .finE [.r [(3, X (rowC attrT [a] (Xap 2 attrT 56 o [a])))], .r [], .le (.fr 4 [(((o ++ [a]).length) : Nat) = (List.map attrT (o ++ [a])).length] ⟨lm, trivial⟩)] [] (fun z0 => (VL 2 attrT z0, [])) ((o ++ [a]) : List Attr) ((putA a l false) : List Attr) e1
  ·
   (try simp only [Bool.not_eq_true', Bool.not_eq_false'] at h12)
   have e2 : ((putA a l false) : List Attr) = o := by
    rw [← hP, h12]; simp [putA]
   exact .finE [.r [], .le (.fr 4 [(o.length : Nat) = (List.map attrT o).length] ⟨lm, trivial⟩)] [] (fun z0 => (VL 2 attrT z0, [])) (o : List Attr) ((putA a l false) : List Attr) e2

theorem fc_changedR (l c : List Attr) (hn : l.length ≤ 100000000000) (hc : c.length ≤ 100000000000) : FC Try.prog 147 [VL 2 attrT l, VL 2 attrT c] (app emp []) (VL 2 attrT (changedR l c)) (app emp []) := by
 refine .go Try.f147 ?_
 refine .len 0 (fun hl0 => ?_)
 refine .len 1 (fun hl1 => ?_)
 refine .loop (α := (List Attr) × Nat) [.r [], .r [], .r [(1, X (Xl attrT l))], .le (.nL 5 2)] 40 (fun (o, i) => ([(0, VL 2 attrT l), (1, VL 2 attrT c), (5, VL 2 attrT o), (11, VI (l.length : Int)), (12, VI (i : Int))], [])) (fun (o, i) => i ≤ l.length ∧ o = putsA [] (l.take i)) (fun (o, i) => l.length - i) ([], 0) ?_ ?_
 ·
  exact ⟨by omega, rfl⟩
 rintro ⟨o, i⟩ I3 ih3
 try dsimp only at I3
 have ol : o.length ≤ 100000000000 := by rw [I3.2]; have := putsA_len (l.take i) []; simp only [List.length_take, List.length_nil] at this; omega
 refine .br [.r []] (decide ((i : Int) < (l.length : Int))) (fun h3 => ?_) (fun h3 => ?_)
 ·
  (try simp only [decide_eq_true_eq, decide_eq_false_iff_not, Int.not_lt, Int.not_le] at h3)
  refine .back [.r [], .r [(3, X (Xi attrT l (i : Int))), (5, X (Xc1 104 (fc_put1 o ((l.getD i default)) (by omega)) X0))], .r [(0, X (Xn ((i : Int) + 1)))]] [] (ih3 ((putA ((l.getD i default)) o false), (i + 1)) ?_ ?_)
  ·
   refine ⟨by omega, ?_⟩
   rw [takeA (by omega), putsA_snoc, ← I3.2]
  ·
   ((try dsimp only); omega)
 ·
  (try simp only [decide_eq_true_eq, decide_eq_false_iff_not, Int.not_lt, Int.not_le] at h3)
  refine .loop (α := (List Attr) × Nat) [.r [(1, X (Xl attrT c))]] 72 (fun (p, j) => ([(1, VL 2 attrT c), (5, VL 2 attrT p), (23, VI (c.length : Int)), (24, VI (j : Int))], [])) (fun (p, j) => j ≤ c.length ∧ p = putsA (putsA [] l) (c.take j)) (fun (p, j) => c.length - j) (o, 0) ?_ ?_
  ·
   exact ⟨by omega, by rw [I3.2, List.take_of_length_le (by omega)]; rfl⟩
  rintro ⟨p, j⟩ I8 ih8
  try dsimp only at I8
  have pl : p.length ≤ 200000000000 := by rw [I8.2]; have h1 := putsA_len (c.take j) (putsA [] l); have h2 := putsA_len l []; simp only [List.length_take, List.length_nil] at h1 h2; omega
  refine .br [.r []] (decide ((j : Int) < (c.length : Int))) (fun h8 => ?_) (fun h8 => ?_)
  ·
   (try simp only [decide_eq_true_eq, decide_eq_false_iff_not, Int.not_lt, Int.not_le] at h8)
   refine .back [.r [], .r [(3, X (Xi attrT c (j : Int))), (5, X (Xc1 136 (fc_put1 p ((c.getD j default)) (by omega)) X0))], .r [(0, X (Xn ((j : Int) + 1)))]] [] (ih8 ((putA ((c.getD j default)) p false), (j + 1)) ?_ ?_)
   ·
    refine ⟨by omega, ?_⟩
    rw [takeA (by omega), putsA_snoc, ← I8.2]
   ·
    ((try dsimp only); omega)
  ·
   (try simp only [decide_eq_true_eq, decide_eq_false_iff_not, Int.not_lt, Int.not_le] at h8)
   refine .loop (α := Nat × (List Attr)) [.r [], .r [(1, X (Xl attrT p))], .le (.nR 8 2)] 113 (fun (k, r) => ([(5, VL 2 attrT p), (8, .row 112 r.length), (35, VI (p.length : Int)), (36, VI (k : Int))], [(112, OR 2 attrT r)])) (fun (k, r) => k ≤ p.length ∧ r = fullA (p.take k)) (fun (k, r) => p.length - k) (0, []) ?_ ?_
   ·
    exact ⟨by omega, rfl⟩
   rintro ⟨k, r⟩ I14 ih14
   try dsimp only at I14
   have rl : r.length ≤ p.length := by rw [I14.2]; have := fullA_len (p.take k); rw [List.length_take] at this; omega
   refine .br [.r []] (decide ((k : Int) < (p.length : Int))) (fun h14 => ?_) (fun h14 => ?_)
   ·
    (try simp only [decide_eq_true_eq, decide_eq_false_iff_not, Int.not_lt, Int.not_le] at h14)
    refine .br [.r [], .r [(2, X (Xi attrT p (k : Int)))]] (!(seq (((p.getD k default)).val) ({ data := #[] }))) (fun h16 => ?_) (fun h16 => ?_)
    ·
     (try simp only [Bool.not_eq_true', Bool.not_eq_false'] at h16)
     refine .back [.r [(3, X (Xi attrT p (k : Int))), (6, X (rowC attrT [((p.getD k default))] (Xap 2 attrT 112 r [((p.getD k default))])))], .r [(0, X (Xn ((k : Int) + 1)))]] [(112, 112)] (ih14 ((k + 1), (r ++ [((p.getD k default))])) ?_ ?_)
     ·
      refine ⟨by omega, ?_⟩
      rw [takeA (by omega), fullA_snoc, ← I14.2]
      first | rw [if_pos h16, List.append_nil] | rw [if_neg (by rw [h16]; decide)]
     ·
      ((try dsimp only); omega)
    ·
     (try simp only [Bool.not_eq_true', Bool.not_eq_false'] at h16)
     refine .back [.r [(0, X (Xn ((k : Int) + 1)))]] [(112, 112)] (ih14 ((k + 1), r) ?_ ?_)
     ·
      refine ⟨by omega, ?_⟩
      rw [takeA (by omega), fullA_snoc, ← I14.2]
      first | rw [if_pos h16, List.append_nil] | rw [if_neg (by rw [h16]; decide)]
     ·
      ((try dsimp only); omega)
   ·
    (try simp only [decide_eq_true_eq, decide_eq_false_iff_not, Int.not_lt, Int.not_le] at h14)
    have e1 : ((changedR l c) : List Attr) = r := by
     rw [I14.2, List.take_of_length_le (by omega), I8.2, List.take_of_length_le (by omega)]; rfl
    exact .finE [.r [], .le (.fr 4 [(r.length : Nat) = (List.map attrT r).length] ⟨lm, trivial⟩)] [] (fun z0 => (VL 2 attrT z0, [])) (r : List Attr) ((changedR l c) : List Attr) e1
end Go.Ch
end
section
set_option linter.unusedVariables false
set_option linter.unusedSimpArgs false
set_option maxRecDepth 100000
set_option maxHeartbeats 4000000
open Go Go.Proofs Go.Ab
namespace Go.Ch
theorem fc_actOf (d : List DStep) (hv : DValid d) (hd : DN 100000000000 d) : FC Try.prog 124 [VL 4 dstepT d] (app emp []) (.agg [.row 1 ((actOfL d).ins.length), .row 2 ((actOfL d).cut.length), .row 3 ((actOfL d).set.length)]) (app emp [(0, .box [.row 1 ((actOfL d).ins.length), .row 2 ((actOfL d).cut.length), .row 3 ((actOfL d).set.length)]), (1, OR 1 elemsT ((actOfL d).ins)), (2, OR 1 boolT ((actOfL d).cut)), (3, OR 1 attrsT ((actOfL d).set))]) := by
 refine .go Try.f124 ?_
 refine .len 0 (fun hl0 => ?_)
 have hv1 := hv.2.1
 have hv2 := hv.2.2
 refine .loop (α := Nat × (List (List Elem)) × (List Bool) × (List (List Attr))) [.r [], .r [(0, X (Xf [(0, 3)]))], .le (.nB 24 1 1), .le (.nB 24 2 1), .r [(1, X (Xl dstepT d))]] 66 (fun (i, I, C, S) => ([(0, VL 4 dstepT d), (2, .ptr 0 0), (3, .ptr 24 0), (10, VI (d.length : Int)), (11, VI (i : Int))], [(0, .box [VN, VN, VN]), (8, OR 1 elemsT I), (24, .box [.row 8 I.length, .row 40 C.length, .row 41 S.length]), (40, OR 1 boolT C), (41, OR 1 attrsT S)])) (fun (i, I, C, S) => i ≤ d.length ∧ AIv d i ⟨I, C, S⟩) (fun (i, I, C, S) => d.length - i) (0, [[]], [], []) ?_ ?_
 ·
  exact ⟨by omega, AIv.start⟩
 rintro ⟨i, I, C, S⟩ I3 ih3
 try dsimp only at I3
 have hl1 := I3.2.len
 have hl2 := I3.2.fit
 have hla := I3.2.last
 unfold ActFit at hl2
 simp only at hl1 hl2 hla
 refine .br [.r []] (decide ((i : Int) < (d.length : Int))) (fun h3 => ?_) (fun h3 => ?_)
 ·
  (try simp only [decide_eq_true_eq, decide_eq_false_iff_not, Int.not_lt, Int.not_le] at h3)
  have hN := I3.2.next hv (by omega)
  unfold actS at hN
  obtain ⟨s1, s2, s3, s4, s5, s6, s7, s8⟩ := dlens_step (l := d) (i := i) (by omega) hv.1
  obtain ⟨hx, hx2, hx3⟩ := hd.at_ (k := i) (by omega)
  refine .br [.r [], .r [(2, X (Xi dstepT d (i : Int)))], .r []] ((((d.getD i default)).kind) == 1) (fun h6 => ?_) (fun h6 => ?_)
  ·
   (try simp only [beq_iff_eq, beq_eq_false_iff_ne, ne_eq] at h6)
   rw [if_pos h6] at hN
   refine .back [.r [(3, X (Xn ((I.length : Int) - 1)))], .r [(7, X (Xp' elemsT 8 I ((I.length : Int) - 1) (I.length - 1))), (8, X (Xe elemsT I (I.length - 1))), (9, X (Xap 3 elemT 226 [] (I.getD (I.length - 1) default)) (by simp only [List.length_nil, Nat.zero_add]; omega)), (12, X (Xap 3 elemT 226 ([] ++ (I.getD (I.length - 1) default)) (((d.getD i default)).elems)) (by simp only [List.length_append, List.length_nil, Nat.zero_add]; omega)), (13, X (Xp' elemsT 8 I ((I.length : Int) - 1) (I.length - 1))), (14, X (rowC elemT (([] ++ (I.getD (I.length - 1) default)) ++ (((d.getD i default)).elems)) (Xs 1 elemsT 8 I (I.length - 1) (([] ++ (I.getD (I.length - 1) default)) ++ (((d.getD i default)).elems)) [(226, OF 3 elemT (([] ++ (I.getD (I.length - 1) default)) ++ (((d.getD i default)).elems)))])))], .r [(0, X (Xn ((i : Int) + 1)))], .le (.eb 24 0 (.row 8 I.length) (.row 8 ((I.set (I.length - 1) (([] ++ (I.getD (I.length - 1) default)) ++ (((d.getD i default)).elems))).length)) (by simp only [List.length_set]))] [(0, 0), (8, 8), (24, 24), (40, 40), (41, 41)] (ih3 ((i + 1), (I.set (I.length - 1) (([] ++ (I.getD (I.length - 1) default)) ++ (((d.getD i default)).elems))), C, S) ?_ ?_)
   ·
    exact ⟨by omega, hN⟩
   ·
    ((try dsimp only); omega)
  ·
   (try simp only [beq_iff_eq, beq_eq_false_iff_ne, ne_eq] at h6)
   rw [if_neg h6] at hN s1
   refine .loop (α := Nat × (List (List Elem)) × (List Bool) × (List (List Attr))) [.r []] 186 (fun (j, I2, C2, S2) => ([(0, VL 4 dstepT d), (2, .ptr 0 0), (3, .ptr 24 0), (5, .ptr 122 0), (10, VI (d.length : Int)), (11, VI (i : Int)), (40, VI (((d.getD i default)).n)), (41, VI (j : Int))], [(0, .box [VN, VN, VN]), (8, OR 1 elemsT I2), (24, .box [.row 8 I2.length, .row 40 C2.length, .row 41 S2.length]), (40, OR 1 boolT C2), (41, OR 1 attrsT S2), (122, .box [VI (((d.getD i default)).kind), VI (((d.getD i default)).n), VL 2 attrT (((d.getD i default)).attrs), VL 3 elemT (((d.getD i default)).elems)])])) (fun (j, I2, C2, S2) => (j : Int) ≤ (d.getD i default).n ∧ I2 = I ++ List.replicate j [] ∧ C2 = C ++ List.replicate j ((d.getD i default).kind == 2) ∧ S2 = S ++ List.replicate j (d.getD i default).attrs) (fun (j, I2, C2, S2) => (d.getD i default).n.toNat - j) (0, I, C, S) ?_ ?_
   ·
    exact ⟨by omega, by simp, by simp, by simp⟩
   rintro ⟨j, I2, C2, S2⟩ I10 ih10
   try dsimp only at I10
   have il : I2.length = I.length + j := by rw [I10.2.1]; simp
   have cl : C2.length = C.length + j := by rw [I10.2.2.1]; simp
   have sl : S2.length = S.length + j := by rw [I10.2.2.2]; simp
   refine .br [.r []] (decide ((j : Int) < (((d.getD i default)).n))) (fun h10 => ?_) (fun h10 => ?_)
   ·
    (try simp only [decide_eq_true_eq, decide_eq_false_iff_not, Int.not_lt, Int.not_le] at h10)
    refine .back [.r [(2, X (Xf [(0, 3)])), (3, X (rowC elemsT [[]] (Xap 1 elemsT 8 I2 [[]])))], .r [(6, X (rowC boolT [((((d.getD i default)).kind) == 2)] (Xap 1 boolT 40 C2 [((((d.getD i default)).kind) == 2)])))], .r [(5, X (rowC attrsT [((d.getD i default)).attrs] (Xap 1 attrsT 41 S2 [((d.getD i default)).attrs])))], .r [(0, X (Xn ((j : Int) + 1)))]] [(0, 0), (8, 8), (24, 24), (40, 40), (41, 41), (122, 122)] (ih10 ((j + 1), (I2 ++ [[]]), (C2 ++ [((((d.getD i default)).kind) == 2)]), (S2 ++ [((d.getD i default)).attrs])) ?_ ?_)
    ·
     refine ⟨by omega, ?_, ?_, ?_⟩
     · rw [I10.2.1, List.append_assoc, ← List.replicate_succ']
     · rw [I10.2.2.1, List.append_assoc, ← List.replicate_succ']
     · rw [I10.2.2.2, List.append_assoc, ← List.replicate_succ']
    ·
     ((try dsimp only); omega)
   ·
    (try simp only [decide_eq_true_eq, decide_eq_false_iff_not, Int.not_lt, Int.not_le] at h10)
    refine .back [.r [(0, X (Xn ((i : Int) + 1)))]] [(0, 0), (8, 8), (24, 24), (40, 40), (41, 41)] (ih3 ((i + 1), I2, C2, S2) ?_ ?_)
    ·
     refine ⟨by omega, ?_⟩
     have ej : j = (d.getD i default).n.toNat := by omega
     rw [I10.2.1, I10.2.2.1, I10.2.2.2, ej]
     exact hN
    ·
     ((try dsimp only); omega)
 ·
  (try simp only [decide_eq_true_eq, decide_eq_false_iff_not, Int.not_lt, Int.not_le] at h3)
  have hG := I3.2.done (by omega)
  have q1 : I = (actOfL d).ins := by rw [← hG]
  have q2 : C = (actOfL d).cut := by rw [← hG]
  have q3 : S = (actOfL d).set := by rw [← hG]
  have e1 : ((actOfL d).ins.length : Nat) = I.length := by
   first | rw [q1] | rw [q2] | rw [q3]
  have e2 : ((actOfL d).cut.length : Nat) = C.length := by
   first | rw [q1] | rw [q2] | rw [q3]
  have e3 : ((actOfL d).set.length : Nat) = S.length := by
   first | rw [q1] | rw [q2] | rw [q3]
  have e4 : ((actOfL d).ins : List (List Elem)) = I := by
   first | rw [q1] | rw [q2] | rw [q3]
  have e5 : ((actOfL d).cut : List Bool) = C := by
   first | rw [q1] | rw [q2] | rw [q3]
  have e6 : ((actOfL d).set : List (List Attr)) = S := by
   first | rw [q1] | rw [q2] | rw [q3]
  exact .finE [.r []] [(0, 0), (8, 1), (40, 2), (41, 3)] (fun (z0, z1, z2, z3, z4, z5) => (.agg [.row 1 z0, .row 2 z1, .row 3 z2], [(0, .box [.row 1 z0, .row 2 z1, .row 3 z2]), (1, OR 1 elemsT z3), (2, OR 1 boolT z4), (3, OR 1 attrsT z5)])) ((I.length : Nat), (C.length : Nat), (S.length : Nat), (I : List (List Elem)), (C : List Bool), (S : List (List Attr))) (((actOfL d).ins.length : Nat), ((actOfL d).cut.length : Nat), ((actOfL d).set.length : Nat), ((actOfL d).ins : List (List Elem)), ((actOfL d).cut : List Bool), ((actOfL d).set : List (List Attr))) (pr e1 (pr e2 (pr e3 (pr e4 (pr e5 e6)))))

theorem fc_done1 (f : List Elem) (x : Act) (hfit : ActFit x) (hl : x.cut.length = f.length) (hn : (doneR f x 0).length ≤ 100000000000) (ha : AN 100000000000 f) (hs : ∀ c ∈ x.set, c.length ≤ 100000000000) : FC Try.prog 123 [VL 3 elemT f, .t (actT x)] (app emp []) (VL 3 elemT (doneR f x 0)) (app emp []) := by
 refine .go Try.f123 ?_
 refine .len 0 (fun hl0 => ?_)
 obtain ⟨hf1, hf2⟩ := hfit
 refine .loop (α := Nat × (List Elem)) [.r [], .r [], .r [(1, X (Xl elemT f))], .le (.nR 5 3)] 49 (fun (i, o) => ([(0, VL 3 elemT f), (3, .ptr 0 0), (5, .row 48 o.length), (9, VI (f.length : Int)), (10, VI (i : Int))], [(0, .box [VL 1 elemsT x.ins, VL 1 boolT x.cut, VL 1 attrsT x.set]), (48, OR 3 elemT o)])) (fun (i, o) => i ≤ f.length ∧ o ++ doneR f x i = doneR f x 0) (fun (i, o) => f.length - i) (0, []) ?_ ?_
 ·
  exact ⟨by omega, rfl⟩
 rintro ⟨i, o⟩ I3 ih3
 try dsimp only at I3
 have hle := congrArg List.length I3.2
 rw [List.length_append] at hle
 refine .br [.r []] (decide ((i : Int) < (f.length : Int))) (fun h3 => ?_) (fun h3 => ?_)
 ·
  (try simp only [decide_eq_true_eq, decide_eq_false_iff_not, Int.not_lt, Int.not_le] at h3)
  have hP := (doneR_step (f := f) (x := x) (i := i) (by omega) o).symm.trans I3.2
  have hq := congrArg List.length hP
  simp only [List.length_append] at hq
  have hxa := ha _ (getD_mem' (l := f) (k := i) (by omega))
  have hxs := hs _ (getD_mem' (l := x.set) (k := i) (by omega))
  refine .br [.r [], .r [(4, X (Xi elemsT x.ins (i : Int))), (6, X (Xap 3 elemT 48 o (x.ins.getD i default)))], .r [(3, X (Xi boolT x.cut (i : Int)))]] (!(x.cut.getD i default)) (fun h6 => ?_) (fun h6 => ?_)
  ·
   (try simp only [Bool.not_eq_true', Bool.not_eq_false'] at h6)
   rw [if_neg (by rw [h6]; decide)] at hP hq
   simp only [List.length_cons, List.length_nil] at hq
   refine .back [.r [(2, X (Xi elemT f (i : Int)))], .r [(5, X (Xi attrsT x.set (i : Int))), (7, X (Xc1 289 (fc_changedR (((f.getD i default)).attrs) (x.set.getD i default) (by omega) (by omega)) X0))], .r [(3, X (rowC elemT [({ char := ((f.getD i default)).char, ref := ((f.getD i default)).ref, attrs := (changedR (((f.getD i default)).attrs) (x.set.getD i default)) } : Elem)] (Xap 3 elemT 48 (o ++ (x.ins.getD i default)) [({ char := ((f.getD i default)).char, ref := ((f.getD i default)).ref, attrs := (changedR (((f.getD i default)).attrs) (x.set.getD i default)) } : Elem)])) (by simp only [List.length_append, List.length_cons, List.length_nil]; omega))], .r [(0, X (Xn ((i : Int) + 1)))]] [(0, 0), (48, 48)] (ih3 ((i + 1), ((o ++ (x.ins.getD i default)) ++ [({ char := ((f.getD i default)).char, ref := ((f.getD i default)).ref, attrs := (changedR (((f.getD i default)).attrs) (x.set.getD i default)) } : Elem)])) ?_ ?_)
   ·
    refine ⟨by omega, ?_⟩
    first | exact hP | (rw [if_pos h6, List.append_nil] at hP; exact hP)
   ·
    ((try dsimp only); omega)
  ·
   (try simp only [Bool.not_eq_true', Bool.not_eq_false'] at h6)
   refine .back [.r [(0, X (Xn ((i : Int) + 1)))]] [(0, 0), (48, 48)] (ih3 ((i + 1), (o ++ (x.ins.getD i default))) ?_ ?_)
   ·
    refine ⟨by omega, ?_⟩
    first | exact hP | (rw [if_pos h6, List.append_nil] at hP; exact hP)
   ·
    ((try dsimp only); omega)
 ·
  (try simp only [decide_eq_true_eq, decide_eq_false_iff_not, Int.not_lt, Int.not_le] at h3)
  have hE := (doneR_end (f := f) (x := x) (i := i) (by omega) o).symm.trans I3.2
  have hq := congrArg List.length hE
  rw [List.length_append] at hq
  have e1 : ((doneR f x 0) : List Elem) = (o ++ (x.ins.getD f.length default)) := by
   rw [hE]
  exact .finE [.r [(4, X (Xl elemT f)), (5, X (Xi elemsT x.ins (f.length : Int))), (7, X (Xap 3 elemT 48 o (x.ins.getD f.length default)))], .le (.fr 4 [(((o ++ (x.ins.getD f.length default)).length) : Nat) = (List.map elemT (o ++ (x.ins.getD f.length default))).length] ⟨lm, trivial⟩)] [] (fun z0 => (VL 3 elemT z0, [])) ((o ++ (x.ins.getD f.length default)) : List Elem) ((doneR f x 0) : List Elem) e1

theorem fc_after (f : List Elem) (d : List DStep) (hv : DValid d) (hd : DN 100000000000 d) (hl : oldD d = f.length) (ha : AN 100000000000 f) (hf : ∀ e ∈ f, VG false e.attrs) : FC Try.prog 72 [VL 3 elemT f, VL 4 dstepT d] (app emp []) (VL 3 elemT (rawD f d)) (app emp []) := by
 refine .go Try.f72 ?_
 refine .len 0 (fun hl0 => ?_)
 refine .len 1 (fun hl1 => ?_)
 obtain ⟨q1, q2, q3⟩ := after_eq hv hl hf
 have hlen := after_len hv hl
 rw [← q3] at hlen
 have v2 := hv.2.2
 have hs : ∀ c ∈ (actOfL d).set, c.length ≤ 100000000000 := actF_set (Q := fun c => c.length ≤ 100000000000) (fun s hs => by have := (hd s hs).2.1; omega) (fun c hc => by cases hc)
 have e1 : ((rawD f d) : List Elem) = (doneR f (actOfL d) 0) := by
  rw [q3]
 exact .finE [.r [], .r [(2, X (Xc1 24 (fc_actOf d (by assumption) (by assumption)) X0)), (3, X (Xc1 32 (fc_done1 f (actOfL d) (by assumption) (by omega) (by omega) (by assumption) (by assumption)) (rowX ((actOfL d).ins.length) elemsT ((actOfL d).ins) (rowX ((actOfL d).cut.length) boolT ((actOfL d).cut) (rowX ((actOfL d).set.length) attrsT ((actOfL d).set) X0)))))]] [] (fun z0 => (VL 3 elemT z0, [])) ((doneR f (actOfL d) 0) : List Elem) ((rawD f d) : List Elem) e1
end Go.Ch
end
section
set_option linter.unusedVariables false
set_option linter.unusedSimpArgs false
set_option maxRecDepth 100000
set_option maxHeartbeats 4000000
open Go Go.Proofs Go.Ab
namespace Go.Ch
theorem fc_alike (x y : Elem) : FC Try.prog 140 [.t (elemT x), .t (elemT y)] (app emp []) (VB (alikeB x y)) (app emp []) := by
 refine .go Try.f140 ?_
 have e1 : ((alikeB x y) : Bool) = ((x.char == y.char) && (x.ref == y.ref)) := by
  rfl
 exact .finE [.r [], .r [(7, Xv 1 (x.char == y.char) X0), (9, Xv 1 (x.char == y.char) X0), (10, Xv 2 (x.char == y.char) X0), (11, X (Xk (x.char == y.char)))]] [] (fun z0 => (VB z0, [])) (((x.char == y.char) && (x.ref == y.ref)) : Bool) ((alikeB x y) : Bool) e1

theorem fc_price (x y : Elem) : FC Try.prog 141 [.t (elemT x), .t (elemT y)] (app emp []) (VI (priceI x y)) (app emp []) := by
 refine .go Try.f141 ?_
 refine .br [.r [], .r [(4, X (Xc0 (fc_attrSame x.attrs y.attrs) X0))]] (sameL x.attrs y.attrs) (fun h1 => ?_) (fun h1 => ?_)
 ·
  have e1 : ((priceI x y) : Int) = 0 := by
   unfold priceI; ((repeat' split) <;> first | rfl | omega | (simp_all; done) | (simp_all; omega))
  exact .finE [.r []] [] (fun z0 => (VI z0, [])) (0 : Int) ((priceI x y) : Int) e1
 ·
  have e2 : ((priceI x y) : Int) = 1 := by
   unfold priceI; ((repeat' split) <;> first | rfl | omega | (simp_all; done) | (simp_all; omega))
  exact .finE [.r []] [] (fun z0 => (VI z0, [])) (1 : Int) ((priceI x y) : Int) e2

theorem fc_table (a b : List Elem) (ha : a.length ≤ 1000000) (hb : b.length ≤ 1000000) : FC Try.prog 139 [VL 3 elemT a, VL 3 elemT b] (app emp []) (VL 1 intsT (tabL a b)) (app emp []) := by
 refine .go Try.f139 ?_
 refine .len 0 (fun hl0 => ?_)
 refine .len 1 (fun hl1 => ?_)
 refine .loop (α := Int × (List (List Int))) [.r [], .r [(1, X (Xl elemT a)), (2, X (Xn ((a.length : Int) + 1))), (3, X (Xmm intsT 32 ((a.length : Int) + 1) ((a.length : Int) + 1) ([] : (List Int)) [TN] ⟨tw_nil (by decide), trivial⟩))], .r [(1, X (Xl elemT a))]] 72 (fun (i, L) => ([(0, VL 3 elemT a), (1, VL 3 elemT b), (5, .mat 32), (6, VI i)], [(32, .mat false (List.map intsT L) none)])) (fun (i, L) => TO a b L i) (fun (i, L) => (i + 1).toNat) ((a.length : Int), (List.replicate (a.length + 1) ([] : (List Int)))) ?_ ?_
 ·
  exact TO.start a b
 rintro ⟨i, L⟩ I3 ih3
 replace I3 : TO a b L i := I3
 obtain ⟨i1, i2⟩ := I3.bd
 have Ll := I3.len
 refine .br [.r []] (decide (i ≥ 0)) (fun h3 => ?_) (fun h3 => ?_)
 ·
  (try simp only [decide_eq_true_eq, decide_eq_false_iff_not, Int.not_lt, Int.not_le, ge_iff_le] at h3)
  refine .loop (α := Int × (List Int)) [.r [(3, X (Xl elemT b)), (4, X (Xn ((b.length : Int) + 1))), (5, X (Xmk 1 intT 128 ((b.length : Int) + 1) ((b.length : Int) + 1) 0)), (6, X (Xmi intsT L i)), (7, X (Xms intsT L (Int.toNat i)))], .r [(1, X (Xl elemT b))]] 176 (fun (k, o) => ([(0, VL 3 elemT a), (1, VL 3 elemT b), (5, .mat 32), (6, VI i), (7, VI k)], [(32, .mat false (List.map intsT L) (some ((Int.toNat i), 128, (b.length + 1)))), (128, OR 1 intT o)])) (fun (k, o) => TI a b o i k) (fun (k, o) => (k + 1).toNat) ((b.length : Int), (List.replicate (b.length + 1) 0)) ?_ ?_
  ·
   exact TI.start a b i
  rintro ⟨k, o⟩ I7 ih7
  replace I7 : TI a b o i k := I7
  obtain ⟨k1, k2⟩ := I7.bd
  have ol := I7.len
  refine .br [.r []] (decide (k ≥ 0)) (fun h7 => ?_) (fun h7 => ?_)
  ·
   (try simp only [decide_eq_true_eq, decide_eq_false_iff_not, Int.not_lt, Int.not_le, ge_iff_le] at h7)
   refine .br [.r [(2, X (Xl elemT a))]] (i == (a.length : Int)) (fun h12 => ?_) (fun h12 => ?_)
   ·
    (try simp only [beq_iff_eq, beq_eq_false_iff_ne, ne_eq] at h12)
    refine .back [.r [(2, X (Xmi intsT L i)), (3, X (Xmh intsT L (Int.toNat i) (Int.toNat i))), (6, X (Xl elemT b)), (8, X (Xn ((b.length : Int) - k))), (9, X (Xpn (b.length + 1) intT o k)), (10, X (Xsn (b.length + 1) 1 intT 128 o (Int.toNat k) ((b.length : Int) - k)))], .r [(1, X (Xn (k - 1)))]] [(32, 32), (128, 128)] (ih7 ((k - 1), (o.set (Int.toNat k) ((b.length : Int) - k))) ?_ ?_)
    ·
     exact I7.next (by omega) (by rw [tabR, if_neg (by omega)]; omega)
    ·
     ((try dsimp only); omega)
   ·
    (try simp only [beq_iff_eq, beq_eq_false_iff_ne, ne_eq] at h12)
    refine .br [.r [(2, X (Xl elemT b))]] (k == (b.length : Int)) (fun h14 => ?_) (fun h14 => ?_)
    ·
     (try simp only [beq_iff_eq, beq_eq_false_iff_ne, ne_eq] at h14)
     refine .back [.r [(2, X (Xmi intsT L i)), (3, X (Xmh intsT L (Int.toNat i) (Int.toNat i))), (6, X (Xl elemT a)), (8, X (Xn ((a.length : Int) - i))), (9, X (Xpn (b.length + 1) intT o k)), (10, X (Xsn (b.length + 1) 1 intT 128 o (Int.toNat k) ((a.length : Int) - i)))], .r [(1, X (Xn (k - 1)))]] [(32, 32), (128, 128)] (ih7 ((k - 1), (o.set (Int.toNat k) ((a.length : Int) - i))) ?_ ?_)
     ·
      exact I7.next (by omega) (by rw [tabR, if_pos (by omega), if_neg (by omega)]; omega)
     ·
      ((try dsimp only); omega)
    ·
     (try simp only [beq_iff_eq, beq_eq_false_iff_ne, ne_eq] at h14)
     have hA := I3.below (by omega) (by omega)
     have hlA : (L.getD (Int.toNat (i + 1)) default).length = b.length + 1 := by rw [hA, rowT_len]
     have qA : ((L.getD (Int.toNat (i + 1)) default).getD (Int.toNat k) default) = tabR a b (i.toNat + 1) k.toNat := by rw [hA, rowT_at (by omega)]
     have qB := I7.right (by omega) (by omega)
     have qC : ((L.getD (Int.toNat (i + 1)) default).getD (Int.toNat (k + 1)) default) = tabR a b (i.toNat + 1) (k.toNat + 1) := by rw [hA, show Int.toNat (k + 1) = k.toNat + 1 by omega, rowT_at (by omega)]
     have dA := tab_bd' (a := a) (b := b) (i := i.toNat + 1) (k := k.toNat) (by omega) (by omega)
     have dB := tab_bd' (a := a) (b := b) (i := i.toNat) (k := k.toNat + 1) (by omega) (by omega)
     have dC := tab_bd' (a := a) (b := b) (i := i.toNat + 1) (k := k.toNat + 1) (by omega) (by omega)
     have dP := price_bd (a.getD i.toNat default) (b.getD k.toNat default)
     refine .br [.r [(2, X (Xmi intsT L i)), (3, X (Xmh intsT L (Int.toNat i) (Int.toNat i))), (7, X (Xn (i + 1))), (8, X (Xmi intsT L (i + 1))), (9, X (Xml' intsT L (Int.toNat (i + 1)) (Int.toNat i) 128 (b.length + 1))), (11, X (Xi intT (L.getD (Int.toNat (i + 1)) default) k)), (15, X (Xmi intsT L i)), (16, X (Xmh intsT L (Int.toNat i) (Int.toNat i))), (18, X (Xn (k + 1))), (19, X (Xpn (b.length + 1) intT o (k + 1))), (20, X (Xen (b.length + 1) intT o (Int.toNat (k + 1)))), (21, X (Xmin ((L.getD (Int.toNat (i + 1)) default).getD (Int.toNat k) default) (o.getD (Int.toNat (k + 1)) default))), (22, X (Xn (1 + (min ((L.getD (Int.toNat (i + 1)) default).getD (Int.toNat k) default) (o.getD (Int.toNat (k + 1)) default))))), (23, X (Xpn (b.length + 1) intT o k)), (24, X (Xsn (b.length + 1) 1 intT 128 o (Int.toNat k) (1 + (min ((L.getD (Int.toNat (i + 1)) default).getD (Int.toNat k) default) (o.getD (Int.toNat (k + 1)) default)))))], .r [(2, X (Xi elemT a i)), (6, X (Xi elemT b k)), (8, X (Xc0 (fc_alike ((a.getD (Int.toNat i) default)) ((b.getD (Int.toNat k) default))) X0))]] (alikeB ((a.getD (Int.toNat i) default)) ((b.getD (Int.toNat k) default))) (fun h10 => ?_) (fun h10 => ?_)
     ·
      have hS : ((o.set (Int.toNat k) (1 + (min ((L.getD (Int.toNat (i + 1)) default).getD (Int.toNat k) default) (o.getD (Int.toNat (k + 1)) default)))).getD (Int.toNat k) default) = (1 + (min ((L.getD (Int.toNat (i + 1)) default).getD (Int.toNat k) default) (o.getD (Int.toNat (k + 1)) default))) := getD_set_eq (by omega)
      refine .back [.r [(2, X (Xmi intsT L i)), (3, X (Xmh intsT L (Int.toNat i) (Int.toNat i))), (7, X (Xmi intsT L i)), (8, X (Xmh intsT L (Int.toNat i) (Int.toNat i))), (10, X (Xpn (b.length + 1) intT (o.set (Int.toNat k) (1 + (min ((L.getD (Int.toNat (i + 1)) default).getD (Int.toNat k) default) (o.getD (Int.toNat (k + 1)) default)))) k)), (11, X (Xen (b.length + 1) intT (o.set (Int.toNat k) (1 + (min ((L.getD (Int.toNat (i + 1)) default).getD (Int.toNat k) default) (o.getD (Int.toNat (k + 1)) default)))) (Int.toNat k))), (14, X (Xn (i + 1))), (15, X (Xmi intsT L (i + 1))), (16, X (Xml' intsT L (Int.toNat (i + 1)) (Int.toNat i) 128 (b.length + 1))), (18, X (Xn (k + 1))), (19, X (Xi intT (L.getD (Int.toNat (i + 1)) default) (k + 1))), (23, X (Xi elemT a i)), (27, X (Xi elemT b k)), (29, X (Xc0 (fc_price ((a.getD (Int.toNat i) default)) ((b.getD (Int.toNat k) default))) X0)), (30, X (Xn (((L.getD (Int.toNat (i + 1)) default).getD (Int.toNat (k + 1)) default) + (priceI ((a.getD (Int.toNat i) default)) ((b.getD (Int.toNat k) default)))))), (31, X (Xmin ((o.set (Int.toNat k) (1 + (min ((L.getD (Int.toNat (i + 1)) default).getD (Int.toNat k) default) (o.getD (Int.toNat (k + 1)) default)))).getD (Int.toNat k) default) (((L.getD (Int.toNat (i + 1)) default).getD (Int.toNat (k + 1)) default) + (priceI ((a.getD (Int.toNat i) default)) ((b.getD (Int.toNat k) default)))))), (32, X (Xpn (b.length + 1) intT (o.set (Int.toNat k) (1 + (min ((L.getD (Int.toNat (i + 1)) default).getD (Int.toNat k) default) (o.getD (Int.toNat (k + 1)) default)))) k)), (33, X (Xsn (b.length + 1) 1 intT 128 (o.set (Int.toNat k) (1 + (min ((L.getD (Int.toNat (i + 1)) default).getD (Int.toNat k) default) (o.getD (Int.toNat (k + 1)) default)))) (Int.toNat k) (min ((o.set (Int.toNat k) (1 + (min ((L.getD (Int.toNat (i + 1)) default).getD (Int.toNat k) default) (o.getD (Int.toNat (k + 1)) default)))).getD (Int.toNat k) default) (((L.getD (Int.toNat (i + 1)) default).getD (Int.toNat (k + 1)) default) + (priceI ((a.getD (Int.toNat i) default)) ((b.getD (Int.toNat k) default)))))))], .r [(1, X (Xn (k - 1)))]] [(32, 32), (128, 128)] (ih7 ((k - 1), ((o.set (Int.toNat k) (1 + (min ((L.getD (Int.toNat (i + 1)) default).getD (Int.toNat k) default) (o.getD (Int.toNat (k + 1)) default)))).set (Int.toNat k) (min ((o.set (Int.toNat k) (1 + (min ((L.getD (Int.toNat (i + 1)) default).getD (Int.toNat k) default) (o.getD (Int.toNat (k + 1)) default)))).getD (Int.toNat k) default) (((L.getD (Int.toNat (i + 1)) default).getD (Int.toNat (k + 1)) default) + (priceI ((a.getD (Int.toNat i) default)) ((b.getD (Int.toNat k) default))))))) ?_ ?_)
      ·
       rw [List.set_set]
       refine I7.next (by omega) ?_
       rw [hS, qA, qB, qC]
       conv => rhs; rw [tabR]
       rw [if_pos (by omega), if_pos (by omega), if_pos h10]
      ·
       ((try dsimp only); omega)
     ·
      refine .back [.r [(1, X (Xn (k - 1)))]] [(32, 32), (128, 128)] (ih7 ((k - 1), (o.set (Int.toNat k) (1 + (min ((L.getD (Int.toNat (i + 1)) default).getD (Int.toNat k) default) (o.getD (Int.toNat (k + 1)) default))))) ?_ ?_)
      ·
       refine I7.next (by omega) ?_
       rw [qA, qB]
       conv => rhs; rw [tabR]
       rw [if_pos (by omega), if_pos (by omega), if_neg (by rw [h10]; decide)]
      ·
       ((try dsimp only); omega)
  ·
   (try simp only [decide_eq_true_eq, decide_eq_false_iff_not, Int.not_lt, Int.not_le, ge_iff_le] at h7)
   refine .back [.le (.mc 32 (List.map intsT (L.set (Int.toNat i) o)) _ (mc_ok (f := intsT) (g := intT) (l := L) (x := o) (o := o) (q := (b.length + 1)) (i := (Int.toNat i)) (k := 1) (by first | rfl | omega) rfl)), .r [(1, X (Xn (i - 1)))]] [(32, 32)] (ih3 ((i - 1), (L.set (Int.toNat i) o)) ?_ ?_)
   ·
    exact I3.next (by omega) I7 (by omega)
   ·
    ((try dsimp only); omega)
 ·
  (try simp only [decide_eq_true_eq, decide_eq_false_iff_not, Int.not_lt, Int.not_le, ge_iff_le] at h3)
  have hL := I3.done (by omega)
  have e1 : ((tabL a b) : List (List Int)) = L := by
   rw [hL]
  exact .finE [.r [], .le (.mf 4)] [] (fun z0 => (VL 1 intsT z0, [])) (L : List (List Int)) ((tabL a b) : List (List Int)) e1
end Go.Ch
end
section
set_option linter.unusedVariables false
set_option linter.unusedSimpArgs false
set_option maxRecDepth 100000
set_option maxHeartbeats 4000000
open Go Go.Proofs Go.Ab
namespace Go.Ch
theorem fc_diffRaw (a b : List Elem) (pa : partE a 0 = 0) (pb : partE b 0 = 0) (na : AN 1000000000 a) (nb : AN 1000000000 b) (la : a.length ≤ 2000) (lb : b.length ≤ 2000) : FC Try.prog 116 [VL 3 elemT a, VL 3 elemT b] (app emp []) (VL 4 dstepT (doneD (diffU a b))) (app emp []) := by
 refine .go Try.f116 ?_
 refine .len 0 (fun hl0 => ?_)
 refine .len 1 (fun hl1 => ?_)
 obtain ⟨t1, t2, t3, t4, t5, _⟩ := diff_law pa pb na nb la lb
 refine .br [.r [], .r [(1, X (Xl elemT a)), (5, Xv 1 (decide ((a.length : Int) > 0)) (Xl elemT b)), (6, Xv 1 (decide ((a.length : Int) > 0)) X0), (7, X (Xk (decide ((a.length : Int) > 0)))), (11, Xv 1 (decide ((a.length : Int) > 0) && decide ((b.length : Int) > 0)) (Xl elemT a)), (12, Xv 1 (decide ((a.length : Int) > 0) && decide ((b.length : Int) > 0)) (Xn ((a.length : Int) - 1))), (13, Xv 2 (decide ((a.length : Int) > 0) && decide ((b.length : Int) > 0)) (Xi' elemT a ((a.length : Int) - 1) (a.length - 1)) (fun hg => by (try simp only [decide_eq_true_eq, decide_eq_false_iff_not, Int.not_lt, Int.not_le, gt_iff_lt, Bool.and_eq_true, Bool.and_eq_false_iff, Bool.not_eq_true', Bool.not_eq_false'] at hg); exact ⟨(by omega), (by omega)⟩)), (14, Xv 1 (decide ((a.length : Int) > 0) && decide ((b.length : Int) > 0)) X0), (15, Xv 1 (decide ((a.length : Int) > 0) && decide ((b.length : Int) > 0)) X0), (16, Xv 1 (decide ((a.length : Int) > 0) && decide ((b.length : Int) > 0)) X0), (17, X (Xk (decide ((a.length : Int) > 0) && decide ((b.length : Int) > 0)))), (21, Xv 1 ((decide ((a.length : Int) > 0) && decide ((b.length : Int) > 0)) && ((((a.getD (a.length - 1) default)).char) == 10)) (Xl elemT b)), (22, Xv 1 ((decide ((a.length : Int) > 0) && decide ((b.length : Int) > 0)) && ((((a.getD (a.length - 1) default)).char) == 10)) (Xn ((b.length : Int) - 1))), (23, Xv 2 ((decide ((a.length : Int) > 0) && decide ((b.length : Int) > 0)) && ((((a.getD (a.length - 1) default)).char) == 10)) (Xi' elemT b ((b.length : Int) - 1) (b.length - 1)) (fun hg => by (try simp only [decide_eq_true_eq, decide_eq_false_iff_not, Int.not_lt, Int.not_le, gt_iff_lt, Bool.and_eq_true, Bool.and_eq_false_iff, Bool.not_eq_true', Bool.not_eq_false', beq_iff_eq, beq_eq_false_iff_ne, ne_eq] at hg); exact ⟨(by omega), (by omega)⟩)), (24, Xv 1 ((decide ((a.length : Int) > 0) && decide ((b.length : Int) > 0)) && ((((a.getD (a.length - 1) default)).char) == 10)) X0), (25, Xv 1 ((decide ((a.length : Int) > 0) && decide ((b.length : Int) > 0)) && ((((a.getD (a.length - 1) default)).char) == 10)) X0), (26, Xv 1 ((decide ((a.length : Int) > 0) && decide ((b.length : Int) > 0)) && ((((a.getD (a.length - 1) default)).char) == 10)) X0), (27, X (Xk ((decide ((a.length : Int) > 0) && decide ((b.length : Int) > 0)) && ((((a.getD (a.length - 1) default)).char) == 10))))], .r [], .r []] (((decide ((a.length : Int) > 0) && decide ((b.length : Int) > 0)) && ((((a.getD (a.length - 1) default)).char) == 10)) && ((((b.getD (b.length - 1) default)).char) == 10)) (fun h3 => ?_) (fun h3 => ?_)
 ·
  (try simp only [decide_eq_true_eq, decide_eq_false_iff_not, Int.not_lt, Int.not_le, gt_iff_lt, Bool.and_eq_true, Bool.and_eq_false_iff, Bool.not_eq_true', Bool.not_eq_false', beq_iff_eq, beq_eq_false_iff_ne, ne_eq] at h3)
  have na1 := na _ (getD_mem' (l := a) (k := a.length - 1) (by omega))
  have nb1 := nb _ (getD_mem' (l := b) (k := b.length - 1) (by omega))
  have il := ini_len (a := a)
  have jl := ini_len (a := b)
  have hD : diffU a b = (if TiedP a b then pathU (ini a) (ini b) 0 0 ++ [.K (chgU (lst a) (lst b))] else pathU a b 0 0) := rfl
  first
  | rw [if_pos ⟨⟨⟨by omega, by omega⟩, h3.1.2⟩, h3.2⟩] at hD
  | rw [if_neg (by rintro ⟨⟨⟨q1, q2⟩, q3⟩, q4⟩; rcases h3 with ((h | h) | h) | h; (omega); (omega); (exact h q3); (exact h q4))] at hD
  have lT := tabL_len (ini a) (ini b)
  refine .loop (α := Nat × Nat × (List DStep)) [.r [(2, X (Xl elemT a)), (3, X (Xn ((a.length : Int) - 1))), (4, X (Xi' elemT a ((a.length : Int) - 1) (a.length - 1))), (8, X (Xl elemT b)), (9, X (Xn ((b.length : Int) - 1))), (10, X (Xi' elemT b ((b.length : Int) - 1) (b.length - 1)))], .r [(4, X (Xc1 416 (fc_change (((a.getD (a.length - 1) default)).attrs) (((b.getD (b.length - 1) default)).attrs) (by omega)) X0)), (5, X (Xf [(3, 3)]))], .r [(2, X (Xl elemT a)), (3, X (Xn ((a.length : Int) - 1))), (4, X (Xst elemT 3 a ((a.length : Int) - 1))), (7, X (Xl elemT b)), (8, X (Xn ((b.length : Int) - 1))), (9, X (Xst elemT 3 b ((b.length : Int) - 1)))], .le (.eq 0 (VL 3 elemT (a.take (Int.toNat ((a.length : Int) - 1)))) (VL 3 elemT (ini a)) (.of_eq (by unfold ini; rw [show Int.toNat ((a.length : Int) - 1) = a.length - 1 by omega]))), .le (.eq 1 (VL 3 elemT (b.take (Int.toNat ((b.length : Int) - 1)))) (VL 3 elemT (ini b)) (.of_eq (by unfold ini; rw [show Int.toNat ((b.length : Int) - 1) = b.length - 1 by omega]))), .r [(2, X (Xc1 560 (fc_table (ini a) (ini b) (by omega) (by omega)) X0))], .r [], .r [], .le (.nR 10 4)] 601 (fun (i, k, o) => ([(0, VL 3 elemT (ini a)), (1, VL 3 elemT (ini b)), (6, .row 432 1), (9, VL 1 intsT (tabL (ini a) (ini b))), (10, .row 600 o.length), (11, VI (i : Int)), (12, VI (k : Int))], [(432, OR 4 dstepT [({ kind := 0, n := 1, attrs := (fm chgG (((a.getD (a.length - 1) default)).attrs) (((b.getD (b.length - 1) default)).attrs)), elems := [] } : DStep)]), (600, OR 4 dstepT o)])) (fun (i, k, o) => (i ≤ ((ini a)).length ∧ k ≤ ((ini b)).length) ∧ o ++ (pathU (ini a) (ini b) i k).map stepU = (pathU (ini a) (ini b) 0 0).map stepU ∧ o.length ≤ i + k) (fun (i, k, o) => (((ini a)).length - i) + (((ini b)).length - k)) (0, 0, []) ?_ ?_
  ·
   exact ⟨⟨by omega, by omega⟩, rfl, by simp⟩
  rintro ⟨i, k, o⟩ I10 ih10
  try dsimp only at I10
  refine .br [.r [(2, X (Xl elemT (ini a))), (7, Xv 1 (!(decide ((i : Int) < ((ini a).length : Int)))) (Xl elemT (ini b))), (8, Xv 2 (!(decide ((i : Int) < ((ini a).length : Int)))) X0), (9, X (Xk' (decide ((i : Int) < ((ini a).length : Int)))))]] (decide ((i : Int) < ((ini a).length : Int)) || decide ((k : Int) < ((ini b).length : Int))) (fun h10 => ?_) (fun h10 => ?_)
  ·
   (try simp only [decide_eq_true_eq, decide_eq_false_iff_not, Int.not_lt, Int.not_le, Bool.or_eq_true, Bool.or_eq_false_iff] at h10)
   have r0 := row_len (a := (ini a)) (b := (ini b)) (i := i) I10.1.1
   have r1 := fun h : i + 1 ≤ ((ini a)).length => row_len (a := (ini a)) (b := (ini b)) (i := i + 1) h
   have v0 := tab_at (a := (ini a)) (b := (ini b)) (i := i) (k := k) I10.1.1 I10.1.2
   have v1 := fun (h : i + 1 ≤ ((ini a)).length) (g : k + 1 ≤ ((ini b)).length) => tab_at (a := (ini a)) (b := (ini b)) (i := i + 1) (k := k + 1) h g
   have v2 := fun h : i + 1 ≤ ((ini a)).length => tab_at (a := (ini a)) (b := (ini b)) (i := i + 1) (k := k) h I10.1.2
   have d1 := fun (h : i + 1 ≤ ((ini a)).length) (g : k + 1 ≤ ((ini b)).length) => tab_bd' (a := (ini a)) (b := (ini b)) (i := i + 1) (k := k + 1) h g
   have d2 := fun h : i + 1 ≤ ((ini a)).length => tab_bd' (a := (ini a)) (b := (ini b)) (i := i + 1) (k := k) h I10.1.2
   have dP := price_bd (((ini a)).getD i default) (((ini b)).getD k default)
   refine .br [.r [(2, X (Xl elemT (ini a))), (7, Xv 1 (decide ((i : Int) < ((ini a).length : Int))) (Xl elemT (ini b))), (8, Xv 2 (decide ((i : Int) < ((ini a).length : Int))) X0), (9, X (Xk (decide ((i : Int) < ((ini a).length : Int))))), (13, Xv 2 (decide ((i : Int) < ((ini a).length : Int)) && decide ((k : Int) < ((ini b).length : Int))) (Xi elemT (ini a) (i : Int)) (fun hg => by (try simp only [decide_eq_true_eq, decide_eq_false_iff_not, Int.not_lt, Int.not_le, Bool.and_eq_true, Bool.and_eq_false_iff, Bool.not_eq_true', Bool.not_eq_false'] at hg); exact ⟨(by omega), (by omega)⟩)), (14, Xv 1 (decide ((i : Int) < ((ini a).length : Int)) && decide ((k : Int) < ((ini b).length : Int))) X0), (17, Xv 2 (decide ((i : Int) < ((ini a).length : Int)) && decide ((k : Int) < ((ini b).length : Int))) (Xi elemT (ini b) (k : Int)) (fun hg => by (try simp only [decide_eq_true_eq, decide_eq_false_iff_not, Int.not_lt, Int.not_le, Bool.and_eq_true, Bool.and_eq_false_iff, Bool.not_eq_true', Bool.not_eq_false'] at hg); exact ⟨(by omega), (by omega)⟩)), (18, Xv 1 (decide ((i : Int) < ((ini a).length : Int)) && decide ((k : Int) < ((ini b).length : Int))) X0), (19, Xv 2 (decide ((i : Int) < ((ini a).length : Int)) && decide ((k : Int) < ((ini b).length : Int))) (Xc0 (fc_alike (((ini a).getD i default)) (((ini b).getD k default))) X0)), (20, X (Xk (decide ((i : Int) < ((ini a).length : Int)) && decide ((k : Int) < ((ini b).length : Int))))), (24, Xv 2 ((decide ((i : Int) < ((ini a).length : Int)) && decide ((k : Int) < ((ini b).length : Int))) && (alikeB (((ini a).getD i default)) (((ini b).getD k default)))) (Xi intsT (tabL (ini a) (ini b)) (i : Int)) (fun hg => by (try simp only [decide_eq_true_eq, decide_eq_false_iff_not, Int.not_lt, Int.not_le, Bool.and_eq_true, Bool.and_eq_false_iff, Bool.not_eq_true', Bool.not_eq_false'] at hg); exact ⟨(by omega), (by omega)⟩)), (25, Xv 1 ((decide ((i : Int) < ((ini a).length : Int)) && decide ((k : Int) < ((ini b).length : Int))) && (alikeB (((ini a).getD i default)) (((ini b).getD k default)))) X0), (27, Xv 2 ((decide ((i : Int) < ((ini a).length : Int)) && decide ((k : Int) < ((ini b).length : Int))) && (alikeB (((ini a).getD i default)) (((ini b).getD k default)))) (Xi intT ((tabL (ini a) (ini b)).getD i default) (k : Int)) (fun hg => by (try simp only [decide_eq_true_eq, decide_eq_false_iff_not, Int.not_lt, Int.not_le, Bool.and_eq_true, Bool.and_eq_false_iff, Bool.not_eq_true', Bool.not_eq_false'] at hg); exact ⟨(by omega), (by omega)⟩)), (28, Xv 1 ((decide ((i : Int) < ((ini a).length : Int)) && decide ((k : Int) < ((ini b).length : Int))) && (alikeB (((ini a).getD i default)) (((ini b).getD k default)))) X0), (31, Xv 1 ((decide ((i : Int) < ((ini a).length : Int)) && decide ((k : Int) < ((ini b).length : Int))) && (alikeB (((ini a).getD i default)) (((ini b).getD k default)))) (Xn ((i : Int) + 1))), (32, Xv 2 ((decide ((i : Int) < ((ini a).length : Int)) && decide ((k : Int) < ((ini b).length : Int))) && (alikeB (((ini a).getD i default)) (((ini b).getD k default)))) (Xi intsT (tabL (ini a) (ini b)) ((i : Int) + 1)) (fun hg => by (try simp only [decide_eq_true_eq, decide_eq_false_iff_not, Int.not_lt, Int.not_le, Bool.and_eq_true, Bool.and_eq_false_iff, Bool.not_eq_true', Bool.not_eq_false'] at hg); exact ⟨(by omega), (by omega)⟩)), (33, Xv 1 ((decide ((i : Int) < ((ini a).length : Int)) && decide ((k : Int) < ((ini b).length : Int))) && (alikeB (((ini a).getD i default)) (((ini b).getD k default)))) X0), (35, Xv 1 ((decide ((i : Int) < ((ini a).length : Int)) && decide ((k : Int) < ((ini b).length : Int))) && (alikeB (((ini a).getD i default)) (((ini b).getD k default)))) (Xn ((k : Int) + 1))), (36, Xv 2 ((decide ((i : Int) < ((ini a).length : Int)) && decide ((k : Int) < ((ini b).length : Int))) && (alikeB (((ini a).getD i default)) (((ini b).getD k default)))) (Xi intT ((tabL (ini a) (ini b)).getD (i + 1) default) ((k : Int) + 1)) (fun hg => by (try simp only [decide_eq_true_eq, decide_eq_false_iff_not, Int.not_lt, Int.not_le, Bool.and_eq_true, Bool.and_eq_false_iff, Bool.not_eq_true', Bool.not_eq_false'] at hg); exact ⟨(by omega), (by omega)⟩)), (37, Xv 1 ((decide ((i : Int) < ((ini a).length : Int)) && decide ((k : Int) < ((ini b).length : Int))) && (alikeB (((ini a).getD i default)) (((ini b).getD k default)))) X0), (40, Xv 2 ((decide ((i : Int) < ((ini a).length : Int)) && decide ((k : Int) < ((ini b).length : Int))) && (alikeB (((ini a).getD i default)) (((ini b).getD k default)))) (Xi elemT (ini a) (i : Int)) (fun hg => by (try simp only [decide_eq_true_eq, decide_eq_false_iff_not, Int.not_lt, Int.not_le, Bool.and_eq_true, Bool.and_eq_false_iff, Bool.not_eq_true', Bool.not_eq_false'] at hg); exact ⟨(by omega), (by omega)⟩)), (41, Xv 1 ((decide ((i : Int) < ((ini a).length : Int)) && decide ((k : Int) < ((ini b).length : Int))) && (alikeB (((ini a).getD i default)) (((ini b).getD k default)))) X0), (44, Xv 2 ((decide ((i : Int) < ((ini a).length : Int)) && decide ((k : Int) < ((ini b).length : Int))) && (alikeB (((ini a).getD i default)) (((ini b).getD k default)))) (Xi elemT (ini b) (k : Int)) (fun hg => by (try simp only [decide_eq_true_eq, decide_eq_false_iff_not, Int.not_lt, Int.not_le, Bool.and_eq_true, Bool.and_eq_false_iff, Bool.not_eq_true', Bool.not_eq_false'] at hg); exact ⟨(by omega), (by omega)⟩)), (45, Xv 1 ((decide ((i : Int) < ((ini a).length : Int)) && decide ((k : Int) < ((ini b).length : Int))) && (alikeB (((ini a).getD i default)) (((ini b).getD k default)))) X0), (46, Xv 2 ((decide ((i : Int) < ((ini a).length : Int)) && decide ((k : Int) < ((ini b).length : Int))) && (alikeB (((ini a).getD i default)) (((ini b).getD k default)))) (Xc0 (fc_price (((ini a).getD i default)) (((ini b).getD k default))) X0)), (47, Xv 2 ((decide ((i : Int) < ((ini a).length : Int)) && decide ((k : Int) < ((ini b).length : Int))) && (alikeB (((ini a).getD i default)) (((ini b).getD k default)))) (Xn ((((tabL (ini a) (ini b)).getD (i + 1) default).getD (k + 1) default) + (priceI (((ini a).getD i default)) (((ini b).getD k default))))) (fun hg => by (try simp only [decide_eq_true_eq, decide_eq_false_iff_not, Int.not_lt, Int.not_le, Bool.and_eq_true, Bool.and_eq_false_iff, Bool.not_eq_true', Bool.not_eq_false'] at hg); exact (by omega))), (48, Xv 2 ((decide ((i : Int) < ((ini a).length : Int)) && decide ((k : Int) < ((ini b).length : Int))) && (alikeB (((ini a).getD i default)) (((ini b).getD k default)))) X0), (49, X (Xk ((decide ((i : Int) < ((ini a).length : Int)) && decide ((k : Int) < ((ini b).length : Int))) && (alikeB (((ini a).getD i default)) (((ini b).getD k default))))))]] (((decide ((i : Int) < ((ini a).length : Int)) && decide ((k : Int) < ((ini b).length : Int))) && (alikeB (((ini a).getD i default)) (((ini b).getD k default)))) && ((((tabL (ini a) (ini b)).getD i default).getD k default) == ((((tabL (ini a) (ini b)).getD (i + 1) default).getD (k + 1) default) + (priceI (((ini a).getD i default)) (((ini b).getD k default)))))) (fun h13 => ?_) (fun h13 => ?_)
   ·
    (try simp only [decide_eq_true_eq, decide_eq_false_iff_not, Int.not_lt, Int.not_le, Bool.and_eq_true, Bool.and_eq_false_iff, Bool.not_eq_true', Bool.not_eq_false', beq_iff_eq, beq_eq_false_iff_ne, ne_eq] at h13)
    have hK : KeepP (ini a) (ini b) i k := ⟨⟨by omega, by omega⟩, h13.1.2, by rw [← v0, ← v1 (by omega) (by omega)]; exact h13.2⟩
    have hP := I10.2.1
    rw [path_keep hK, List.map_cons] at hP
    have na2 : (((ini a)).getD i default).attrs.length ≤ 1000000000 := by first | exact na _ (getD_mem' (by omega)) | exact na _ (ini_mem (getD_mem' (by omega)))
    have nb2 : (((ini b)).getD k default).attrs.length ≤ 1000000000 := by first | exact nb _ (getD_mem' (by omega)) | exact nb _ (ini_mem (getD_mem' (by omega)))
    refine .back [.r [(3, X (Xi elemT (ini a) (i : Int))), (8, X (Xi elemT (ini b) (k : Int))), (11, X (Xc1 1177 (fc_change ((((ini a).getD i default)).attrs) ((((ini b).getD k default)).attrs) (by omega)) X0)), (12, X (Xf [(3, 3)])), (14, X (rowC dstepT [({ kind := 0, n := 1, attrs := (fm chgG ((((ini a).getD i default)).attrs) ((((ini b).getD k default)).attrs)), elems := [] } : DStep)] (Xap 4 dstepT 600 o [({ kind := 0, n := 1, attrs := (fm chgG ((((ini a).getD i default)).attrs) ((((ini b).getD k default)).attrs)), elems := [] } : DStep)])))], .r [(1, X (Xn ((i : Int) + 1))), (3, X (Xn ((k : Int) + 1)))]] [(432, 432), (600, 600)] (ih10 ((i + 1), (k + 1), (o ++ [({ kind := 0, n := 1, attrs := (fm chgG ((((ini a).getD i default)).attrs) ((((ini b).getD k default)).attrs)), elems := [] } : DStep)])) ?_ ?_)
    ·
     refine ⟨⟨by omega, by omega⟩, ?_, by simp only [List.length_append, List.length_cons, List.length_nil]; omega⟩
     rw [List.append_assoc]; exact hP
    ·
     (try dsimp only); omega
   ·
    (try simp only [decide_eq_true_eq, decide_eq_false_iff_not, Int.not_lt, Int.not_le, Bool.and_eq_true, Bool.and_eq_false_iff, Bool.not_eq_true', Bool.not_eq_false', beq_iff_eq, beq_eq_false_iff_ne, ne_eq] at h13)
    have hK : ¬ KeepP (ini a) (ini b) i k := fun q => by
      rcases h13 with ((h | h) | h) | h
      · have := q.1; omega
      · have := q.1; omega
      · exact absurd (q.2.1.symm.trans h) (by decide)
      · exact h (by rw [v0, v1 q.1.1 q.1.2]; exact q.2.2)
    refine .br [.r [(2, X (Xl elemT (ini a))), (7, Xv 1 (decide ((i : Int) < ((ini a).length : Int))) (Xl elemT (ini b))), (8, Xv 2 (decide ((i : Int) < ((ini a).length : Int))) X0), (9, Xv 1 (decide ((i : Int) < ((ini a).length : Int))) X0), (12, Xv 2 ((decide ((i : Int) < ((ini a).length : Int))) && !((k : Int) == ((ini b).length : Int))) (Xi intsT (tabL (ini a) (ini b)) (i : Int)) (fun hg => by (try simp only [decide_eq_true_eq, decide_eq_false_iff_not, Int.not_lt, Int.not_le, Bool.not_eq_true', Bool.not_eq_false', Bool.and_eq_true, Bool.and_eq_false_iff, beq_iff_eq, beq_eq_false_iff_ne, ne_eq] at hg); exact ⟨(by omega), (by omega)⟩)), (13, Xv 1 ((decide ((i : Int) < ((ini a).length : Int))) && !((k : Int) == ((ini b).length : Int))) X0), (15, Xv 2 ((decide ((i : Int) < ((ini a).length : Int))) && !((k : Int) == ((ini b).length : Int))) (Xi intT ((tabL (ini a) (ini b)).getD i default) (k : Int)) (fun hg => by (try simp only [decide_eq_true_eq, decide_eq_false_iff_not, Int.not_lt, Int.not_le, Bool.not_eq_true', Bool.not_eq_false', Bool.and_eq_true, Bool.and_eq_false_iff, beq_iff_eq, beq_eq_false_iff_ne, ne_eq] at hg); exact ⟨(by omega), (by omega)⟩)), (16, Xv 1 ((decide ((i : Int) < ((ini a).length : Int))) && !((k : Int) == ((ini b).length : Int))) X0), (19, Xv 1 ((decide ((i : Int) < ((ini a).length : Int))) && !((k : Int) == ((ini b).length : Int))) (Xn ((i : Int) + 1))), (20, Xv 2 ((decide ((i : Int) < ((ini a).length : Int))) && !((k : Int) == ((ini b).length : Int))) (Xi intsT (tabL (ini a) (ini b)) ((i : Int) + 1)) (fun hg => by (try simp only [decide_eq_true_eq, decide_eq_false_iff_not, Int.not_lt, Int.not_le, Bool.not_eq_true', Bool.not_eq_false', Bool.and_eq_true, Bool.and_eq_false_iff, beq_iff_eq, beq_eq_false_iff_ne, ne_eq] at hg); exact ⟨(by omega), (by omega)⟩)), (21, Xv 1 ((decide ((i : Int) < ((ini a).length : Int))) && !((k : Int) == ((ini b).length : Int))) X0), (23, Xv 2 ((decide ((i : Int) < ((ini a).length : Int))) && !((k : Int) == ((ini b).length : Int))) (Xi intT ((tabL (ini a) (ini b)).getD (i + 1) default) (k : Int)) (fun hg => by (try simp only [decide_eq_true_eq, decide_eq_false_iff_not, Int.not_lt, Int.not_le, Bool.not_eq_true', Bool.not_eq_false', Bool.and_eq_true, Bool.and_eq_false_iff, beq_iff_eq, beq_eq_false_iff_ne, ne_eq] at hg); exact ⟨(by omega), (by omega)⟩)), (24, Xv 1 ((decide ((i : Int) < ((ini a).length : Int))) && !((k : Int) == ((ini b).length : Int))) X0), (25, Xv 1 ((decide ((i : Int) < ((ini a).length : Int))) && !((k : Int) == ((ini b).length : Int))) (Xn (1 + (((tabL (ini a) (ini b)).getD (i + 1) default).getD k default))) (fun hg => by (try simp only [decide_eq_true_eq, decide_eq_false_iff_not, Int.not_lt, Int.not_le, Bool.not_eq_true', Bool.not_eq_false', Bool.and_eq_true, Bool.and_eq_false_iff, beq_iff_eq, beq_eq_false_iff_ne, ne_eq] at hg); exact (by omega))), (26, Xv 2 ((decide ((i : Int) < ((ini a).length : Int))) && !((k : Int) == ((ini b).length : Int))) X0), (27, Xko (decide ((i : Int) < ((ini a).length : Int))) ((k : Int) == ((ini b).length : Int))), (28, X (Xk (decide ((i : Int) < ((ini a).length : Int)))))]] (decide ((i : Int) < ((ini a).length : Int)) && (((k : Int) == ((ini b).length : Int)) || ((((tabL (ini a) (ini b)).getD i default).getD k default) == (1 + (((tabL (ini a) (ini b)).getD (i + 1) default).getD k default))))) (fun h16 => ?_) (fun h16 => ?_)
    ·
     (try simp only [decide_eq_true_eq, decide_eq_false_iff_not, Int.not_lt, Int.not_le, Bool.and_eq_true, Bool.and_eq_false_iff, Bool.not_eq_true', Bool.not_eq_false', Bool.or_eq_true, Bool.or_eq_false_iff, beq_iff_eq, beq_eq_false_iff_ne, ne_eq] at h16)
     have hC : CutP (ini a) (ini b) i k := ⟨by omega, by
       rcases h16.2 with h | h
       · exact .inl (by omega)
       · exact .inr (by rw [← v0, ← v2 (by omega)]; exact h)⟩
     have hP := I10.2.1
     rw [path_cut hK hC, List.map_cons] at hP
     refine .back [.r [(1, X (Xf [(2, 2), (3, 3)])), (3, X (rowC dstepT [({ kind := 2, n := 1, attrs := [], elems := [] } : DStep)] (Xap 4 dstepT 600 o [({ kind := 2, n := 1, attrs := [], elems := [] } : DStep)])))], .r [(1, X (Xn ((i : Int) + 1)))]] [(432, 432), (600, 600)] (ih10 ((i + 1), k, (o ++ [({ kind := 2, n := 1, attrs := [], elems := [] } : DStep)])) ?_ ?_)
     ·
      refine ⟨⟨by omega, by omega⟩, ?_, by simp only [List.length_append, List.length_cons, List.length_nil]; omega⟩
      rw [List.append_assoc]; exact hP
     ·
      (try dsimp only); omega
    ·
     (try simp only [decide_eq_true_eq, decide_eq_false_iff_not, Int.not_lt, Int.not_le, Bool.and_eq_true, Bool.and_eq_false_iff, Bool.not_eq_true', Bool.not_eq_false', Bool.or_eq_true, Bool.or_eq_false_iff, beq_iff_eq, beq_eq_false_iff_ne, ne_eq] at h16)
     have hC : ¬ CutP (ini a) (ini b) i k := fun q => by
       rcases h16 with h | h
       · have := q.1; omega
       · rcases q.2 with q2 | q2
         · exact h.1 (by omega)
         · exact h.2 (by rw [v0, v2 q.1]; exact q2)
     have hk3 := ends_or I10.1.1 I10.1.2 hC (by omega)
     have hP := I10.2.1
     rw [path_add hK hC hk3, List.map_cons] at hP
     have e1 := one_at hk3
     refine .back [.r [(4, X (Xn ((k : Int) + 1))), (5, X (Xsb elemT 3 (ini b) (k : Int) ((k : Int) + 1))), (6, X (Xf [(2, 2)])), (8, X (rowC dstepT [({ kind := 1, n := 0, attrs := [], elems := (((ini b).take (k + 1)).drop k) } : DStep)] (Xap 4 dstepT 600 o [({ kind := 1, n := 0, attrs := [], elems := (((ini b).take (k + 1)).drop k) } : DStep)])))], .r [(1, X (Xn ((k : Int) + 1)))]] [(432, 432), (600, 600)] (ih10 (i, (k + 1), (o ++ [({ kind := 1, n := 0, attrs := [], elems := (((ini b).take (k + 1)).drop k) } : DStep)])) ?_ ?_)
     ·
      refine ⟨⟨by omega, by omega⟩, ?_, by simp only [List.length_append, List.length_cons, List.length_nil]; omega⟩
      rw [List.append_assoc, e1]; exact hP
     ·
      (try dsimp only); omega
  ·
   (try simp only [decide_eq_true_eq, decide_eq_false_iff_not, Int.not_lt, Int.not_le, Bool.or_eq_true, Bool.or_eq_false_iff] at h10)
   have hE := I10.2.1
   rw [path_end (by omega) (by omega), List.map_nil, List.append_nil] at hE
   first
   | (have hf : o ++ [({ kind := 0, n := 1, attrs := (fm chgG (((a.getD (a.length - 1) default)).attrs) (((b.getD (b.length - 1) default)).attrs)), elems := [] } : DStep)] = (diffU a b).map stepU := by rw [hD, List.map_append, ← hE]; rfl
      rw [← hf] at t1 t3 t4 t5)
   | (have hf : (o ++ [] : List DStep) = (diffU a b).map stepU := by rw [List.append_nil, hE, hD]
      rw [← hf] at t1 t3 t4 t5)
   have e1 : ((doneD (diffU a b)) : List DStep) = (tidyL (o ++ [({ kind := 0, n := 1, attrs := (fm chgG (((a.getD (a.length - 1) default)).attrs) (((b.getD (b.length - 1) default)).attrs)), elems := [] } : DStep)])) := by
    rw [t1]
   exact .finE [.r [(2, X (rowC dstepT [({ kind := 0, n := 1, attrs := (fm chgG (((a.getD (a.length - 1) default)).attrs) (((b.getD (b.length - 1) default)).attrs)), elems := [] } : DStep)] (Xap 4 dstepT 600 o [({ kind := 0, n := 1, attrs := (fm chgG (((a.getD (a.length - 1) default)).attrs) (((b.getD (b.length - 1) default)).attrs)), elems := [] } : DStep)]))), (3, X (Xc1 705 (fc_dTidy (o ++ [({ kind := 0, n := 1, attrs := (fm chgG (((a.getD (a.length - 1) default)).attrs) (((b.getD (b.length - 1) default)).attrs)), elems := [] } : DStep)]) (by assumption) (by omega) (by omega)) (rowC dstepT (o ++ [({ kind := 0, n := 1, attrs := (fm chgG (((a.getD (a.length - 1) default)).attrs) (((b.getD (b.length - 1) default)).attrs)), elems := [] } : DStep)]) X0)))], .r []] [] (fun z0 => (VL 4 dstepT z0, [])) ((tidyL (o ++ [({ kind := 0, n := 1, attrs := (fm chgG (((a.getD (a.length - 1) default)).attrs) (((b.getD (b.length - 1) default)).attrs)), elems := [] } : DStep)])) : List DStep) ((doneD (diffU a b)) : List DStep) e1
 ·
  (try simp only [decide_eq_true_eq, decide_eq_false_iff_not, Int.not_lt, Int.not_le, gt_iff_lt, Bool.and_eq_true, Bool.and_eq_false_iff, Bool.not_eq_true', Bool.not_eq_false', beq_iff_eq, beq_eq_false_iff_ne, ne_eq] at h3)
  have il := ini_len (a := a)
  have jl := ini_len (a := b)
  have hD : diffU a b = (if TiedP a b then pathU (ini a) (ini b) 0 0 ++ [.K (chgU (lst a) (lst b))] else pathU a b 0 0) := rfl
  first
  | rw [if_pos ⟨⟨⟨by omega, by omega⟩, h3.1.2⟩, h3.2⟩] at hD
  | rw [if_neg (by rintro ⟨⟨⟨q1, q2⟩, q3⟩, q4⟩; rcases h3 with ((h | h) | h) | h; (omega); (omega); (exact h q3); (exact h q4))] at hD
  have lT := tabL_len a b
  refine .loop (α := Nat × Nat × (List DStep)) [.r [(2, X (Xc1 272 (fc_table a b (by omega) (by omega)) X0))], .r [], .r [], .le (.nR 10 4)] 313 (fun (i, k, o) => ([(0, VL 3 elemT a), (1, VL 3 elemT b), (6, VN), (9, VL 1 intsT (tabL a b)), (10, .row 312 o.length), (11, VI (i : Int)), (12, VI (k : Int))], [(312, OR 4 dstepT o)])) (fun (i, k, o) => (i ≤ (a).length ∧ k ≤ (b).length) ∧ o ++ (pathU a b i k).map stepU = (pathU a b 0 0).map stepU ∧ o.length ≤ i + k) (fun (i, k, o) => ((a).length - i) + ((b).length - k)) (0, 0, []) ?_ ?_
  ·
   exact ⟨⟨by omega, by omega⟩, rfl, by simp⟩
  rintro ⟨i, k, o⟩ I10 ih10
  try dsimp only at I10
  refine .br [.r [(2, X (Xl elemT a)), (7, Xv 1 (!(decide ((i : Int) < (a.length : Int)))) (Xl elemT b)), (8, Xv 2 (!(decide ((i : Int) < (a.length : Int)))) X0), (9, X (Xk' (decide ((i : Int) < (a.length : Int)))))]] (decide ((i : Int) < (a.length : Int)) || decide ((k : Int) < (b.length : Int))) (fun h10 => ?_) (fun h10 => ?_)
  ·
   (try simp only [decide_eq_true_eq, decide_eq_false_iff_not, Int.not_lt, Int.not_le, Bool.or_eq_true, Bool.or_eq_false_iff] at h10)
   have r0 := row_len (a := a) (b := b) (i := i) I10.1.1
   have r1 := fun h : i + 1 ≤ (a).length => row_len (a := a) (b := b) (i := i + 1) h
   have v0 := tab_at (a := a) (b := b) (i := i) (k := k) I10.1.1 I10.1.2
   have v1 := fun (h : i + 1 ≤ (a).length) (g : k + 1 ≤ (b).length) => tab_at (a := a) (b := b) (i := i + 1) (k := k + 1) h g
   have v2 := fun h : i + 1 ≤ (a).length => tab_at (a := a) (b := b) (i := i + 1) (k := k) h I10.1.2
   have d1 := fun (h : i + 1 ≤ (a).length) (g : k + 1 ≤ (b).length) => tab_bd' (a := a) (b := b) (i := i + 1) (k := k + 1) h g
   have d2 := fun h : i + 1 ≤ (a).length => tab_bd' (a := a) (b := b) (i := i + 1) (k := k) h I10.1.2
   have dP := price_bd ((a).getD i default) ((b).getD k default)
   refine .br [.r [(2, X (Xl elemT a)), (7, Xv 1 (decide ((i : Int) < (a.length : Int))) (Xl elemT b)), (8, Xv 2 (decide ((i : Int) < (a.length : Int))) X0), (9, X (Xk (decide ((i : Int) < (a.length : Int))))), (13, Xv 2 (decide ((i : Int) < (a.length : Int)) && decide ((k : Int) < (b.length : Int))) (Xi elemT a (i : Int)) (fun hg => by (try simp only [decide_eq_true_eq, decide_eq_false_iff_not, Int.not_lt, Int.not_le, Bool.and_eq_true, Bool.and_eq_false_iff, Bool.not_eq_true', Bool.not_eq_false'] at hg); exact ⟨(by omega), (by omega)⟩)), (14, Xv 1 (decide ((i : Int) < (a.length : Int)) && decide ((k : Int) < (b.length : Int))) X0), (17, Xv 2 (decide ((i : Int) < (a.length : Int)) && decide ((k : Int) < (b.length : Int))) (Xi elemT b (k : Int)) (fun hg => by (try simp only [decide_eq_true_eq, decide_eq_false_iff_not, Int.not_lt, Int.not_le, Bool.and_eq_true, Bool.and_eq_false_iff, Bool.not_eq_true', Bool.not_eq_false'] at hg); exact ⟨(by omega), (by omega)⟩)), (18, Xv 1 (decide ((i : Int) < (a.length : Int)) && decide ((k : Int) < (b.length : Int))) X0), (19, Xv 2 (decide ((i : Int) < (a.length : Int)) && decide ((k : Int) < (b.length : Int))) (Xc0 (fc_alike ((a.getD i default)) ((b.getD k default))) X0)), (20, X (Xk (decide ((i : Int) < (a.length : Int)) && decide ((k : Int) < (b.length : Int))))), (24, Xv 2 ((decide ((i : Int) < (a.length : Int)) && decide ((k : Int) < (b.length : Int))) && (alikeB ((a.getD i default)) ((b.getD k default)))) (Xi intsT (tabL a b) (i : Int)) (fun hg => by (try simp only [decide_eq_true_eq, decide_eq_false_iff_not, Int.not_lt, Int.not_le, Bool.and_eq_true, Bool.and_eq_false_iff, Bool.not_eq_true', Bool.not_eq_false'] at hg); exact ⟨(by omega), (by omega)⟩)), (25, Xv 1 ((decide ((i : Int) < (a.length : Int)) && decide ((k : Int) < (b.length : Int))) && (alikeB ((a.getD i default)) ((b.getD k default)))) X0), (27, Xv 2 ((decide ((i : Int) < (a.length : Int)) && decide ((k : Int) < (b.length : Int))) && (alikeB ((a.getD i default)) ((b.getD k default)))) (Xi intT ((tabL a b).getD i default) (k : Int)) (fun hg => by (try simp only [decide_eq_true_eq, decide_eq_false_iff_not, Int.not_lt, Int.not_le, Bool.and_eq_true, Bool.and_eq_false_iff, Bool.not_eq_true', Bool.not_eq_false'] at hg); exact ⟨(by omega), (by omega)⟩)), (28, Xv 1 ((decide ((i : Int) < (a.length : Int)) && decide ((k : Int) < (b.length : Int))) && (alikeB ((a.getD i default)) ((b.getD k default)))) X0), (31, Xv 1 ((decide ((i : Int) < (a.length : Int)) && decide ((k : Int) < (b.length : Int))) && (alikeB ((a.getD i default)) ((b.getD k default)))) (Xn ((i : Int) + 1))), (32, Xv 2 ((decide ((i : Int) < (a.length : Int)) && decide ((k : Int) < (b.length : Int))) && (alikeB ((a.getD i default)) ((b.getD k default)))) (Xi intsT (tabL a b) ((i : Int) + 1)) (fun hg => by (try simp only [decide_eq_true_eq, decide_eq_false_iff_not, Int.not_lt, Int.not_le, Bool.and_eq_true, Bool.and_eq_false_iff, Bool.not_eq_true', Bool.not_eq_false'] at hg); exact ⟨(by omega), (by omega)⟩)), (33, Xv 1 ((decide ((i : Int) < (a.length : Int)) && decide ((k : Int) < (b.length : Int))) && (alikeB ((a.getD i default)) ((b.getD k default)))) X0), (35, Xv 1 ((decide ((i : Int) < (a.length : Int)) && decide ((k : Int) < (b.length : Int))) && (alikeB ((a.getD i default)) ((b.getD k default)))) (Xn ((k : Int) + 1))), (36, Xv 2 ((decide ((i : Int) < (a.length : Int)) && decide ((k : Int) < (b.length : Int))) && (alikeB ((a.getD i default)) ((b.getD k default)))) (Xi intT ((tabL a b).getD (i + 1) default) ((k : Int) + 1)) (fun hg => by (try simp only [decide_eq_true_eq, decide_eq_false_iff_not, Int.not_lt, Int.not_le, Bool.and_eq_true, Bool.and_eq_false_iff, Bool.not_eq_true', Bool.not_eq_false'] at hg); exact ⟨(by omega), (by omega)⟩)), (37, Xv 1 ((decide ((i : Int) < (a.length : Int)) && decide ((k : Int) < (b.length : Int))) && (alikeB ((a.getD i default)) ((b.getD k default)))) X0), (40, Xv 2 ((decide ((i : Int) < (a.length : Int)) && decide ((k : Int) < (b.length : Int))) && (alikeB ((a.getD i default)) ((b.getD k default)))) (Xi elemT a (i : Int)) (fun hg => by (try simp only [decide_eq_true_eq, decide_eq_false_iff_not, Int.not_lt, Int.not_le, Bool.and_eq_true, Bool.and_eq_false_iff, Bool.not_eq_true', Bool.not_eq_false'] at hg); exact ⟨(by omega), (by omega)⟩)), (41, Xv 1 ((decide ((i : Int) < (a.length : Int)) && decide ((k : Int) < (b.length : Int))) && (alikeB ((a.getD i default)) ((b.getD k default)))) X0), (44, Xv 2 ((decide ((i : Int) < (a.length : Int)) && decide ((k : Int) < (b.length : Int))) && (alikeB ((a.getD i default)) ((b.getD k default)))) (Xi elemT b (k : Int)) (fun hg => by (try simp only [decide_eq_true_eq, decide_eq_false_iff_not, Int.not_lt, Int.not_le, Bool.and_eq_true, Bool.and_eq_false_iff, Bool.not_eq_true', Bool.not_eq_false'] at hg); exact ⟨(by omega), (by omega)⟩)), (45, Xv 1 ((decide ((i : Int) < (a.length : Int)) && decide ((k : Int) < (b.length : Int))) && (alikeB ((a.getD i default)) ((b.getD k default)))) X0), (46, Xv 2 ((decide ((i : Int) < (a.length : Int)) && decide ((k : Int) < (b.length : Int))) && (alikeB ((a.getD i default)) ((b.getD k default)))) (Xc0 (fc_price ((a.getD i default)) ((b.getD k default))) X0)), (47, Xv 2 ((decide ((i : Int) < (a.length : Int)) && decide ((k : Int) < (b.length : Int))) && (alikeB ((a.getD i default)) ((b.getD k default)))) (Xn ((((tabL a b).getD (i + 1) default).getD (k + 1) default) + (priceI ((a.getD i default)) ((b.getD k default))))) (fun hg => by (try simp only [decide_eq_true_eq, decide_eq_false_iff_not, Int.not_lt, Int.not_le, Bool.and_eq_true, Bool.and_eq_false_iff, Bool.not_eq_true', Bool.not_eq_false'] at hg); exact (by omega))), (48, Xv 2 ((decide ((i : Int) < (a.length : Int)) && decide ((k : Int) < (b.length : Int))) && (alikeB ((a.getD i default)) ((b.getD k default)))) X0), (49, X (Xk ((decide ((i : Int) < (a.length : Int)) && decide ((k : Int) < (b.length : Int))) && (alikeB ((a.getD i default)) ((b.getD k default))))))]] (((decide ((i : Int) < (a.length : Int)) && decide ((k : Int) < (b.length : Int))) && (alikeB ((a.getD i default)) ((b.getD k default)))) && ((((tabL a b).getD i default).getD k default) == ((((tabL a b).getD (i + 1) default).getD (k + 1) default) + (priceI ((a.getD i default)) ((b.getD k default)))))) (fun h13 => ?_) (fun h13 => ?_)
   ·
    (try simp only [decide_eq_true_eq, decide_eq_false_iff_not, Int.not_lt, Int.not_le, Bool.and_eq_true, Bool.and_eq_false_iff, Bool.not_eq_true', Bool.not_eq_false', beq_iff_eq, beq_eq_false_iff_ne, ne_eq] at h13)
    have hK : KeepP a b i k := ⟨⟨by omega, by omega⟩, h13.1.2, by rw [← v0, ← v1 (by omega) (by omega)]; exact h13.2⟩
    have hP := I10.2.1
    rw [path_keep hK, List.map_cons] at hP
    have na2 : ((a).getD i default).attrs.length ≤ 1000000000 := by first | exact na _ (getD_mem' (by omega)) | exact na _ (ini_mem (getD_mem' (by omega)))
    have nb2 : ((b).getD k default).attrs.length ≤ 1000000000 := by first | exact nb _ (getD_mem' (by omega)) | exact nb _ (ini_mem (getD_mem' (by omega)))
    refine .back [.r [(3, X (Xi elemT a (i : Int))), (8, X (Xi elemT b (k : Int))), (11, X (Xc1 889 (fc_change (((a.getD i default)).attrs) (((b.getD k default)).attrs) (by omega)) X0)), (12, X (Xf [(3, 3)])), (14, X (rowC dstepT [({ kind := 0, n := 1, attrs := (fm chgG (((a.getD i default)).attrs) (((b.getD k default)).attrs)), elems := [] } : DStep)] (Xap 4 dstepT 312 o [({ kind := 0, n := 1, attrs := (fm chgG (((a.getD i default)).attrs) (((b.getD k default)).attrs)), elems := [] } : DStep)])))], .r [(1, X (Xn ((i : Int) + 1))), (3, X (Xn ((k : Int) + 1)))]] [(312, 312)] (ih10 ((i + 1), (k + 1), (o ++ [({ kind := 0, n := 1, attrs := (fm chgG (((a.getD i default)).attrs) (((b.getD k default)).attrs)), elems := [] } : DStep)])) ?_ ?_)
    ·
     refine ⟨⟨by omega, by omega⟩, ?_, by simp only [List.length_append, List.length_cons, List.length_nil]; omega⟩
     rw [List.append_assoc]; exact hP
    ·
     (try dsimp only); omega
   ·
    (try simp only [decide_eq_true_eq, decide_eq_false_iff_not, Int.not_lt, Int.not_le, Bool.and_eq_true, Bool.and_eq_false_iff, Bool.not_eq_true', Bool.not_eq_false', beq_iff_eq, beq_eq_false_iff_ne, ne_eq] at h13)
    have hK : ¬ KeepP a b i k := fun q => by
      rcases h13 with ((h | h) | h) | h
      · have := q.1; omega
      · have := q.1; omega
      · exact absurd (q.2.1.symm.trans h) (by decide)
      · exact h (by rw [v0, v1 q.1.1 q.1.2]; exact q.2.2)
    refine .br [.r [(2, X (Xl elemT a)), (7, Xv 1 (decide ((i : Int) < (a.length : Int))) (Xl elemT b)), (8, Xv 2 (decide ((i : Int) < (a.length : Int))) X0), (9, Xv 1 (decide ((i : Int) < (a.length : Int))) X0), (12, Xv 2 ((decide ((i : Int) < (a.length : Int))) && !((k : Int) == (b.length : Int))) (Xi intsT (tabL a b) (i : Int)) (fun hg => by (try simp only [decide_eq_true_eq, decide_eq_false_iff_not, Int.not_lt, Int.not_le, Bool.not_eq_true', Bool.not_eq_false', Bool.and_eq_true, Bool.and_eq_false_iff, beq_iff_eq, beq_eq_false_iff_ne, ne_eq] at hg); exact ⟨(by omega), (by omega)⟩)), (13, Xv 1 ((decide ((i : Int) < (a.length : Int))) && !((k : Int) == (b.length : Int))) X0), (15, Xv 2 ((decide ((i : Int) < (a.length : Int))) && !((k : Int) == (b.length : Int))) (Xi intT ((tabL a b).getD i default) (k : Int)) (fun hg => by (try simp only [decide_eq_true_eq, decide_eq_false_iff_not, Int.not_lt, Int.not_le, Bool.not_eq_true', Bool.not_eq_false', Bool.and_eq_true, Bool.and_eq_false_iff, beq_iff_eq, beq_eq_false_iff_ne, ne_eq] at hg); exact ⟨(by omega), (by omega)⟩)), (16, Xv 1 ((decide ((i : Int) < (a.length : Int))) && !((k : Int) == (b.length : Int))) X0), (19, Xv 1 ((decide ((i : Int) < (a.length : Int))) && !((k : Int) == (b.length : Int))) (Xn ((i : Int) + 1))), (20, Xv 2 ((decide ((i : Int) < (a.length : Int))) && !((k : Int) == (b.length : Int))) (Xi intsT (tabL a b) ((i : Int) + 1)) (fun hg => by (try simp only [decide_eq_true_eq, decide_eq_false_iff_not, Int.not_lt, Int.not_le, Bool.not_eq_true', Bool.not_eq_false', Bool.and_eq_true, Bool.and_eq_false_iff, beq_iff_eq, beq_eq_false_iff_ne, ne_eq] at hg); exact ⟨(by omega), (by omega)⟩)), (21, Xv 1 ((decide ((i : Int) < (a.length : Int))) && !((k : Int) == (b.length : Int))) X0), (23, Xv 2 ((decide ((i : Int) < (a.length : Int))) && !((k : Int) == (b.length : Int))) (Xi intT ((tabL a b).getD (i + 1) default) (k : Int)) (fun hg => by (try simp only [decide_eq_true_eq, decide_eq_false_iff_not, Int.not_lt, Int.not_le, Bool.not_eq_true', Bool.not_eq_false', Bool.and_eq_true, Bool.and_eq_false_iff, beq_iff_eq, beq_eq_false_iff_ne, ne_eq] at hg); exact ⟨(by omega), (by omega)⟩)), (24, Xv 1 ((decide ((i : Int) < (a.length : Int))) && !((k : Int) == (b.length : Int))) X0), (25, Xv 1 ((decide ((i : Int) < (a.length : Int))) && !((k : Int) == (b.length : Int))) (Xn (1 + (((tabL a b).getD (i + 1) default).getD k default))) (fun hg => by (try simp only [decide_eq_true_eq, decide_eq_false_iff_not, Int.not_lt, Int.not_le, Bool.not_eq_true', Bool.not_eq_false', Bool.and_eq_true, Bool.and_eq_false_iff, beq_iff_eq, beq_eq_false_iff_ne, ne_eq] at hg); exact (by omega))), (26, Xv 2 ((decide ((i : Int) < (a.length : Int))) && !((k : Int) == (b.length : Int))) X0), (27, Xko (decide ((i : Int) < (a.length : Int))) ((k : Int) == (b.length : Int))), (28, X (Xk (decide ((i : Int) < (a.length : Int)))))]] (decide ((i : Int) < (a.length : Int)) && (((k : Int) == (b.length : Int)) || ((((tabL a b).getD i default).getD k default) == (1 + (((tabL a b).getD (i + 1) default).getD k default))))) (fun h16 => ?_) (fun h16 => ?_)
    ·
     (try simp only [decide_eq_true_eq, decide_eq_false_iff_not, Int.not_lt, Int.not_le, Bool.and_eq_true, Bool.and_eq_false_iff, Bool.not_eq_true', Bool.not_eq_false', Bool.or_eq_true, Bool.or_eq_false_iff, beq_iff_eq, beq_eq_false_iff_ne, ne_eq] at h16)
     have hC : CutP a b i k := ⟨by omega, by
       rcases h16.2 with h | h
       · exact .inl (by omega)
       · exact .inr (by rw [← v0, ← v2 (by omega)]; exact h)⟩
     have hP := I10.2.1
     rw [path_cut hK hC, List.map_cons] at hP
     refine .back [.r [(1, X (Xf [(2, 2), (3, 3)])), (3, X (rowC dstepT [({ kind := 2, n := 1, attrs := [], elems := [] } : DStep)] (Xap 4 dstepT 312 o [({ kind := 2, n := 1, attrs := [], elems := [] } : DStep)])))], .r [(1, X (Xn ((i : Int) + 1)))]] [(312, 312)] (ih10 ((i + 1), k, (o ++ [({ kind := 2, n := 1, attrs := [], elems := [] } : DStep)])) ?_ ?_)
     ·
      refine ⟨⟨by omega, by omega⟩, ?_, by simp only [List.length_append, List.length_cons, List.length_nil]; omega⟩
      rw [List.append_assoc]; exact hP
     ·
      (try dsimp only); omega
    ·
     (try simp only [decide_eq_true_eq, decide_eq_false_iff_not, Int.not_lt, Int.not_le, Bool.and_eq_true, Bool.and_eq_false_iff, Bool.not_eq_true', Bool.not_eq_false', Bool.or_eq_true, Bool.or_eq_false_iff, beq_iff_eq, beq_eq_false_iff_ne, ne_eq] at h16)
     have hC : ¬ CutP a b i k := fun q => by
       rcases h16 with h | h
       · have := q.1; omega
       · rcases q.2 with q2 | q2
         · exact h.1 (by omega)
         · exact h.2 (by rw [v0, v2 q.1]; exact q2)
     have hk3 := ends_or I10.1.1 I10.1.2 hC (by omega)
     have hP := I10.2.1
     rw [path_add hK hC hk3, List.map_cons] at hP
     have e1 := one_at hk3
     refine .back [.r [(4, X (Xn ((k : Int) + 1))), (5, X (Xsb elemT 3 b (k : Int) ((k : Int) + 1))), (6, X (Xf [(2, 2)])), (8, X (rowC dstepT [({ kind := 1, n := 0, attrs := [], elems := ((b.take (k + 1)).drop k) } : DStep)] (Xap 4 dstepT 312 o [({ kind := 1, n := 0, attrs := [], elems := ((b.take (k + 1)).drop k) } : DStep)])))], .r [(1, X (Xn ((k : Int) + 1)))]] [(312, 312)] (ih10 (i, (k + 1), (o ++ [({ kind := 1, n := 0, attrs := [], elems := ((b.take (k + 1)).drop k) } : DStep)])) ?_ ?_)
     ·
      refine ⟨⟨by omega, by omega⟩, ?_, by simp only [List.length_append, List.length_cons, List.length_nil]; omega⟩
      rw [List.append_assoc, e1]; exact hP
     ·
      (try dsimp only); omega
  ·
   (try simp only [decide_eq_true_eq, decide_eq_false_iff_not, Int.not_lt, Int.not_le, Bool.or_eq_true, Bool.or_eq_false_iff] at h10)
   have hE := I10.2.1
   rw [path_end (by omega) (by omega), List.map_nil, List.append_nil] at hE
   first
   | (have hf : o ++ [({ kind := 0, n := 1, attrs := (fm chgG (((a.getD (a.length - 1) default)).attrs) (((b.getD (b.length - 1) default)).attrs)), elems := [] } : DStep)] = (diffU a b).map stepU := by rw [hD, List.map_append, ← hE]; rfl
      rw [← hf] at t1 t3 t4 t5)
   | (have hf : (o ++ [] : List DStep) = (diffU a b).map stepU := by rw [List.append_nil, hE, hD]
      rw [← hf] at t1 t3 t4 t5)
   have e2 : ((doneD (diffU a b)) : List DStep) = (tidyL (o ++ [])) := by
    rw [t1]
   exact .finE [.r [(2, X (Xap 4 dstepT 312 o [])), (3, X (Xc1 417 (fc_dTidy (o ++ []) (by assumption) (by omega) (by omega)) (rowC dstepT (o ++ []) X0)))], .r []] [] (fun z0 => (VL 4 dstepT z0, [])) ((tidyL (o ++ [])) : List DStep) ((doneD (diffU a b)) : List DStep) e2
end Go.Ch
end
section
set_option linter.unusedVariables false
set_option linter.unusedSimpArgs false
set_option maxRecDepth 100000
set_option maxHeartbeats 4000000
open Go Go.Proofs Go.Ab
namespace Go.Ch
end Go.Ch
end
section
set_option linter.unusedVariables false
set_option linter.unusedSimpArgs false
set_option maxRecDepth 100000
set_option maxHeartbeats 4000000
open Go Go.Proofs Go.Ab
namespace Go.Ch
theorem sameE_iff {x y : Elem} : sameE x y = true ↔ x.char = y.char ∧ x.ref = y.ref ∧ sameL x.attrs y.attrs = true := by
  unfold sameE; simp only [Bool.and_eq_true, beq_iff_eq, and_assoc]

theorem fc_fsame (a b : List Elem) : FC Try.prog 153 [VL 3 elemT a, VL 3 elemT b] (app emp []) (VB (sameF a b)) (app emp []) := by
 refine .go Try.f153 ?_
 refine .len 0 (fun hl0 => ?_)
 refine .len 1 (fun hl1 => ?_)
 refine .br [.r [], .r [(1, X (Xl elemT a)), (3, X (Xl elemT b))]] ((a.length : Int) != (b.length : Int)) (fun h1 => ?_) (fun h1 => ?_)
 ·
  (try simp only [bne_iff_ne, bne_eq_false_iff_eq, ne_eq] at h1)
  have e1 : ((sameF a b) : Bool) = false := by
   unfold sameF; rw [decide_eq_false (by omega)]; rfl
  exact .finE [.r []] [] (fun z0 => (VB z0, [])) (false : Bool) ((sameF a b) : Bool) e1
 ·
  (try simp only [bne_iff_ne, bne_eq_false_iff_eq, ne_eq] at h1)
  refine .loop (α := Nat) [.r [(1, X (Xl elemT a))]] 72 (fun i => ([(1, VL 3 elemT b), (13, VL 3 elemT a), (14, VI (a.length : Int)), (15, VI (i : Int))], [])) (fun i => i ≤ a.length ∧ sameFi a b 0 = sameFi a b i) (fun i => a.length - i) (0 : Nat) ?_ ?_
  ·
   exact ⟨by omega, rfl⟩
  rintro i I4 ih4
  try dsimp only at I4
  refine .br [.r []] (decide ((i : Int) < (a.length : Int))) (fun h4 => ?_) (fun h4 => ?_)
  ·
   (try simp only [decide_eq_true_eq, decide_eq_false_iff_not, Int.not_lt, Int.not_le] at h4)
   refine .br [.r [(1, X (Xi elemT a (i : Int)))], .r [(2, X (Xi elemT b (i : Int)))], .r [(7, Xv 1 (!((((a.getD i default)).char) != (((b.getD i default)).char))) X0), (9, Xv 1 (!((((a.getD i default)).char) != (((b.getD i default)).char))) X0), (10, Xv 2 (!((((a.getD i default)).char) != (((b.getD i default)).char))) X0), (11, X (Xk' ((((a.getD i default)).char) != (((b.getD i default)).char)))), (14, Xv 1 (!(((((a.getD i default)).char) != (((b.getD i default)).char)) || ((((a.getD i default)).ref) != (((b.getD i default)).ref)))) X0), (16, Xv 1 (!(((((a.getD i default)).char) != (((b.getD i default)).char)) || ((((a.getD i default)).ref) != (((b.getD i default)).ref)))) X0), (17, Xv 2 (!(((((a.getD i default)).char) != (((b.getD i default)).char)) || ((((a.getD i default)).ref) != (((b.getD i default)).ref)))) (Xc0 (fc_attrSame (((a.getD i default)).attrs) (((b.getD i default)).attrs)) X0)), (18, Xv 1 (!(((((a.getD i default)).char) != (((b.getD i default)).char)) || ((((a.getD i default)).ref) != (((b.getD i default)).ref)))) X0), (19, X (Xk' (((((a.getD i default)).char) != (((b.getD i default)).char)) || ((((a.getD i default)).ref) != (((b.getD i default)).ref)))))]] ((((((a.getD i default)).char) != (((b.getD i default)).char)) || ((((a.getD i default)).ref) != (((b.getD i default)).ref))) || !(sameL (((a.getD i default)).attrs) (((b.getD i default)).attrs))) (fun h7 => ?_) (fun h7 => ?_)
   ·
    (try simp only [Bool.not_eq_true', Bool.not_eq_false', Bool.or_eq_true, Bool.or_eq_false_iff, bne_iff_ne, bne_eq_false_iff_eq, ne_eq] at h7)
    have e2 : ((sameF a b) : Bool) = false := by
     have hq : ¬ sameE (a.getD i default) (b.getD i default) = true := fun q => by
       rw [sameE_iff] at q
       obtain ⟨q1, q2, q3⟩ := q
       rcases h7 with (h | h) | h
       · exact h q1
       · exact h q2
       · rw [q3] at h; cases h
     unfold sameF; rw [I4.2, sameFi, if_pos (by omega), if_neg hq]; simp
    exact .finE [.r []] [] (fun z0 => (VB z0, [])) (false : Bool) ((sameF a b) : Bool) e2
   ·
    (try simp only [Bool.not_eq_true', Bool.not_eq_false', Bool.or_eq_true, Bool.or_eq_false_iff, bne_iff_ne, bne_eq_false_iff_eq, ne_eq] at h7)
    refine .back [.r [(0, X (Xn ((i : Int) + 1)))]] [] (ih4 ((i + 1) : Nat) ?_ ?_)
    ·
     refine ⟨by omega, ?_⟩; rw [I4.2, sameFi, if_pos (by omega), if_pos (sameE_iff.2 ⟨by omega, by omega, h7.2⟩)]
    ·
     ((try dsimp only); omega)
  ·
   (try simp only [decide_eq_true_eq, decide_eq_false_iff_not, Int.not_lt, Int.not_le] at h4)
   have e3 : ((sameF a b) : Bool) = true := by
    unfold sameF; rw [I4.2, sameFi, if_neg (by omega), decide_eq_true (by omega)]; rfl
   exact .finE [.r []] [] (fun z0 => (VB z0, [])) (true : Bool) ((sameF a b) : Bool) e3

theorem fc_isName (x a : Attr) : FC Try.prog 155 [.t (attrT x), .ptr 0 0] (app emp [(0, .box [VS a.name, VS a.val])]) (VB (seq x.name a.name)) (app emp [(0, .box [VS a.name, VS a.val])]) := by
 refine .go Try.f155 ?_
 have e1 : ((seq x.name a.name) : Bool) = seq x.name a.name := by
  (first | omega | with_reducible exact fun h => h | (intro hq; rw [hq]; done) | (intro hq; rw [hq]; rfl) | (simp only [List.length_map]; done) | (simp only [List.length_map]; omega) | (simp; omega) | (simp; done))
 exact .finE [.r [], .r []] [(0, 0)] (fun z0 => (VB z0, [(0, .box [VS a.name, VS a.val])])) (seq x.name a.name : Bool) ((seq x.name a.name) : Bool) e1

theorem fc_index (l : List Attr) (a : Attr) : FC Try.prog 154 [VL 2 attrT l, .fn 155 [.ptr 0 0]] (app emp [(0, .box [VS a.name, VS a.val])]) (VI (idxF l a.name 0)) (app emp [(0, .box [VS a.name, VS a.val])]) := by
 refine .go Try.f154 ?_
 refine .len 0 (fun hl0 => ?_)
 refine .loop (α := Nat) [.r [], .r [(1, X (Xl attrT l))]] 33 (fun i => ([(0, VL 2 attrT l), (1, .fn 155 [.ptr 0 0]), (7, VI (l.length : Int)), (8, VI (i : Int))], [(0, .box [VS a.name, VS a.val])])) (fun i => i ≤ l.length ∧ idxF l a.name 0 = idxF l a.name i) (fun i => l.length - i) (0 : Nat) ?_ ?_
 ·
  exact ⟨by omega, rfl⟩
 rintro i I2 ih2
 try dsimp only at I2
 refine .br [.r []] (decide ((i : Int) < (l.length : Int))) (fun h2 => ?_) (fun h2 => ?_)
 ·
  (try simp only [decide_eq_true_eq, decide_eq_false_iff_not, Int.not_lt, Int.not_le] at h2)
  refine .br [.r [], .r [(3, X (Xi attrT l (i : Int))), (5, X (Xc4 [(0, 0)] (fc_isName ((l.getD i default)) ⟨a.name, a.val⟩) X0))]] (seq (((l.getD i default))).name a.name) (fun h4 => ?_) (fun h4 => ?_)
  ·
   have e1 : ((idxF l a.name 0) : Int) = (i : Int) := by
    rw [I2.2, idxF, if_pos (by omega), if_pos h4]
   exact .finE [.r []] [(0, 0)] (fun z0 => (VI z0, [(0, .box [VS a.name, VS a.val])])) ((i : Int) : Int) ((idxF l a.name 0) : Int) e1
  ·
   refine .back [.r [(0, X (Xn ((i : Int) + 1)))]] [(0, 0)] (ih2 ((i + 1) : Nat) ?_ ?_)
   ·
    refine ⟨by omega, ?_⟩
    rw [I2.2, idxF, if_pos (by omega), if_neg (by rw [h4]; decide)]
   ·
    ((try dsimp only); omega)
 ·
  (try simp only [decide_eq_true_eq, decide_eq_false_iff_not, Int.not_lt, Int.not_le] at h2)
  have e2 : ((idxF l a.name 0) : Int) = -1 := by
   rw [I2.2, idxF, if_neg (by omega)]
  exact .finE [.r []] [(0, 0)] (fun z0 => (VI z0, [(0, .box [VS a.name, VS a.val])])) (-1 : Int) ((idxF l a.name 0) : Int) e2
end Go.Ch
end
section
set_option linter.unusedVariables false
set_option linter.unusedSimpArgs false
set_option maxRecDepth 100000
set_option maxHeartbeats 4000000
open Go Go.Proofs Go.Ab
namespace Go.Ch
theorem fc_mread (n : Nat) (d : List DStep) (hn : n ≤ 100000000) (hv : DValid d) (hl : oldD d = n) (hd : DN 400000000000 d) : FC Try.prog 144 [VI (n : Int), VL 4 dstepT d] (app emp []) (.agg [.row 1 ((actOfL d).ins.length), .row 2 ((actOfL d).cut.length), .row 3 ((actOfL d).set.length)]) (app emp [(0, .box [.row 1 ((actOfL d).ins.length), .row 2 ((actOfL d).cut.length), .row 3 ((actOfL d).set.length)]), (1, OR 1 elemsT ((actOfL d).ins)), (2, OR 1 boolT ((actOfL d).cut)), (3, OR 1 attrsT ((actOfL d).set))]) := by
 refine .go Try.f144 ?_
 refine .len 1 (fun hl1 => ?_)
 have hv1 := hv.2.1
 have hv2 := hv.2.2
 refine .loop (α := Int × Nat × (List (List Elem)) × (List Bool) × (List (List Attr))) [.r [], .r [(1, X (Xn ((n : Int) + 1))), (2, X (Xmz 1 elemsT 24 ((n : Int) + 1) ((n : Int) + 1) ([] : (List Elem)) [TN] ⟨tw_nil (by decide), trivial⟩)), (4, X (Xmk 1 boolT 40 (n : Int) (n : Int) false)), (6, X (Xmz 1 attrsT 56 (n : Int) (n : Int) ([] : (List Attr)) [TN] ⟨tw_nil (by decide), trivial⟩))], .r [], .r [(1, X (Xl dstepT d))], .le (.eb 72 0 (.row 24 (n + 1)) (.row 24 ((List.replicate (n + 1) ([] : (List Elem))).length)) (by simp only [List.length_replicate])), .le (.eb 72 1 (.row 40 n) (.row 40 ((List.replicate n false).length)) (by simp only [List.length_replicate])), .le (.eb 72 2 (.row 56 n) (.row 56 ((List.replicate n ([] : (List Attr))).length)) (by simp only [List.length_replicate]))] 120 (fun (w, i, I, C, S) => ([(4, .ptr 0 0), (5, .ptr 72 0), (6, VI w), (19, VL 4 dstepT d), (20, VI (d.length : Int)), (21, VI (i : Int))], [(0, .box [VN, VN, VN]), (24, OR 1 elemsT I), (40, OR 1 boolT C), (56, OR 1 attrsT S), (72, .box [.row 24 I.length, .row 40 C.length, .row 56 S.length])])) (fun (w, i, I, C, S) => i ≤ d.length ∧ ∃ x, RI d n i I C S w x) (fun (w, i, I, C, S) => d.length - i) (0, 0, (List.replicate (n + 1) ([] : (List Elem))), (List.replicate n false), (List.replicate n ([] : (List Attr)))) ?_ ?_
 ·
  exact ⟨by omega, _, RI.start hl⟩
 rintro ⟨w, i, I, C, S⟩ I4 ih4
 try dsimp only at I4
 obtain ⟨x, hx⟩ := I4.2
 obtain ⟨l1, l2, l3, l4, l5⟩ := hx.lens hv
 refine .br [.r []] (decide ((i : Int) < (d.length : Int))) (fun h4 => ?_) (fun h4 => ?_)
 ·
  (try simp only [decide_eq_true_eq, decide_eq_false_iff_not, Int.not_lt, Int.not_le] at h4)
  obtain ⟨s1, s2, s3, s4, s5, s6, s7, s8⟩ := dlens_step (l := d) (i := i) (by omega) hv.1
  obtain ⟨hy, hy2, hy3⟩ := hd.at_ (k := i) (by omega)
  have ho := hx.old
  have hw := hx.at_
  have hdo := hv.1.all _ (getD_mem' (l := d) (k := i) (by omega))
  have hnn := sums_nn (l := d.drop (i + 1)) (fun s hs => hv.1.all s (List.mem_of_mem_drop hs))
  refine .br [.r [(0, X (Xi dstepT d (i : Int)))], .r [], .r []] ((((d.getD i default)).kind) == 1) (fun h12 => ?_) (fun h12 => ?_)
  ·
   (try simp only [beq_iff_eq, beq_eq_false_iff_ne, ne_eq] at h12)
   refine .back [.r [(5, X (Xp elemsT I w)), (6, X (Xs 1 elemsT 24 I (Int.toNat w) (((d.getD i default)).elems)))], .r [(0, X (Xn ((i : Int) + 1)))], .le (.eb 72 0 (.row 24 I.length) (.row 24 ((I.set (Int.toNat w) (((d.getD i default)).elems)).length)) (by simp only [List.length_set]))] [(0, 0), (24, 24), (40, 40), (56, 56), (72, 72)] (ih4 (w, (i + 1), (I.set (Int.toNat w) (((d.getD i default)).elems)), C, S) ?_ ?_)
   ·
    exact ⟨by omega, _, hx.add hv (by omega) h12⟩
   ·
    ((try dsimp only); omega)
  ·
   (try simp only [beq_iff_eq, beq_eq_false_iff_ne, ne_eq] at h12)
   rw [if_neg h12] at s1
   refine .br [.r []] ((((d.getD i default)).kind) == 2) (fun h14 => ?_) (fun h14 => ?_)
   ·
    (try simp only [beq_iff_eq, beq_eq_false_iff_ne, ne_eq] at h14)
    refine .loop (α := Nat × (List Bool)) [.r []] 232 (fun (k, C2) => ([(4, .ptr 0 0), (5, .ptr 72 0), (6, VI w), (8, .ptr 144 0), (19, VL 4 dstepT d), (20, VI (d.length : Int)), (21, VI (i : Int)), (52, VI (((d.getD i default)).n)), (53, VI (k : Int))], [(0, .box [VN, VN, VN]), (24, OR 1 elemsT I), (40, OR 1 boolT C2), (56, OR 1 attrsT S), (72, .box [.row 24 I.length, .row 40 C2.length, .row 56 S.length]), (144, .box [VI (((d.getD i default)).kind), VI (((d.getD i default)).n), VL 2 attrT (((d.getD i default)).attrs), VL 3 elemT (((d.getD i default)).elems)])])) (fun (k, C2) => (k : Int) ≤ (d.getD i default).n ∧ RC C n 0 k x C2) (fun (k, C2) => (d.getD i default).n.toNat - k) (0, C) ?_ ?_
    ·
     exact ⟨by omega, RC.start hx.cut⟩
    rintro ⟨k, C2⟩ I16 ih16
    try dsimp only at I16
    have m2 := I16.2.len (by omega) (by omega)
    refine .br [.r []] (decide ((k : Int) < (((d.getD i default)).n))) (fun h16 => ?_) (fun h16 => ?_)
    ·
     (try simp only [decide_eq_true_eq, decide_eq_false_iff_not, Int.not_lt, Int.not_le] at h16)
     refine .back [.r [], .r [(4, X (Xn (w + (k : Int)))), (5, X (Xp boolT C2 (w + (k : Int)))), (6, X (Xs 1 boolT 40 C2 (Int.toNat (w + (k : Int))) true))], .r [(0, X (Xn ((k : Int) + 1)))], .le (.eb 72 1 (.row 40 C2.length) (.row 40 ((C2.set (Int.toNat (w + (k : Int))) true).length)) (by simp only [List.length_set]))] [(0, 0), (24, 24), (40, 40), (56, 56), (72, 72), (144, 144)] (ih16 ((k + 1), (C2.set (Int.toNat (w + (k : Int))) true)) ?_ ?_)
     ·
      exact ⟨by omega, I16.2.next (by omega) (by omega)⟩
     ·
      ((try dsimp only); omega)
    ·
     (try simp only [decide_eq_true_eq, decide_eq_false_iff_not, Int.not_lt, Int.not_le] at h16)
     refine .back [.r [(3, X (Xn (w + (((d.getD i default)).n))))], .r [(0, X (Xn ((i : Int) + 1)))]] [(0, 0), (24, 24), (40, 40), (56, 56), (72, 72)] (ih4 ((w + (((d.getD i default)).n)), (i + 1), I, C2, S) ?_ ?_)
     ·
      have ek : k = (d.getD i default).n.toNat := by omega
      have ea : (d.getD i default).attrs = [] := by rcases hdo with ⟨q, _⟩ | ⟨q, e, b, n1, n2, v⟩; (omega); exact b h14
      refine ⟨by omega, _, hx.rest hv (by omega) h12 ?_ ?_⟩
      · rw [I16.2.eq, ek, h14]; rfl
      · rw [hx.set, ea, rep_same]; congr 2; omega
     ·
      ((try dsimp only); omega)
   ·
    (try simp only [beq_iff_eq, beq_eq_false_iff_ne, ne_eq] at h14)
    refine .loop (α := Nat × (List (List Attr))) [.r []] 232 (fun (k, S2) => ([(4, .ptr 0 0), (5, .ptr 72 0), (6, VI w), (8, .ptr 144 0), (19, VL 4 dstepT d), (20, VI (d.length : Int)), (21, VI (i : Int)), (28, VI (((d.getD i default)).n)), (29, VI (k : Int))], [(0, .box [VN, VN, VN]), (24, OR 1 elemsT I), (40, OR 1 boolT C), (56, OR 1 attrsT S2), (72, .box [.row 24 I.length, .row 40 C.length, .row 56 S2.length]), (144, .box [VI (((d.getD i default)).kind), VI (((d.getD i default)).n), VL 2 attrT (((d.getD i default)).attrs), VL 3 elemT (((d.getD i default)).elems)])])) (fun (k, S2) => (k : Int) ≤ (d.getD i default).n ∧ RS n k (d.getD i default).attrs x S2) (fun (k, S2) => (d.getD i default).n.toNat - k) (0, S) ?_ ?_
    ·
     exact ⟨by omega, RS.start hx.set⟩
    rintro ⟨k, S2⟩ I8 ih8
    try dsimp only at I8
    have m3 := I8.2.len hx.fit (by omega) (by omega)
    refine .br [.r []] (decide ((k : Int) < (((d.getD i default)).n))) (fun h8 => ?_) (fun h8 => ?_)
    ·
     (try simp only [decide_eq_true_eq, decide_eq_false_iff_not, Int.not_lt, Int.not_le] at h8)
     refine .back [.r [], .r [(4, X (Xn (w + (k : Int)))), (7, X (Xp attrsT S2 (w + (k : Int)))), (8, X (Xs 1 attrsT 56 S2 (Int.toNat (w + (k : Int))) (((d.getD i default)).attrs)))], .r [(0, X (Xn ((k : Int) + 1)))], .le (.eb 72 2 (.row 56 S2.length) (.row 56 ((S2.set (Int.toNat (w + (k : Int))) (((d.getD i default)).attrs)).length)) (by simp only [List.length_set]))] [(0, 0), (24, 24), (40, 40), (56, 56), (72, 72), (144, 144)] (ih8 ((k + 1), (S2.set (Int.toNat (w + (k : Int))) (((d.getD i default)).attrs))) ?_ ?_)
     ·
      exact ⟨by omega, I8.2.next hx.fit (by omega) (by omega)⟩
     ·
      ((try dsimp only); omega)
    ·
     (try simp only [decide_eq_true_eq, decide_eq_false_iff_not, Int.not_lt, Int.not_le] at h8)
     refine .back [.r [(3, X (Xn (w + (((d.getD i default)).n))))], .r [(0, X (Xn ((i : Int) + 1)))]] [(0, 0), (24, 24), (40, 40), (56, 56), (72, 72)] (ih4 ((w + (((d.getD i default)).n)), (i + 1), I, C, S2) ?_ ?_)
     ·
      have ek : k = (d.getD i default).n.toNat := by omega
      refine ⟨by omega, _, hx.rest hv (by omega) h12 ?_ ?_⟩
      · rw [hx.cut, show ((d.getD i default).kind == 2) = false by simpa using h14, rep_same]; congr 2; omega
      · rw [I8.2.eq, ek]
     ·
      ((try dsimp only); omega)
 ·
  (try simp only [decide_eq_true_eq, decide_eq_false_iff_not, Int.not_lt, Int.not_le] at h4)
  have hG := (hx.done (by omega))
  obtain ⟨g1, g2, g3⟩ := hG
  have e1 : ((actOfL d).ins.length : Nat) = I.length := by
   first | rw [g1] | rw [g2] | rw [g3]
  have e2 : ((actOfL d).cut.length : Nat) = C.length := by
   first | rw [g1] | rw [g2] | rw [g3]
  have e3 : ((actOfL d).set.length : Nat) = S.length := by
   first | rw [g1] | rw [g2] | rw [g3]
  have e4 : ((actOfL d).ins : List (List Elem)) = I := by
   first | rw [g1] | rw [g2] | rw [g3]
  have e5 : ((actOfL d).cut : List Bool) = C := by
   first | rw [g1] | rw [g2] | rw [g3]
  have e6 : ((actOfL d).set : List (List Attr)) = S := by
   first | rw [g1] | rw [g2] | rw [g3]
  exact .finE [.r []] [(0, 0), (24, 1), (40, 2), (56, 3)] (fun (z0, z1, z2, z3, z4, z5) => (.agg [.row 1 z0, .row 2 z1, .row 3 z2], [(0, .box [.row 1 z0, .row 2 z1, .row 3 z2]), (1, OR 1 elemsT z3), (2, OR 1 boolT z4), (3, OR 1 attrsT z5)])) ((I.length : Nat), (C.length : Nat), (S.length : Nat), (I : List (List Elem)), (C : List Bool), (S : List (List Attr))) (((actOfL d).ins.length : Nat), ((actOfL d).cut.length : Nat), ((actOfL d).set.length : Nat), ((actOfL d).ins : List (List Elem)), ((actOfL d).cut : List Bool), ((actOfL d).set : List (List Attr))) (pr e1 (pr e2 (pr e3 (pr e4 (pr e5 e6)))))
end Go.Ch
end
section
set_option linter.unusedVariables false
set_option linter.unusedSimpArgs false
set_option maxRecDepth 100000
set_option maxHeartbeats 4000000
open Go Go.Proofs Go.Ab
namespace Go.Ch
theorem fc_gap (node : Int) (o : List Elem) (c : List Conf) (a b : List Elem) (ho : o.length + a.length + b.length ≤ 100000000000) (hc : c.length ≤ 100000000000) : FC Try.prog 145 [.ptr 0 0, VL 3 elemT a, VL 3 elemT b] (app emp [(0, .box [VI node, .row 1 o.length, .row 2 c.length]), (1, OR 3 elemT o), (2, OR 5 confT c)]) (.tup []) (app emp [(0, .box [VI node, .row 1 ((gapO o a b).length), .row 2 ((gapC node o a b c).length)]), (1, OR 3 elemT (gapO o a b)), (2, OR 5 confT (gapC node o a b c))]) := by
 refine .go Try.f145 ?_
 refine .len 1 (fun hl1 => ?_)
 refine .len 2 (fun hl2 => ?_)
 refine .br [.r [], .r [(6, X (Xap 3 elemT 1 o a))], .r [(1, X (Xl elemT b)), (6, Xv 2 (!((b.length : Int) == 0)) (Xc0 (fc_fsame a b) X0)), (7, X (Xk' ((b.length : Int) == 0)))]] (((b.length : Int) == 0) || (sameF a b)) (fun h2 => ?_) (fun h2 => ?_)
 ·
  (try simp only [Bool.or_eq_true, Bool.or_eq_false_iff, beq_iff_eq, beq_eq_false_iff_ne, ne_eq] at h2)
  have e1 : ((gapO o a b).length : Nat) = (o ++ a).length := by
   (try unfold gapO); (try unfold gapC); ((repeat' split) <;> first | rfl | omega | (simp_all; done) | (simp_all; omega))
  have e2 : ((gapC node o a b c).length : Nat) = c.length := by
   (try unfold gapO); (try unfold gapC); ((repeat' split) <;> first | rfl | omega | (simp_all; done) | (simp_all; omega))
  have e3 : ((gapO o a b) : List Elem) = (o ++ a) := by
   (try unfold gapO); (try unfold gapC); ((repeat' split) <;> first | rfl | omega | (simp_all; done) | (simp_all; omega))
  have e4 : ((gapC node o a b c) : List Conf) = c := by
   (try unfold gapO); (try unfold gapC); ((repeat' split) <;> first | rfl | omega | (simp_all; done) | (simp_all; omega))
  exact .finE [] [(0, 0), (1, 1), (2, 2)] (fun (z0, z1, z2, z3) => (.tup [], [(0, .box [VI node, .row 1 z0, .row 2 z1]), (1, OR 3 elemT z2), (2, OR 5 confT z3)])) (((o ++ a).length : Nat), (c.length : Nat), ((o ++ a) : List Elem), (c : List Conf)) (((gapO o a b).length : Nat), ((gapC node o a b c).length : Nat), ((gapO o a b) : List Elem), ((gapC node o a b c) : List Conf)) (pr e1 (pr e2 (pr e3 e4)))
 ·
  (try simp only [Bool.or_eq_true, Bool.or_eq_false_iff, beq_iff_eq, beq_eq_false_iff_ne, ne_eq] at h2)
  refine .br [.r [(6, X (Xap 3 elemT 1 (o ++ a) b))], .r [(1, X (Xl elemT a))]] (decide ((a.length : Int) > 0)) (fun h4 => ?_) (fun h4 => ?_)
  ·
   (try simp only [decide_eq_true_eq, decide_eq_false_iff_not, Int.not_lt, Int.not_le, gt_iff_lt] at h4)
   have e5 : ((gapO o a b).length : Nat) = ((o ++ a) ++ b).length := by
    (try unfold gapO); (try unfold gapC); ((repeat' split) <;> first | rfl | omega | (simp_all; done) | (simp_all; omega))
   have e6 : ((gapC node o a b c).length : Nat) = (c ++ [({ kind := 0, node := node, fr := (o.length : Int), to := (((o ++ a) ++ b).length : Int), name := { data := #[] } } : Conf)]).length := by
    (try unfold gapO); (try unfold gapC); ((repeat' split) <;> first | rfl | omega | (simp_all; done) | (simp_all; omega))
   have e7 : ((gapO o a b) : List Elem) = ((o ++ a) ++ b) := by
    (try unfold gapO); (try unfold gapC); ((repeat' split) <;> first | rfl | omega | (simp_all; done) | (simp_all; omega))
   have e8 : ((gapC node o a b c) : List Conf) = (c ++ [({ kind := 0, node := node, fr := (o.length : Int), to := (((o ++ a) ++ b).length : Int), name := { data := #[] } } : Conf)]) := by
    (try unfold gapO); (try unfold gapC); ((repeat' split) <;> first | rfl | omega | (simp_all; done) | (simp_all; omega))
   exact .finE [.r [(17, X (rowC confT [({ kind := 0, node := node, fr := (o.length : Int), to := (((o ++ a) ++ b).length : Int), name := { data := #[] } } : Conf)] (Xap 5 confT 2 c [({ kind := 0, node := node, fr := (o.length : Int), to := (((o ++ a) ++ b).length : Int), name := { data := #[] } } : Conf)])))]] [(0, 0), (1, 1), (2, 2)] (fun (z0, z1, z2, z3) => (.tup [], [(0, .box [VI node, .row 1 z0, .row 2 z1]), (1, OR 3 elemT z2), (2, OR 5 confT z3)])) ((((o ++ a) ++ b).length : Nat), ((c ++ [({ kind := 0, node := node, fr := (o.length : Int), to := (((o ++ a) ++ b).length : Int), name := { data := #[] } } : Conf)]).length : Nat), (((o ++ a) ++ b) : List Elem), ((c ++ [({ kind := 0, node := node, fr := (o.length : Int), to := (((o ++ a) ++ b).length : Int), name := { data := #[] } } : Conf)]) : List Conf)) (((gapO o a b).length : Nat), ((gapC node o a b c).length : Nat), ((gapO o a b) : List Elem), ((gapC node o a b c) : List Conf)) (pr e5 (pr e6 (pr e7 e8)))
  ·
   (try simp only [decide_eq_true_eq, decide_eq_false_iff_not, Int.not_lt, Int.not_le, gt_iff_lt] at h4)
   have e9 : ((gapO o a b).length : Nat) = ((o ++ a) ++ b).length := by
    (try unfold gapO); (try unfold gapC); ((repeat' split) <;> first | rfl | omega | (simp_all; done) | (simp_all; omega))
   have e10 : ((gapC node o a b c).length : Nat) = c.length := by
    (try unfold gapO); (try unfold gapC); ((repeat' split) <;> first | rfl | omega | (simp_all; done) | (simp_all; omega))
   have e11 : ((gapO o a b) : List Elem) = ((o ++ a) ++ b) := by
    (try unfold gapO); (try unfold gapC); ((repeat' split) <;> first | rfl | omega | (simp_all; done) | (simp_all; omega))
   have e12 : ((gapC node o a b c) : List Conf) = c := by
    (try unfold gapO); (try unfold gapC); ((repeat' split) <;> first | rfl | omega | (simp_all; done) | (simp_all; omega))
   exact .finE [] [(0, 0), (1, 1), (2, 2)] (fun (z0, z1, z2, z3) => (.tup [], [(0, .box [VI node, .row 1 z0, .row 2 z1]), (1, OR 3 elemT z2), (2, OR 5 confT z3)])) ((((o ++ a) ++ b).length : Nat), (c.length : Nat), (((o ++ a) ++ b) : List Elem), (c : List Conf)) (((gapO o a b).length : Nat), ((gapC node o a b c).length : Nat), ((gapO o a b) : List Elem), ((gapC node o a b c) : List Conf)) (pr e9 (pr e10 (pr e11 e12)))

section
variable {node : Int} {o : List Elem} {x : Elem} {a b : List Attr} {ca cb : Bool} {c : List Conf}
theorem elmO_cut (h : ca = true ∨ cb = true) : elmO o x a b ca cb = o := by unfold elmO; rw [if_pos (by simpa using h)]
theorem elmO_keep (h : ca = false ∧ cb = false) : elmO o x a b ca cb = o ++ [keptE x a b] := by unfold elmO; rw [if_neg (by rw [h.1, h.2]; decide)]
theorem elmC_c1 (h : ca = true ∨ cb = true) (h3 : ca = false ∧ (0 : Int) < a.length ∨ cb = false ∧ (0 : Int) < b.length) : elmC node o a b ca cb c = c ++ [⟨1, node, o.length, o.length, { data := #[] }⟩] := by
  unfold elmC; rw [if_pos (by simpa using h), if_pos (by rcases h3 with ⟨p, q⟩ | ⟨p, q⟩; exact .inl ⟨p, by omega⟩; exact .inr ⟨p, by omega⟩)]
theorem elmC_c0 (h : ca = true ∨ cb = true) (h3 : (ca = true ∨ (a.length : Int) ≤ 0) ∧ (cb = true ∨ (b.length : Int) ≤ 0)) : elmC node o a b ca cb c = c := by
  unfold elmC; rw [if_pos (by simpa using h), if_neg (by
    rintro (⟨p, q⟩ | ⟨p, q⟩)
    · rcases h3.1 with r | r; (rw [p] at r; cases r); omega
    · rcases h3.2 with r | r; (rw [p] at r; cases r); omega)]
theorem elmC_keep (h : ca = false ∧ cb = false) : elmC node o a b ca cb c = c ++ attC node o.length b a := by unfold elmC; rw [if_neg (by rw [h.1, h.2]; decide)]
theorem clash_yes {x : Attr} (h : 0 ≤ idxF b x.name 0 ∧ seq (b.getD (idxF b x.name 0).toNat default).val x.val = false) : clashB b x = true := by
  unfold clashB; rw [decide_eq_true h.1, h.2]; rfl
theorem clash_no {x : Attr} (h : idxF b x.name 0 < 0 ∨ seq (b.getD (idxF b x.name 0).toNat default).val x.val = true) : clashB b x = false := by
  unfold clashB
  rcases h with h | h
  · rw [decide_eq_false (by omega)]; rfl
  · rw [h]; simp
end

theorem fc_elem2 (node : Int) (o : List Elem) (c : List Conf) (x : Elem) (a b : List Attr) (ca cb : Bool) (hx : x.attrs.length + a.length + b.length ≤ 1000000000000) (ho : o.length ≤ 100000000000) (hc : c.length + a.length ≤ 1000000000000) : FC Try.prog 146 [.ptr 0 0, .t (elemT x), VL 2 attrT a, VL 2 attrT b, VB ca, VB cb] (app emp [(0, .box [VI node, .row 1 o.length, .row 2 c.length]), (1, OR 3 elemT o), (2, OR 5 confT c)]) (.tup []) (app emp [(0, .box [VI node, .row 1 ((elmO o x a b ca cb).length), .row 2 ((elmC node o a b ca cb c).length)]), (1, OR 3 elemT (elmO o x a b ca cb)), (2, OR 5 confT (elmC node o a b ca cb c))]) := by
 refine .go Try.f146 ?_
 refine .len 2 (fun hl2 => ?_)
 refine .len 3 (fun hl3 => ?_)
 refine .br [.r [], .r [], .r [(3, X (Xk' ca))]] (ca || cb) (fun h2 => ?_) (fun h2 => ?_)
 ·
  (try simp only [Bool.or_eq_true, Bool.or_eq_false_iff] at h2)
  refine .br [.r [(4, Xv 1 (!ca) (Xl attrT a)), (5, Xv 1 (!ca) X0), (6, X (Xk (!ca))), (9, Xv 1 (!(!ca && decide ((a.length : Int) > 0))) X0), (10, Xv 1 (!(!ca && decide ((a.length : Int) > 0))) X0), (12, Xv 1 ((!(!ca && decide ((a.length : Int) > 0))) && (!cb)) (Xl attrT b)), (13, Xv 1 ((!(!ca && decide ((a.length : Int) > 0))) && (!cb)) X0), (14, Xka (!(!ca && decide ((a.length : Int) > 0))) (!cb)), (15, X (Xk' (!ca && decide ((a.length : Int) > 0))))]] ((!ca && decide ((a.length : Int) > 0)) || (!cb && decide ((b.length : Int) > 0))) (fun h3 => ?_) (fun h3 => ?_)
  ·
   (try simp only [decide_eq_true_eq, decide_eq_false_iff_not, Int.not_lt, Int.not_le, gt_iff_lt, Bool.not_eq_true', Bool.not_eq_false', Bool.and_eq_true, Bool.and_eq_false_iff, Bool.or_eq_true, Bool.or_eq_false_iff] at h3)
   have e1 : ((elmO o x a b ca cb).length : Nat) = o.length := by
    (first | rw [elmO_cut h2] | rw [elmO_keep h2] | rw [elmC_c1 h2 h3] | rw [elmC_c0 h2 h3] | rw [elmC_keep h2, hq]); (first | done | rfl | simp | skip)
   have e2 : ((elmC node o a b ca cb c).length : Nat) = (c ++ [({ kind := 1, node := node, fr := (o.length : Int), to := (o.length : Int), name := { data := #[] } } : Conf)]).length := by
    (first | rw [elmO_cut h2] | rw [elmO_keep h2] | rw [elmC_c1 h2 h3] | rw [elmC_c0 h2 h3] | rw [elmC_keep h2, hq]); (first | done | rfl | simp | skip)
   have e3 : ((elmO o x a b ca cb) : List Elem) = o := by
    (first | rw [elmO_cut h2] | rw [elmO_keep h2] | rw [elmC_c1 h2 h3] | rw [elmC_c0 h2 h3] | rw [elmC_keep h2, hq]); (first | done | rfl | simp | skip)
   have e4 : ((elmC node o a b ca cb c) : List Conf) = (c ++ [({ kind := 1, node := node, fr := (o.length : Int), to := (o.length : Int), name := { data := #[] } } : Conf)]) := by
    (first | rw [elmO_cut h2] | rw [elmO_keep h2] | rw [elmC_c1 h2 h3] | rw [elmC_c0 h2 h3] | rw [elmC_keep h2, hq]); (first | done | rfl | simp | skip)
   exact .finE [.r [(13, X (rowC confT [({ kind := 1, node := node, fr := (o.length : Int), to := (o.length : Int), name := { data := #[] } } : Conf)] (Xap 5 confT 2 c [({ kind := 1, node := node, fr := (o.length : Int), to := (o.length : Int), name := { data := #[] } } : Conf)])))]] [(0, 0), (1, 1), (2, 2)] (fun (z0, z1, z2, z3) => (.tup [], [(0, .box [VI node, .row 1 z0, .row 2 z1]), (1, OR 3 elemT z2), (2, OR 5 confT z3)])) ((o.length : Nat), ((c ++ [({ kind := 1, node := node, fr := (o.length : Int), to := (o.length : Int), name := { data := #[] } } : Conf)]).length : Nat), (o : List Elem), ((c ++ [({ kind := 1, node := node, fr := (o.length : Int), to := (o.length : Int), name := { data := #[] } } : Conf)]) : List Conf)) (((elmO o x a b ca cb).length : Nat), ((elmC node o a b ca cb c).length : Nat), ((elmO o x a b ca cb) : List Elem), ((elmC node o a b ca cb c) : List Conf)) (pr e1 (pr e2 (pr e3 e4)))
  ·
   (try simp only [decide_eq_true_eq, decide_eq_false_iff_not, Int.not_lt, Int.not_le, gt_iff_lt, Bool.not_eq_true', Bool.not_eq_false', Bool.and_eq_true, Bool.and_eq_false_iff, Bool.or_eq_true, Bool.or_eq_false_iff] at h3)
   have e5 : ((elmO o x a b ca cb).length : Nat) = o.length := by
    (first | rw [elmO_cut h2] | rw [elmO_keep h2] | rw [elmC_c1 h2 h3] | rw [elmC_c0 h2 h3] | rw [elmC_keep h2, hq]); (first | done | rfl | simp | skip)
   have e6 : ((elmC node o a b ca cb c).length : Nat) = c.length := by
    (first | rw [elmO_cut h2] | rw [elmO_keep h2] | rw [elmC_c1 h2 h3] | rw [elmC_c0 h2 h3] | rw [elmC_keep h2, hq]); (first | done | rfl | simp | skip)
   have e7 : ((elmO o x a b ca cb) : List Elem) = o := by
    (first | rw [elmO_cut h2] | rw [elmO_keep h2] | rw [elmC_c1 h2 h3] | rw [elmC_c0 h2 h3] | rw [elmC_keep h2, hq]); (first | done | rfl | simp | skip)
   have e8 : ((elmC node o a b ca cb c) : List Conf) = c := by
    (first | rw [elmO_cut h2] | rw [elmO_keep h2] | rw [elmC_c1 h2 h3] | rw [elmC_c0 h2 h3] | rw [elmC_keep h2, hq]); (first | done | rfl | simp | skip)
   exact .finE [] [(0, 0), (1, 1), (2, 2)] (fun (z0, z1, z2, z3) => (.tup [], [(0, .box [VI node, .row 1 z0, .row 2 z1]), (1, OR 3 elemT z2), (2, OR 5 confT z3)])) ((o.length : Nat), (c.length : Nat), (o : List Elem), (c : List Conf)) (((elmO o x a b ca cb).length : Nat), ((elmC node o a b ca cb c).length : Nat), ((elmO o x a b ca cb) : List Elem), ((elmC node o a b ca cb c) : List Conf)) (pr e5 (pr e6 (pr e7 e8)))
 ·
  (try simp only [Bool.or_eq_true, Bool.or_eq_false_iff] at h2)
  refine .loop (α := Nat × (List Conf)) [.r [(1, X (Xl attrT a))]] 115 (fun (i, q) => ([(0, .ptr 0 0), (2, VL 2 attrT a), (3, VL 2 attrT b), (7, .ptr 3 0), (12, VI (o.length : Int)), (57, VL 2 attrT a), (58, VI (a.length : Int)), (59, VI (i : Int))], [(0, .box [VI node, .row 1 o.length, .row 2 q.length]), (1, OR 3 elemT o), (2, OR 5 confT q), (3, .box [VI x.char, VI x.ref, VL 2 attrT x.attrs])])) (fun (i, q) => i ≤ a.length ∧ q = c ++ attC node o.length b (a.take i)) (fun (i, q) => a.length - i) (0, c) ?_ ?_
  ·
   exact ⟨by omega, by simp [attC]⟩
  rintro ⟨i, q⟩ I6 ih6
  try dsimp only at I6
  have ql := attC_len node o.length b (a.take i)
  have qq : q.length ≤ c.length + i := by rw [I6.2, List.length_append]; rw [List.length_take] at ql; omega
  refine .br [.r []] (decide ((i : Int) < (a.length : Int))) (fun h6 => ?_) (fun h6 => ?_)
  ·
   (try simp only [decide_eq_true_eq, decide_eq_false_iff_not, Int.not_lt, Int.not_le] at h6)
   have hb := idxF_bd b (a.getD i default).name _ 0 rfl
   refine .br [.r [(0, X (Xi attrT a (i : Int)))], .r [(2, X (Xc4 [(0, 139)] (fc_index b ⟨(((a.getD i default)).name), (((a.getD i default)).val)⟩) X0))], .r [(5, Xv 2 (decide ((idxF b (((a.getD i default)).name) 0) ≥ 0)) (Xi attrT b (idxF b (((a.getD i default)).name) 0)) (fun hg => by (try simp only [decide_eq_true_eq, decide_eq_false_iff_not, Int.not_lt, Int.not_le, ge_iff_le] at hg); exact ⟨(by omega), (by omega)⟩)), (6, Xv 1 (decide ((idxF b (((a.getD i default)).name) 0) ≥ 0)) X0), (7, Xv 1 (decide ((idxF b (((a.getD i default)).name) 0) ≥ 0)) X0), (9, Xv 1 (decide ((idxF b (((a.getD i default)).name) 0) ≥ 0)) X0), (10, Xv 2 (decide ((idxF b (((a.getD i default)).name) 0) ≥ 0)) X0), (11, X (Xk (decide ((idxF b (((a.getD i default)).name) 0) ≥ 0))))]] (decide ((idxF b (((a.getD i default)).name) 0) ≥ 0) && !(seq (((b.getD (Int.toNat (idxF b (((a.getD i default)).name) 0)) default)).val) (((a.getD i default)).val))) (fun h9 => ?_) (fun h9 => ?_)
   ·
    (try simp only [decide_eq_true_eq, decide_eq_false_iff_not, Int.not_lt, Int.not_le, ge_iff_le, Bool.not_eq_true', Bool.not_eq_false', Bool.and_eq_true, Bool.and_eq_false_iff] at h9)
    refine .back [.r [(11, X (Xn ((o.length : Int) + 1))), (16, X (rowC confT [({ kind := 2, node := node, fr := (o.length : Int), to := ((o.length : Int) + 1), name := ((a.getD i default)).name } : Conf)] (Xap 5 confT 2 q [({ kind := 2, node := node, fr := (o.length : Int), to := ((o.length : Int) + 1), name := ((a.getD i default)).name } : Conf)])))], .r [(0, X (Xn ((i : Int) + 1)))]] [(0, 0), (1, 1), (2, 2), (3, 3)] (ih6 ((i + 1), (q ++ [({ kind := 2, node := node, fr := (o.length : Int), to := ((o.length : Int) + 1), name := ((a.getD i default)).name } : Conf)])) ?_ ?_)
    ·
     refine ⟨by omega, ?_⟩
     rw [takeA (by omega), attC_snoc, if_pos (clash_yes h9), I6.2, List.append_assoc]
    ·
     ((try dsimp only); omega)
   ·
    (try simp only [decide_eq_true_eq, decide_eq_false_iff_not, Int.not_lt, Int.not_le, ge_iff_le, Bool.not_eq_true', Bool.not_eq_false', Bool.and_eq_true, Bool.and_eq_false_iff] at h9)
    refine .back [.r [(0, X (Xn ((i : Int) + 1)))]] [(0, 0), (1, 1), (2, 2), (3, 3)] (ih6 ((i + 1), q) ?_ ?_)
    ·
     refine ⟨by omega, ?_⟩
     rw [takeA (by omega), attC_snoc, if_neg (by rw [clash_no h9]; decide), I6.2, List.append_nil]
    ·
     ((try dsimp only); omega)
  ·
   (try simp only [decide_eq_true_eq, decide_eq_false_iff_not, Int.not_lt, Int.not_le] at h6)
   have hq : q = c ++ attC node o.length b a := by rw [I6.2, List.take_of_length_le (by omega)]
   have hfl := fm_len' rawG x.attrs b
   have e9 : ((elmO o x a b ca cb).length : Nat) = (o ++ [({ char := x.char, ref := x.ref, attrs := (fm rawG (fm rawG x.attrs b) a) } : Elem)]).length := by
    (first | rw [elmO_cut h2] | rw [elmO_keep h2] | rw [elmC_c1 h2 h3] | rw [elmC_c0 h2 h3] | rw [elmC_keep h2, hq]); (first | done | rfl | simp | skip)
   have e10 : ((elmC node o a b ca cb c).length : Nat) = q.length := by
    (first | rw [elmO_cut h2] | rw [elmO_keep h2] | rw [elmC_c1 h2 h3] | rw [elmC_c0 h2 h3] | rw [elmC_keep h2, hq]); (first | done | rfl | simp | skip)
   have e11 : ((elmO o x a b ca cb) : List Elem) = (o ++ [({ char := x.char, ref := x.ref, attrs := (fm rawG (fm rawG x.attrs b) a) } : Elem)]) := by
    (first | rw [elmO_cut h2] | rw [elmO_keep h2] | rw [elmC_c1 h2 h3] | rw [elmC_c0 h2 h3] | rw [elmC_keep h2, hq]); (first | done | rfl | simp | skip)
   have e12 : ((elmC node o a b ca cb c) : List Conf) = q := by
    (first | rw [elmO_cut h2] | rw [elmO_keep h2] | rw [elmC_c1 h2 h3] | rw [elmC_c0 h2 h3] | rw [elmC_keep h2, hq]); (first | done | rfl | simp | skip)
   exact .finE [.r [(3, X (Xc1 147 (fc_raw x.attrs b (by omega)) X0)), (5, X (Xc1 163 (fc_raw (fm rawG x.attrs b) a (by omega)) X0))], .r [(7, X (rowC elemT [({ char := x.char, ref := x.ref, attrs := (fm rawG (fm rawG x.attrs b) a) } : Elem)] (Xap 3 elemT 1 o [({ char := x.char, ref := x.ref, attrs := (fm rawG (fm rawG x.attrs b) a) } : Elem)])))]] [(0, 0), (1, 1), (2, 2)] (fun (z0, z1, z2, z3) => (.tup [], [(0, .box [VI node, .row 1 z0, .row 2 z1]), (1, OR 3 elemT z2), (2, OR 5 confT z3)])) (((o ++ [({ char := x.char, ref := x.ref, attrs := (fm rawG (fm rawG x.attrs b) a) } : Elem)]).length : Nat), (q.length : Nat), ((o ++ [({ char := x.char, ref := x.ref, attrs := (fm rawG (fm rawG x.attrs b) a) } : Elem)]) : List Elem), (q : List Conf)) (((elmO o x a b ca cb).length : Nat), ((elmC node o a b ca cb c).length : Nat), ((elmO o x a b ca cb) : List Elem), ((elmC node o a b ca cb c) : List Conf)) (pr e9 (pr e10 (pr e11 e12)))
end Go.Ch
end
