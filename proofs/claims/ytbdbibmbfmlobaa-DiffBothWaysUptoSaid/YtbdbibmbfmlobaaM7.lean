/- Parts of the proof: ChDiff3, Frame, AbBulk. -/
import Derived.Test.YtbdbibmbfmlobaaM1
import Derived.Test.YtbdbibmbfmlobaaM2
import Derived.Test.YtbdbibmbfmlobaaM3
import Derived.Test.YtbdbibmbfmlobaaM4
import Derived.Test.YtbdbibmbfmlobaaM5
import Derived.Test.YtbdbibmbfmlobaaM6
import Derived.Test.YtbdbibmbfmlobaaRows
import Derived.JoinedOf
import Derived.ProofKit
section
set_option linter.unusedVariables false
set_option linter.unusedSimpArgs false
set_option maxRecDepth 100000
set_option maxHeartbeats 4000000
open Go Go.Proofs Go.Ab
namespace Go.Ch
theorem fc_diffFlows (a b : List Elem) (pa : partE a 0 = 0) (pb : partE b 0 = 0) (na : AN 1000000000 a) (nb : AN 1000000000 b) (la : a.length ≤ 2000) (lb : b.length ≤ 2000) : FC Try.prog 61 [VL 3 elemT a, VL 3 elemT b] (app emp []) (.tup [VL 4 dstepT (doneD (diffU a b)), VI 0]) (app emp []) := by
 refine .go Try.f61 ?_
 refine .len 0 (fun hl0 => ?_)
 refine .len 1 (fun hl1 => ?_)
 refine .br [.r [], .r [], .u, .r [], .t, .r [(0, X (Xa (Xc ((0:Int) ≤ 0)) (Xc ((0 : Int) < ((2 : Nat) : Int)))) ⟨by decide, by decide⟩)], .r [(1, X (Xc0 (fc_checkPart a) X0))], .r []] ((partE a 0) != 0) (fun h5 => ?_) (fun h5 => ?_)
 ·
  (try simp only [bne_iff_ne, bne_eq_false_iff_eq, ne_eq] at h5)
  exfalso
  omega
 ·
  (try simp only [bne_iff_ne, bne_eq_false_iff_eq, ne_eq] at h5)
  refine .br [.r [], .u, .r [], .t, .r [(0, X (Xa (Xc ((0:Int) ≤ 1)) (Xc ((1 : Int) < ((2 : Nat) : Int)))) ⟨by decide, by decide⟩)], .r [(1, X (Xc0 (fc_checkPart b) X0))], .r []] ((partE b 0) != 0) (fun h5 => ?_) (fun h5 => ?_)
  ·
   (try simp only [bne_iff_ne, bne_eq_false_iff_eq, ne_eq] at h5)
   exfalso
   omega
  ·
   (try simp only [bne_iff_ne, bne_eq_false_iff_eq, ne_eq] at h5)
   refine .br [.r [], .u, .r [], .f, .r [(1, X (Xl elemT a)), (5, Xv 1 (!(decide ((a.length : Int) > 2000))) (Xl elemT b)), (6, Xv 1 (!(decide ((a.length : Int) > 2000))) X0), (7, X (Xk' (decide ((a.length : Int) > 2000))))]] (decide ((a.length : Int) > 2000) || decide ((b.length : Int) > 2000)) (fun h8 => ?_) (fun h8 => ?_)
   ·
    (try simp only [decide_eq_true_eq, decide_eq_false_iff_not, Int.not_lt, Int.not_le, gt_iff_lt, Bool.or_eq_true, Bool.or_eq_false_iff] at h8)
    exfalso
    omega
   ·
    (try simp only [decide_eq_true_eq, decide_eq_false_iff_not, Int.not_lt, Int.not_le, gt_iff_lt, Bool.or_eq_true, Bool.or_eq_false_iff] at h8)
    exact .fin [.r [(2, X (Xc1 296 (fc_diffRaw a b (by assumption) (by assumption) (by assumption) (by assumption) (by omega) (by omega)) X0))]] []

theorem fc_lawDiff (a b : List Elem) (ha : SzE a) (hb : SzE b) (na : AN 1000000000 a) (nb : AN 1000000000 b) : FC Try.prog 14 [VL 3 elemT a, VL 3 elemT b] (app emp []) (VB true) (app emp []) := by
 refine .go Try.f14 ?_
 refine .len 0 (fun hl0 => ?_)
 refine .len 1 (fun hl1 => ?_)
 refine .br [.r [], .r [(0, X (Xc0 fc_deltas X0))], .f, .r [(1, X (Xl elemT a))]] (decide ((a.length : Int) > 40)) (fun h3 => ?_) (fun h3 => ?_)
 ·
  (try simp only [decide_eq_true_eq, decide_eq_false_iff_not, Int.not_lt, Int.not_le, gt_iff_lt] at h3)
  refine .br [.r [(1, X (Xst elemT 3 a 40))], .r [(1, X (Xl elemT b))]] (decide ((b.length : Int) > 40)) (fun h5 => ?_) (fun h5 => ?_)
  ·
   (try simp only [decide_eq_true_eq, decide_eq_false_iff_not, Int.not_lt, Int.not_le, gt_iff_lt] at h5)
   have hz0 : SzE (a.take 40) := by first | exact ha | exact fun x hx => ha x (List.mem_of_mem_take hx)
   have hz1 : SzE (b.take 40) := by first | exact hb | exact fun x hx => hb x (List.mem_of_mem_take hx)
   refine .br [.r [(1, X (Xst elemT 3 b 40))], .r [(1, X (Xc0 (fc_partError (a.take 40) (by assumption)) X0)), (5, Xv 1 (!((partE (a.take 40) 0) != 0)) (Xc0 (fc_partError (b.take 40) (by assumption)) X0)), (6, Xv 1 (!((partE (a.take 40) 0) != 0)) X0), (7, X (Xk' ((partE (a.take 40) 0) != 0)))]] (((partE (a.take 40) 0) != 0) || ((partE (b.take 40) 0) != 0)) (fun h7 => ?_) (fun h7 => ?_)
   ·
    (try simp only [Bool.or_eq_true, Bool.or_eq_false_iff, bne_iff_ne, bne_eq_false_iff_eq, ne_eq] at h7)
    exact .fin [.r []] []
   ·
    (try simp only [Bool.or_eq_true, Bool.or_eq_false_iff, bne_iff_ne, bne_eq_false_iff_eq, ne_eq] at h7)
    have n0 : AN 1000000000 (a.take 40) := by first | exact na | exact an_take na _
    have n1 : AN 1000000000 (b.take 40) := by first | exact nb | exact an_take nb _
    have l0 : ((a.take 40)).length ≤ 40 := by first | omega | (simp only [List.length_take]; omega)
    have l1 : ((b.take 40)).length ≤ 40 := by first | omega | (simp only [List.length_take]; omega)
    have n4 := an_up n0 (k := 400000000000) (by decide)
    obtain ⟨_, _, _, _, _, v1, w1, o1, r1, c1, z1, b1, s1⟩ := diff_law h7.1 h7.2 n0 n1 (by omega) (by omega)
    obtain ⟨_, _, _, _, _, v2, w2, o2, r2, c2, z2, b2, s2⟩ := diff_law h7.2 h7.1 n1 n0 (by omega) (by omega)
    obtain ⟨d1, q1⟩ : ∃ z, doneD (diffU (a.take 40) (b.take 40)) = z := ⟨_, rfl⟩
    obtain ⟨d2, q2⟩ : ∃ z, doneD (diffU (b.take 40) (a.take 40)) = z := ⟨_, rfl⟩
    rw [q1] at v1 w1 o1 r1 c1
    rw [q2] at v2 w2 o2 r2 c2
    obtain ⟨p0, p1⟩ := h7
    have e1 : ((((((((true || false) || false) || false) || false) && ((costD d1) == (costD d2))) && decide ((costD d1) ≤ (((a.take 40).length : Int) + ((b.take 40).length : Int)))) && (sameF (rawD (a.take 40) d1) (b.take 40))) : Bool) = true := by
     rw [r1, sameF_self, c1, c2, s1]
     simp [-List.getD_eq_getElem?_getD]
     omega
    exact .finE [.r [(2, X (Xc1 200 (fc_diffFlows (a.take 40) (b.take 40) (by assumption) (by assumption) (by assumption) (by assumption) (by omega) (by omega)) X0))], .le (.eq 5 (VL 4 dstepT (doneD (diffU (a.take 40) (b.take 40)))) (VL 4 dstepT d1) (.of_eq (by rw [q1]))), .r [(2, X (Xc1 264 (fc_diffFlows (b.take 40) (a.take 40) (by assumption) (by assumption) (by assumption) (by assumption) (by omega) (by omega)) X0))], .le (.eq 7 (VL 4 dstepT (doneD (diffU (b.take 40) (a.take 40)))) (VL 4 dstepT d2) (.of_eq (by rw [q2]))), .r [(1, X (Xc0 (fc_cost d1 (by assumption) (by assumption) (by omega)) X0))], .r [(1, X (Xc0 (fc_cost d2 (by assumption) (by assumption) (by omega)) X0))], .r [(2, X (Xc1 440 (fc_dApply (a.take 40) d1 (by assumption) (by assumption) (by assumption) (by assumption) (by omega)) X0))], .r [(4, Xv 1 true X0), (5, X (Xk true)), (8, Xv 1 (true || false) X0), (9, X (Xk (true || false))), (12, Xv 1 ((true || false) || false) X0), (13, X (Xk ((true || false) || false))), (16, Xv 1 (((true || false) || false) || false) X0), (17, X (Xk (((true || false) || false) || false))), (21, Xv 2 ((((true || false) || false) || false) || false) X0), (22, X (Xk ((((true || false) || false) || false) || false))), (26, Xv 1 (((((true || false) || false) || false) || false) && ((costD d1) == (costD d2))) (Xl elemT (a.take 40))), (28, Xv 1 (((((true || false) || false) || false) || false) && ((costD d1) == (costD d2))) (Xl elemT (b.take 40))), (29, Xv 2 (((((true || false) || false) || false) || false) && ((costD d1) == (costD d2))) (Xn (((a.take 40).length : Int) + ((b.take 40).length : Int)))), (30, Xv 2 (((((true || false) || false) || false) || false) && ((costD d1) == (costD d2))) X0), (31, X (Xk (((((true || false) || false) || false) || false) && ((costD d1) == (costD d2))))), (35, Xv 2 ((((((true || false) || false) || false) || false) && ((costD d1) == (costD d2))) && decide ((costD d1) ≤ (((a.take 40).length : Int) + ((b.take 40).length : Int)))) (Xc0 (fc_sameFlow (rawD (a.take 40) d1) (b.take 40)) X0)), (36, X (Xk ((((((true || false) || false) || false) || false) && ((costD d1) == (costD d2))) && decide ((costD d1) ≤ (((a.take 40).length : Int) + ((b.take 40).length : Int))))))]] [] (fun z0 => (VB z0, [])) ((((((((true || false) || false) || false) || false) && ((costD d1) == (costD d2))) && decide ((costD d1) ≤ (((a.take 40).length : Int) + ((b.take 40).length : Int)))) && (sameF (rawD (a.take 40) d1) (b.take 40))) : Bool) (true : Bool) e1.symm
  ·
   (try simp only [decide_eq_true_eq, decide_eq_false_iff_not, Int.not_lt, Int.not_le, gt_iff_lt] at h5)
   have hz0 : SzE (a.take 40) := by first | exact ha | exact fun x hx => ha x (List.mem_of_mem_take hx)
   have hz1 : SzE b := by first | exact hb | exact fun x hx => hb x (List.mem_of_mem_take hx)
   refine .br [.r [(1, X (Xc0 (fc_partError (a.take 40) (by assumption)) X0)), (5, Xv 1 (!((partE (a.take 40) 0) != 0)) (Xc0 (fc_partError b (by assumption)) X0)), (6, Xv 1 (!((partE (a.take 40) 0) != 0)) X0), (7, X (Xk' ((partE (a.take 40) 0) != 0)))]] (((partE (a.take 40) 0) != 0) || ((partE b 0) != 0)) (fun h7 => ?_) (fun h7 => ?_)
   ·
    (try simp only [Bool.or_eq_true, Bool.or_eq_false_iff, bne_iff_ne, bne_eq_false_iff_eq, ne_eq] at h7)
    exact .fin [.r []] []
   ·
    (try simp only [Bool.or_eq_true, Bool.or_eq_false_iff, bne_iff_ne, bne_eq_false_iff_eq, ne_eq] at h7)
    have n0 : AN 1000000000 (a.take 40) := by first | exact na | exact an_take na _
    have n1 : AN 1000000000 b := by first | exact nb | exact an_take nb _
    have l0 : ((a.take 40)).length ≤ 40 := by first | omega | (simp only [List.length_take]; omega)
    have l1 : (b).length ≤ 40 := by first | omega | (simp only [List.length_take]; omega)
    have n4 := an_up n0 (k := 400000000000) (by decide)
    obtain ⟨_, _, _, _, _, v1, w1, o1, r1, c1, z1, b1, s1⟩ := diff_law h7.1 h7.2 n0 n1 (by omega) (by omega)
    obtain ⟨_, _, _, _, _, v2, w2, o2, r2, c2, z2, b2, s2⟩ := diff_law h7.2 h7.1 n1 n0 (by omega) (by omega)
    obtain ⟨d1, q1⟩ : ∃ z, doneD (diffU (a.take 40) b) = z := ⟨_, rfl⟩
    obtain ⟨d2, q2⟩ : ∃ z, doneD (diffU b (a.take 40)) = z := ⟨_, rfl⟩
    rw [q1] at v1 w1 o1 r1 c1
    rw [q2] at v2 w2 o2 r2 c2
    obtain ⟨p0, p1⟩ := h7
    have e2 : ((((((((true || false) || false) || false) || false) && ((costD d1) == (costD d2))) && decide ((costD d1) ≤ (((a.take 40).length : Int) + (b.length : Int)))) && (sameF (rawD (a.take 40) d1) b)) : Bool) = true := by
     rw [r1, sameF_self, c1, c2, s1]
     simp [-List.getD_eq_getElem?_getD]
     omega
    exact .finE [.r [(2, X (Xc1 176 (fc_diffFlows (a.take 40) b (by assumption) (by assumption) (by assumption) (by assumption) (by omega) (by omega)) X0))], .le (.eq 5 (VL 4 dstepT (doneD (diffU (a.take 40) b))) (VL 4 dstepT d1) (.of_eq (by rw [q1]))), .r [(2, X (Xc1 240 (fc_diffFlows b (a.take 40) (by assumption) (by assumption) (by assumption) (by assumption) (by omega) (by omega)) X0))], .le (.eq 7 (VL 4 dstepT (doneD (diffU b (a.take 40)))) (VL 4 dstepT d2) (.of_eq (by rw [q2]))), .r [(1, X (Xc0 (fc_cost d1 (by assumption) (by assumption) (by omega)) X0))], .r [(1, X (Xc0 (fc_cost d2 (by assumption) (by assumption) (by omega)) X0))], .r [(2, X (Xc1 416 (fc_dApply (a.take 40) d1 (by assumption) (by assumption) (by assumption) (by assumption) (by omega)) X0))], .r [(4, Xv 1 true X0), (5, X (Xk true)), (8, Xv 1 (true || false) X0), (9, X (Xk (true || false))), (12, Xv 1 ((true || false) || false) X0), (13, X (Xk ((true || false) || false))), (16, Xv 1 (((true || false) || false) || false) X0), (17, X (Xk (((true || false) || false) || false))), (21, Xv 2 ((((true || false) || false) || false) || false) X0), (22, X (Xk ((((true || false) || false) || false) || false))), (26, Xv 1 (((((true || false) || false) || false) || false) && ((costD d1) == (costD d2))) (Xl elemT (a.take 40))), (28, Xv 1 (((((true || false) || false) || false) || false) && ((costD d1) == (costD d2))) (Xl elemT b)), (29, Xv 2 (((((true || false) || false) || false) || false) && ((costD d1) == (costD d2))) (Xn (((a.take 40).length : Int) + (b.length : Int)))), (30, Xv 2 (((((true || false) || false) || false) || false) && ((costD d1) == (costD d2))) X0), (31, X (Xk (((((true || false) || false) || false) || false) && ((costD d1) == (costD d2))))), (35, Xv 2 ((((((true || false) || false) || false) || false) && ((costD d1) == (costD d2))) && decide ((costD d1) ≤ (((a.take 40).length : Int) + (b.length : Int)))) (Xc0 (fc_sameFlow (rawD (a.take 40) d1) b) X0)), (36, X (Xk ((((((true || false) || false) || false) || false) && ((costD d1) == (costD d2))) && decide ((costD d1) ≤ (((a.take 40).length : Int) + (b.length : Int))))))]] [] (fun z0 => (VB z0, [])) ((((((((true || false) || false) || false) || false) && ((costD d1) == (costD d2))) && decide ((costD d1) ≤ (((a.take 40).length : Int) + (b.length : Int)))) && (sameF (rawD (a.take 40) d1) b)) : Bool) (true : Bool) e2.symm
 ·
  (try simp only [decide_eq_true_eq, decide_eq_false_iff_not, Int.not_lt, Int.not_le, gt_iff_lt] at h3)
  refine .br [.r [(1, X (Xl elemT b))]] (decide ((b.length : Int) > 40)) (fun h5 => ?_) (fun h5 => ?_)
  ·
   (try simp only [decide_eq_true_eq, decide_eq_false_iff_not, Int.not_lt, Int.not_le, gt_iff_lt] at h5)
   have hz0 : SzE a := by first | exact ha | exact fun x hx => ha x (List.mem_of_mem_take hx)
   have hz1 : SzE (b.take 40) := by first | exact hb | exact fun x hx => hb x (List.mem_of_mem_take hx)
   refine .br [.r [(1, X (Xst elemT 3 b 40))], .r [(1, X (Xc0 (fc_partError a (by assumption)) X0)), (5, Xv 1 (!((partE a 0) != 0)) (Xc0 (fc_partError (b.take 40) (by assumption)) X0)), (6, Xv 1 (!((partE a 0) != 0)) X0), (7, X (Xk' ((partE a 0) != 0)))]] (((partE a 0) != 0) || ((partE (b.take 40) 0) != 0)) (fun h7 => ?_) (fun h7 => ?_)
   ·
    (try simp only [Bool.or_eq_true, Bool.or_eq_false_iff, bne_iff_ne, bne_eq_false_iff_eq, ne_eq] at h7)
    exact .fin [.r []] []
   ·
    (try simp only [Bool.or_eq_true, Bool.or_eq_false_iff, bne_iff_ne, bne_eq_false_iff_eq, ne_eq] at h7)
    have n0 : AN 1000000000 a := by first | exact na | exact an_take na _
    have n1 : AN 1000000000 (b.take 40) := by first | exact nb | exact an_take nb _
    have l0 : (a).length ≤ 40 := by first | omega | (simp only [List.length_take]; omega)
    have l1 : ((b.take 40)).length ≤ 40 := by first | omega | (simp only [List.length_take]; omega)
    have n4 := an_up n0 (k := 400000000000) (by decide)
    obtain ⟨_, _, _, _, _, v1, w1, o1, r1, c1, z1, b1, s1⟩ := diff_law h7.1 h7.2 n0 n1 (by omega) (by omega)
    obtain ⟨_, _, _, _, _, v2, w2, o2, r2, c2, z2, b2, s2⟩ := diff_law h7.2 h7.1 n1 n0 (by omega) (by omega)
    obtain ⟨d1, q1⟩ : ∃ z, doneD (diffU a (b.take 40)) = z := ⟨_, rfl⟩
    obtain ⟨d2, q2⟩ : ∃ z, doneD (diffU (b.take 40) a) = z := ⟨_, rfl⟩
    rw [q1] at v1 w1 o1 r1 c1
    rw [q2] at v2 w2 o2 r2 c2
    obtain ⟨p0, p1⟩ := h7
    have e3 : ((((((((true || false) || false) || false) || false) && ((costD d1) == (costD d2))) && decide ((costD d1) ≤ ((a.length : Int) + ((b.take 40).length : Int)))) && (sameF (rawD a d1) (b.take 40))) : Bool) = true := by
     rw [r1, sameF_self, c1, c2, s1]
     simp [-List.getD_eq_getElem?_getD]
     omega
    exact .finE [.r [(2, X (Xc1 176 (fc_diffFlows a (b.take 40) (by assumption) (by assumption) (by assumption) (by assumption) (by omega) (by omega)) X0))], .le (.eq 5 (VL 4 dstepT (doneD (diffU a (b.take 40)))) (VL 4 dstepT d1) (.of_eq (by rw [q1]))), .r [(2, X (Xc1 240 (fc_diffFlows (b.take 40) a (by assumption) (by assumption) (by assumption) (by assumption) (by omega) (by omega)) X0))], .le (.eq 7 (VL 4 dstepT (doneD (diffU (b.take 40) a))) (VL 4 dstepT d2) (.of_eq (by rw [q2]))), .r [(1, X (Xc0 (fc_cost d1 (by assumption) (by assumption) (by omega)) X0))], .r [(1, X (Xc0 (fc_cost d2 (by assumption) (by assumption) (by omega)) X0))], .r [(2, X (Xc1 416 (fc_dApply a d1 (by assumption) (by assumption) (by assumption) (by assumption) (by omega)) X0))], .r [(4, Xv 1 true X0), (5, X (Xk true)), (8, Xv 1 (true || false) X0), (9, X (Xk (true || false))), (12, Xv 1 ((true || false) || false) X0), (13, X (Xk ((true || false) || false))), (16, Xv 1 (((true || false) || false) || false) X0), (17, X (Xk (((true || false) || false) || false))), (21, Xv 2 ((((true || false) || false) || false) || false) X0), (22, X (Xk ((((true || false) || false) || false) || false))), (26, Xv 1 (((((true || false) || false) || false) || false) && ((costD d1) == (costD d2))) (Xl elemT a)), (28, Xv 1 (((((true || false) || false) || false) || false) && ((costD d1) == (costD d2))) (Xl elemT (b.take 40))), (29, Xv 2 (((((true || false) || false) || false) || false) && ((costD d1) == (costD d2))) (Xn ((a.length : Int) + ((b.take 40).length : Int)))), (30, Xv 2 (((((true || false) || false) || false) || false) && ((costD d1) == (costD d2))) X0), (31, X (Xk (((((true || false) || false) || false) || false) && ((costD d1) == (costD d2))))), (35, Xv 2 ((((((true || false) || false) || false) || false) && ((costD d1) == (costD d2))) && decide ((costD d1) ≤ ((a.length : Int) + ((b.take 40).length : Int)))) (Xc0 (fc_sameFlow (rawD a d1) (b.take 40)) X0)), (36, X (Xk ((((((true || false) || false) || false) || false) && ((costD d1) == (costD d2))) && decide ((costD d1) ≤ ((a.length : Int) + ((b.take 40).length : Int))))))]] [] (fun z0 => (VB z0, [])) ((((((((true || false) || false) || false) || false) && ((costD d1) == (costD d2))) && decide ((costD d1) ≤ ((a.length : Int) + ((b.take 40).length : Int)))) && (sameF (rawD a d1) (b.take 40))) : Bool) (true : Bool) e3.symm
  ·
   (try simp only [decide_eq_true_eq, decide_eq_false_iff_not, Int.not_lt, Int.not_le, gt_iff_lt] at h5)
   have hz0 : SzE a := by first | exact ha | exact fun x hx => ha x (List.mem_of_mem_take hx)
   have hz1 : SzE b := by first | exact hb | exact fun x hx => hb x (List.mem_of_mem_take hx)
   refine .br [.r [(1, X (Xc0 (fc_partError a (by assumption)) X0)), (5, Xv 1 (!((partE a 0) != 0)) (Xc0 (fc_partError b (by assumption)) X0)), (6, Xv 1 (!((partE a 0) != 0)) X0), (7, X (Xk' ((partE a 0) != 0)))]] (((partE a 0) != 0) || ((partE b 0) != 0)) (fun h7 => ?_) (fun h7 => ?_)
   ·
    (try simp only [Bool.or_eq_true, Bool.or_eq_false_iff, bne_iff_ne, bne_eq_false_iff_eq, ne_eq] at h7)
    exact .fin [.r []] []
   ·
    (try simp only [Bool.or_eq_true, Bool.or_eq_false_iff, bne_iff_ne, bne_eq_false_iff_eq, ne_eq] at h7)
    have n0 : AN 1000000000 a := by first | exact na | exact an_take na _
    have n1 : AN 1000000000 b := by first | exact nb | exact an_take nb _
    have l0 : (a).length ≤ 40 := by first | omega | (simp only [List.length_take]; omega)
    have l1 : (b).length ≤ 40 := by first | omega | (simp only [List.length_take]; omega)
    have n4 := an_up n0 (k := 400000000000) (by decide)
    obtain ⟨_, _, _, _, _, v1, w1, o1, r1, c1, z1, b1, s1⟩ := diff_law h7.1 h7.2 n0 n1 (by omega) (by omega)
    obtain ⟨_, _, _, _, _, v2, w2, o2, r2, c2, z2, b2, s2⟩ := diff_law h7.2 h7.1 n1 n0 (by omega) (by omega)
    obtain ⟨d1, q1⟩ : ∃ z, doneD (diffU a b) = z := ⟨_, rfl⟩
    obtain ⟨d2, q2⟩ : ∃ z, doneD (diffU b a) = z := ⟨_, rfl⟩
    rw [q1] at v1 w1 o1 r1 c1
    rw [q2] at v2 w2 o2 r2 c2
    obtain ⟨p0, p1⟩ := h7
    have e4 : ((((((((true || false) || false) || false) || false) && ((costD d1) == (costD d2))) && decide ((costD d1) ≤ ((a.length : Int) + (b.length : Int)))) && (sameF (rawD a d1) b)) : Bool) = true := by
     rw [r1, sameF_self, c1, c2, s1]
     simp [-List.getD_eq_getElem?_getD]
     omega
    exact .finE [.r [(2, X (Xc1 152 (fc_diffFlows a b (by assumption) (by assumption) (by assumption) (by assumption) (by omega) (by omega)) X0))], .le (.eq 5 (VL 4 dstepT (doneD (diffU a b))) (VL 4 dstepT d1) (.of_eq (by rw [q1]))), .r [(2, X (Xc1 216 (fc_diffFlows b a (by assumption) (by assumption) (by assumption) (by assumption) (by omega) (by omega)) X0))], .le (.eq 7 (VL 4 dstepT (doneD (diffU b a))) (VL 4 dstepT d2) (.of_eq (by rw [q2]))), .r [(1, X (Xc0 (fc_cost d1 (by assumption) (by assumption) (by omega)) X0))], .r [(1, X (Xc0 (fc_cost d2 (by assumption) (by assumption) (by omega)) X0))], .r [(2, X (Xc1 392 (fc_dApply a d1 (by assumption) (by assumption) (by assumption) (by assumption) (by omega)) X0))], .r [(4, Xv 1 true X0), (5, X (Xk true)), (8, Xv 1 (true || false) X0), (9, X (Xk (true || false))), (12, Xv 1 ((true || false) || false) X0), (13, X (Xk ((true || false) || false))), (16, Xv 1 (((true || false) || false) || false) X0), (17, X (Xk (((true || false) || false) || false))), (21, Xv 2 ((((true || false) || false) || false) || false) X0), (22, X (Xk ((((true || false) || false) || false) || false))), (26, Xv 1 (((((true || false) || false) || false) || false) && ((costD d1) == (costD d2))) (Xl elemT a)), (28, Xv 1 (((((true || false) || false) || false) || false) && ((costD d1) == (costD d2))) (Xl elemT b)), (29, Xv 2 (((((true || false) || false) || false) || false) && ((costD d1) == (costD d2))) (Xn ((a.length : Int) + (b.length : Int)))), (30, Xv 2 (((((true || false) || false) || false) || false) && ((costD d1) == (costD d2))) X0), (31, X (Xk (((((true || false) || false) || false) || false) && ((costD d1) == (costD d2))))), (35, Xv 2 ((((((true || false) || false) || false) || false) && ((costD d1) == (costD d2))) && decide ((costD d1) ≤ ((a.length : Int) + (b.length : Int)))) (Xc0 (fc_sameFlow (rawD a d1) b) X0)), (36, X (Xk ((((((true || false) || false) || false) || false) && ((costD d1) == (costD d2))) && decide ((costD d1) ≤ ((a.length : Int) + (b.length : Int))))))]] [] (fun z0 => (VB z0, [])) ((((((((true || false) || false) || false) || false) && ((costD d1) == (costD d2))) && decide ((costD d1) ≤ ((a.length : Int) + (b.length : Int)))) && (sameF (rawD a d1) b)) : Bool) (true : Bool) e4.symm
end Go.Ch
end
section
set_option linter.unusedVariables false
set_option linter.unusedSimpArgs false
namespace Go.Proofs.Ytbdbibmbfmlobaa.frame
open Go Go.Proofs
def chs (l : List Nat) : List Char := l.map Char.ofNat
def w1 : List Char := chs [104, 97, 114, 110, 101, 115, 115]
def w2 : List Char := chs [102, 99, 57, 53, 99, 99, 54, 48, 52, 99, 55, 51, 55, 49, 100, 51, 97, 56, 102, 99, 55, 97, 51, 57, 52, 52, 50, 100, 100, 57, 102, 97, 97, 99, 52, 99, 99, 102, 50, 53, 100, 98, 52, 98, 52, 52, 50, 100, 56, 50, 102, 102, 97, 49, 97, 50, 48, 51, 57, 48, 102, 97, 101, 102]
def w3 : List Char := chs [99, 117, 116]
def sp : Char := Char.ofNat 32
theorem ws_sp (r : List Char) : wordsSigns (sp :: r) = [] :: wordsSigns r := rfl
theorem ws_c (c : Char) (r : List Char) (h : c ≠ sp) : wordsSigns (c :: r) = match wordsSigns r with
    | w :: ws => (c :: w) :: ws
    | [] => [[c]] := by
  rw [wordsSigns.eq_def]
  split
  · rename_i e; cases e
  · rename_i e; simp only [List.cons.injEq] at e; exact absurd e.1 h
  · rename_i e; simp only [List.cons.injEq] at e; obtain ⟨rfl, rfl⟩ := e; rfl
theorem ws_app : ∀ (a : List Char), (a.all fun c => c != sp) = true → ∀ r, wordsSigns (a ++ sp :: r) = a :: wordsSigns r
  | [], _, r => ws_sp r
  | c :: a, h, r => by
    simp only [List.all_cons, Bool.and_eq_true, bne_iff_ne] at h
    rw [List.cons_append, ws_c _ _ h.1, ws_app a h.2 r]
theorem tl (l : List Char) : (String.ofList l).toList = l := String.toList_ofList
theorem k1 : ("harness" : String).toList = w1 := tl w1
theorem k2 : ("cut" : String).toList = w3 := tl w3
theorem k3 : ("gc" : String).toList = chs [103, 99] := tl (chs [103, 99])
theorem k4 : ("spec" : String).toList = chs [115, 112, 101, 99] := tl (chs [115, 112, 101, 99])
theorem k5 : ("carried" : String).toList = chs [99, 97, 114, 114, 105, 101, 100] := tl (chs [99, 97, 114, 114, 105, 101, 100])
theorem lifts (r : List (List Char)) : stripLifts liftWords (w3 :: r) = ([], w3 :: r) := by
  unfold liftWords
  simp only [stripLifts]
  have key : ∀ l : List Nat, (w3 == chs l) = false → ∀ (s : String), s = String.ofList (chs l) → (w3 == s.toList) = false := fun l h s e => by rw [e, tl]; exact h
  rw [if_neg (by rw [key [102, 105, 110, 97, 108, 115] (by kernel_rfl) "finals" rfl]; decide)]
  rw [if_neg (by rw [key [114, 101, 102, 108, 101, 99, 116, 114, 111, 119, 115] (by kernel_rfl) "reflectrows" rfl]; decide)]
  rw [if_neg (by rw [key [108, 101, 97, 110, 114, 111, 119, 115] (by kernel_rfl) "leanrows" rfl]; decide)]
  rw [if_neg (by rw [key [111, 110, 101, 98, 117, 105, 108, 100] (by kernel_rfl) "onebuild" rfl]; decide)]
  rw [if_neg (by rw [key [112, 117, 98, 108, 105, 99, 115, 117, 109, 115] (by kernel_rfl) "publicsums" rfl]; decide)]
  rw [if_neg (by rw [key [101, 113, 103, 117, 97, 114, 100] (by kernel_rfl) "eqguard" rfl]; decide)]
  rw [if_neg (by rw [key [111, 119, 110, 117, 110, 115, 97, 102, 101] (by kernel_rfl) "ownunsafe" rfl]; decide)]
  rw [if_neg (by rw [key [108, 105, 98, 98, 101, 115, 105, 100, 101] (by kernel_rfl) "libbeside" rfl]; decide)]
  rw [if_neg (by rw [key [111, 119, 110, 98, 101, 115, 105, 100, 101] (by kernel_rfl) "ownbeside" rfl]; decide)]
  rw [if_neg (by rw [key [114, 101, 102, 108, 98, 101, 115, 105, 100, 101] (by kernel_rfl) "reflbeside" rfl]; decide)]
  rw [if_neg (by rw [key [97, 108, 105, 97, 115, 101, 115] (by kernel_rfl) "aliases" rfl]; decide)]
  rw [if_neg (by rw [key [97, 102, 116, 101, 114, 105, 110, 105, 116] (by kernel_rfl) "afterinit" rfl]; decide)]
  rw [if_neg (by rw [key [99, 114, 99, 112, 108, 97, 105, 110] (by kernel_rfl) "crcplain" rfl]; decide)]
  rw [if_neg (by rw [key [114, 111, 97, 100, 117, 110, 115, 97, 102, 101] (by kernel_rfl) "roadunsafe" rfl]; decide)]
  rw [if_neg (by rw [key [102, 109, 116, 104, 97, 110, 100, 111, 110] (by kernel_rfl) "fmthandon" rfl]; decide)]
theorem words {P : Program} {rest : List Char} (h : P.initOrder.toList = w1 ++ sp :: (w2 ++ sp :: (w3 ++ sp :: rest))) : behindMainWord (wordsSigns P.initOrder.toList) = w3 :: wordsSigns rest := by
  rw [h, ws_app w1 (by kernel_rfl), ws_app w2 (by kernel_rfl), ws_app w3 (by kernel_rfl)]
  unfold behindMainWord
  rw [k1]
  exact if_pos (by kernel_rfl)
theorem may {P : Program} {rest : List Char} (h : P.initOrder.toList = w1 ++ sp :: (w2 ++ sp :: (w3 ++ sp :: rest))) (hl : P.laysLater = false) (hb : P.bearsReflect = false) (hd : P.doorFits [] = true) : P.mayEnter = true := by
  unfold Program.mayEnter
  rw [words h]
  simp only [lifts, k2, k3, k4, k5, hl, hb, hd]
  have h1 : (w3 == chs [103, 99]) = false := by kernel_rfl
  have h2 : (w3 == chs [115, 112, 101, 99]) = false := by kernel_rfl
  have h3 : (w3 == chs [99, 97, 114, 114, 105, 101, 100]) = false := by kernel_rfl
  rw [h1, h2, h3]
  simp
theorem fin {P : Program} {rest : List Char} (h : P.initOrder.toList = w1 ++ sp :: (w2 ++ sp :: (w3 ++ sp :: rest))) : P.liftsFinal = false := by
  unfold Program.liftsFinal Program.headLifts
  rw [words h]
  simp only [lifts, k2, k5]
  have h3 : (w3 == chs [99, 97, 114, 114, 105, 101, 100]) = false := by kernel_rfl
  simp [h3]
theorem mk {P : Program} {rest : List Char} (h : P.initOrder.toList = w1 ++ sp :: (w2 ++ sp :: (w3 ++ sp :: rest))) : P.make = some .cut := by
  unfold Program.make
  rw [words h]
  simp only [k2, k3, k4, k5]
  have h1 : (w3 == chs [103, 99]) = false := by kernel_rfl
  have h2 : (w3 == chs [115, 112, 101, 99]) = false := by kernel_rfl
  rw [h1, h2]
  simp
theorem head : Try.pinned.checked.prog.initOrder = String.ofList (w1 ++ sp :: (w2 ++ sp :: (w3 ++ sp :: chs [97, 116, 32, 99, 104, 97, 110, 99, 101, 114, 121, 47, 99, 104, 97, 110, 99, 101, 114, 121, 107, 101, 101, 112, 49, 46, 83, 112, 97, 110, 83, 105, 122, 101, 115, 65, 100, 100, 32, 99, 104, 97, 110, 99, 101, 114, 121, 47, 99, 104, 97, 110, 99, 101, 114, 121, 107, 101, 101, 112, 49, 46, 65, 116, 116, 114, 85, 110, 100, 111, 82, 101, 115, 116, 111, 114, 101, 115, 32, 99, 104, 97, 110, 99, 101, 114, 121, 47, 99, 104, 97, 110, 99, 101, 114, 121, 107, 101, 101, 112, 49, 46, 65, 116, 116, 114, 66, 101, 116, 119, 101, 101, 110, 76, 101, 97, 100, 115, 32, 99, 104, 97, 110, 99, 101, 114, 121, 47, 99, 104, 97, 110, 99, 101, 114, 121, 107, 101, 101, 112, 49, 46, 65, 116, 116, 114, 80, 97, 105, 114, 77, 101, 101, 116, 115, 32, 99, 104, 97, 110, 99, 101, 114, 121, 47, 99, 104, 97, 110, 99, 101, 114, 121, 107, 101, 101, 112, 49, 46, 65, 120, 105, 115, 74, 111, 105, 110, 65, 115, 115, 111, 99, 105, 97, 116, 101, 115, 32, 99, 104, 97, 110, 99, 101, 114, 121, 47, 99, 104, 97, 110, 99, 101, 114, 121, 107, 101, 101, 112, 49, 46, 65, 120, 105, 115, 80, 97, 105, 114, 77, 101, 101, 116, 115, 32, 99, 104, 97, 110, 99, 101, 114, 121, 47, 99, 104, 97, 110, 99, 101, 114, 121, 107, 101, 101, 112, 49, 46, 65, 120, 105, 115, 80, 108, 97, 99, 101, 115, 75, 101, 101, 112, 79, 114, 100, 101, 114, 32, 99, 104, 97, 110, 99, 101, 114, 121, 47, 99, 104, 97, 110, 99, 101, 114, 121, 107, 101, 101, 112, 49, 46, 68, 101, 108, 116, 97, 84, 105, 100, 121, 65, 99, 116, 115, 32, 99, 104, 97, 110, 99, 101, 114, 121, 47, 99, 104, 97, 110, 99, 101, 114, 121, 107, 101, 101, 112, 49, 46, 68, 101, 108, 116, 97, 85, 110, 100, 111, 82, 101, 115, 116, 111, 114, 101, 115, 32, 99, 104, 97, 110, 99, 101, 114, 121, 47, 99, 104, 97, 110, 99, 101, 114, 121, 107, 101, 101, 112, 49, 46, 68, 101, 108, 116, 97, 74, 111, 105, 110, 65, 99, 116, 115, 32, 99, 104, 97, 110, 99, 101, 114, 121, 47, 99, 104, 97, 110, 99, 101, 114, 121, 107, 101, 101, 112, 49, 46, 68, 101, 108, 116, 97, 80, 97, 105, 114, 77, 101, 101, 116, 115, 32, 99, 104, 97, 110, 99, 101, 114, 121, 47, 99, 104, 97, 110, 99, 101, 114, 121, 107, 101, 101, 112, 49, 46, 68, 105, 102, 102, 66, 111, 116, 104, 87, 97, 121, 115, 32, 99, 104, 97, 110, 99, 101, 114, 121, 47, 99, 104, 97, 110, 99, 101, 114, 121, 107, 101, 101, 112, 49, 46, 84, 114, 97, 99, 107, 65, 99, 99, 101, 112, 116, 83, 104, 111, 119, 115, 32, 99, 104, 97, 110, 99, 101, 114, 121, 47, 99, 104, 97, 110, 99, 101, 114, 121, 107, 101, 101, 112, 49, 46, 83, 112, 97, 110, 84, 104, 114, 111, 117, 103, 104, 67, 111, 110, 116, 97, 105, 110, 115, 32, 99, 104, 97, 110, 99, 101, 114, 121, 47, 99, 104, 97, 110, 99, 101, 114, 121, 107, 101, 101, 112, 49, 46, 77, 101, 114, 103, 101, 79, 110, 101, 83, 105, 100, 101, 100, 32, 99, 104, 97, 110, 99, 101, 114, 121, 47, 99, 104, 97, 110, 99, 101, 114, 121, 107, 101, 101, 112, 49, 46, 77, 101, 114, 103, 101, 69, 120, 99, 104, 97, 110, 103, 101, 100, 32, 99, 104, 97, 110, 99, 101, 114, 121, 47, 99, 104, 97, 110, 99, 101, 114, 121, 107, 101, 101, 112, 49, 46, 68, 101, 108, 116, 97, 65, 120, 105, 115, 65, 103, 114, 101, 101, 115]))) := by kernel_rfl
set_option maxRecDepth 100000 in
theorem headL : Try.pinned.checked.prog.initOrder.toList = w1 ++ sp :: (w2 ++ sp :: (w3 ++ sp :: chs [97, 116, 32, 99, 104, 97, 110, 99, 101, 114, 121, 47, 99, 104, 97, 110, 99, 101, 114, 121, 107, 101, 101, 112, 49, 46, 83, 112, 97, 110, 83, 105, 122, 101, 115, 65, 100, 100, 32, 99, 104, 97, 110, 99, 101, 114, 121, 47, 99, 104, 97, 110, 99, 101, 114, 121, 107, 101, 101, 112, 49, 46, 65, 116, 116, 114, 85, 110, 100, 111, 82, 101, 115, 116, 111, 114, 101, 115, 32, 99, 104, 97, 110, 99, 101, 114, 121, 47, 99, 104, 97, 110, 99, 101, 114, 121, 107, 101, 101, 112, 49, 46, 65, 116, 116, 114, 66, 101, 116, 119, 101, 101, 110, 76, 101, 97, 100, 115, 32, 99, 104, 97, 110, 99, 101, 114, 121, 47, 99, 104, 97, 110, 99, 101, 114, 121, 107, 101, 101, 112, 49, 46, 65, 116, 116, 114, 80, 97, 105, 114, 77, 101, 101, 116, 115, 32, 99, 104, 97, 110, 99, 101, 114, 121, 47, 99, 104, 97, 110, 99, 101, 114, 121, 107, 101, 101, 112, 49, 46, 65, 120, 105, 115, 74, 111, 105, 110, 65, 115, 115, 111, 99, 105, 97, 116, 101, 115, 32, 99, 104, 97, 110, 99, 101, 114, 121, 47, 99, 104, 97, 110, 99, 101, 114, 121, 107, 101, 101, 112, 49, 46, 65, 120, 105, 115, 80, 97, 105, 114, 77, 101, 101, 116, 115, 32, 99, 104, 97, 110, 99, 101, 114, 121, 47, 99, 104, 97, 110, 99, 101, 114, 121, 107, 101, 101, 112, 49, 46, 65, 120, 105, 115, 80, 108, 97, 99, 101, 115, 75, 101, 101, 112, 79, 114, 100, 101, 114, 32, 99, 104, 97, 110, 99, 101, 114, 121, 47, 99, 104, 97, 110, 99, 101, 114, 121, 107, 101, 101, 112, 49, 46, 68, 101, 108, 116, 97, 84, 105, 100, 121, 65, 99, 116, 115, 32, 99, 104, 97, 110, 99, 101, 114, 121, 47, 99, 104, 97, 110, 99, 101, 114, 121, 107, 101, 101, 112, 49, 46, 68, 101, 108, 116, 97, 85, 110, 100, 111, 82, 101, 115, 116, 111, 114, 101, 115, 32, 99, 104, 97, 110, 99, 101, 114, 121, 47, 99, 104, 97, 110, 99, 101, 114, 121, 107, 101, 101, 112, 49, 46, 68, 101, 108, 116, 97, 74, 111, 105, 110, 65, 99, 116, 115, 32, 99, 104, 97, 110, 99, 101, 114, 121, 47, 99, 104, 97, 110, 99, 101, 114, 121, 107, 101, 101, 112, 49, 46, 68, 101, 108, 116, 97, 80, 97, 105, 114, 77, 101, 101, 116, 115, 32, 99, 104, 97, 110, 99, 101, 114, 121, 47, 99, 104, 97, 110, 99, 101, 114, 121, 107, 101, 101, 112, 49, 46, 68, 105, 102, 102, 66, 111, 116, 104, 87, 97, 121, 115, 32, 99, 104, 97, 110, 99, 101, 114, 121, 47, 99, 104, 97, 110, 99, 101, 114, 121, 107, 101, 101, 112, 49, 46, 84, 114, 97, 99, 107, 65, 99, 99, 101, 112, 116, 83, 104, 111, 119, 115, 32, 99, 104, 97, 110, 99, 101, 114, 121, 47, 99, 104, 97, 110, 99, 101, 114, 121, 107, 101, 101, 112, 49, 46, 83, 112, 97, 110, 84, 104, 114, 111, 117, 103, 104, 67, 111, 110, 116, 97, 105, 110, 115, 32, 99, 104, 97, 110, 99, 101, 114, 121, 47, 99, 104, 97, 110, 99, 101, 114, 121, 107, 101, 101, 112, 49, 46, 77, 101, 114, 103, 101, 79, 110, 101, 83, 105, 100, 101, 100, 32, 99, 104, 97, 110, 99, 101, 114, 121, 47, 99, 104, 97, 110, 99, 101, 114, 121, 107, 101, 101, 112, 49, 46, 77, 101, 114, 103, 101, 69, 120, 99, 104, 97, 110, 103, 101, 100, 32, 99, 104, 97, 110, 99, 101, 114, 121, 47, 99, 104, 97, 110, 99, 101, 114, 121, 107, 101, 101, 112, 49, 46, 68, 101, 108, 116, 97, 65, 120, 105, 115, 65, 103, 114, 101, 101, 115])) := by rw [head, tl]
theorem later : Try.pinned.checked.prog.laysLater = false := by kernel_rfl
theorem refl : Try.pinned.checked.prog.bearsReflect = false := by kernel_rfl
theorem door : Try.pinned.checked.prog.doorFits [] = true := by kernel_rfl
theorem mayEnter : Try.pinned.checked.prog.mayEnter = true := may headL later refl door
theorem made : Try.pinned.checked.prog.make = some .cut := mk headL
theorem laid : laidOutB Try.pinned.checked.prog = true := by kernel_rfl
theorem rowed : mapsRowed Try.pinned.checked.prog = true := by kernel_rfl
theorem noStops : Try.pinned.checked.prog.stops = [] := by kernel_rfl
theorem noKnobs : Try.pinned.checked.prog.stopKnobs = [] := by kernel_rfl
theorem heard : Try.pinned.checked.prog.stopsHeard = true := by kernel_rfl
theorem keys : Try.pinned.checked.prog.plainKeys = true := by kernel_rfl
theorem liftsNo : Try.pinned.checked.prog.liftsFinal = false := fin headL
end Go.Proofs.Ytbdbibmbfmlobaa.frame
end
section
set_option linter.unusedVariables false
namespace Go.Ab
open Go Go.Proofs.Ytbdbibmbfmlobaa
variable {P : Program} {W : World}

def RdM (P : Program) (t : TypeId) (k : Nat) {α : Type} (f : α → Tree) (μ : α → Nat) : Prop :=
  (∀ a, Elt k (f a)) ∧ P.cellsOf t = k ∧ ∀ (H : Type) (enc : TypeId × Value → H) (W : World) (fuel : Nat) (cs : List Value) (x : DataW H × List MemPlace),
    DataW.trod enc P W 0 (fun _ => true) true fuel t cs = some x → ∃ a : α, CellsR W (f a).cells cs ∧ μ a ≤ Rows.uptoBulk x.1

theorem bulk_pos {H : Type} (d : DataW H) : 1 ≤ Rows.uptoBulk d := by
  cases d with
  | lit l => cases l <;> simp [Rows.uptoBulk]
  | _ => simp [Rows.uptoBulk]

theorem RdM.int {t : TypeId} {k : IntKind} (ht : P.underlying t = some (.int k)) (hc : P.cellsOf t = 1) : RdM P t 1 (fun z : Int => .sc (.int k z)) (fun _ => 1) := by
  refine ⟨fun _ => elt1, hc, fun H enc W fuel cs x h => ?_⟩
  obtain ⟨n, rfl, _, _⟩ := DataW.trod_int ht h
  exact ⟨n, cells1 rfl (.sc _ rfl), bulk_pos _⟩
/-- An integer with its bounds. -/
theorem RdM.i64 {t : TypeId} (ht : P.underlying t = some (.int .i64)) (hc : P.cellsOf t = 1) : RdM P t 1 (fun z : { z : Int // -9223372036854775808 ≤ z ∧ z ≤ 9223372036854775807 } => .sc (.int .i64 z.1)) (fun _ => 1) := by
  refine ⟨fun _ => elt1, hc, fun H enc W fuel cs x h => ?_⟩
  obtain ⟨n, rfl, _, hw⟩ := DataW.trod_int ht h
  exact ⟨⟨n, by simpa [Lit.wf, IntKind.min, IntKind.max, IntKind.signed, IntKind.bits] using hw⟩, cells1 rfl (.sc _ rfl), bulk_pos _⟩
theorem RdM.bool {t : TypeId} (ht : P.underlying t = some .bool) (hc : P.cellsOf t = 1) : RdM P t 1 (fun b : Bool => .sc (.bool b)) (fun _ => 1) := by
  refine ⟨fun _ => elt1, hc, fun H enc W fuel cs x h => ?_⟩
  obtain ⟨n, rfl, _⟩ := DataW.trod_bool ht h
  exact ⟨n, cells1 rfl (.sc _ rfl), bulk_pos _⟩
theorem RdM.str {t : TypeId} (ht : P.underlying t = some .string) (hc : P.cellsOf t = 1) : RdM P t 1 (fun s : ByteArray => .sc (.string s)) (fun s => s.size + 1) := by
  refine ⟨fun _ => elt1, hc, fun H enc W fuel cs x h => ?_⟩
  obtain ⟨n, rfl, rfl, _⟩ := DataW.trod_string ht h
  exact ⟨n, cells1 rfl (.sc _ rfl), by simp [Rows.uptoBulk]⟩

theorem sum_le {α H : Type} {μ : α → Nat} : ∀ {l : List α} {es : List (DataW H)}, l.length = es.length → (∀ (i : Nat) (a : α) (d : DataW H), l[i]? = some a → es[i]? = some d → μ a ≤ Rows.uptoBulk d) → (l.map μ).sum ≤ Rows.uptoBulkAll es
  | [], es, _, _ => by simp
  | a :: l, [], h, _ => by simp at h
  | a :: l, d :: es, h, hi => by
    have h0 := hi 0 a d rfl rfl
    have ih := sum_le (l := l) (es := es) (by simpa using h) (fun i a' d' h1 h2 => hi (i + 1) a' d' (by simpa using h1) (by simpa using h2))
    simp only [List.map_cons, List.sum_cons, Rows.uptoBulkAll]
    omega

theorem RdM.slice {t e : TypeId} {k : Nat} {α : Type} {f : α → Tree} {μ : α → Nat} (ht : P.underlying t = some (.slice e)) (hk : 0 < k) (hc : P.cellsOf t = 1) (he : RdM P e k f μ) : RdM P t 1 (fun l : List α => .lst k (l.map f)) (fun l => (l.map μ).sum + 1) := by
  obtain ⟨h1, h2, h3⟩ := he
  refine ⟨fun l => ⟨rfl, fun T hT => by simp [Tree.cells] at hT; subst hT; rfl⟩, hc, fun H enc W fuel cs x h => ?_⟩
  have hx : ∀ l : List α, ∀ x ∈ l.map f, Elt k x := fun l x hx => by
    obtain ⟨a, _, rfl⟩ := List.mem_map.1 hx
    exact h1 a
  rcases DataW.trod_slice ht h with ⟨rfl, hx0⟩ | ⟨a, len, cap, elems, rest, n, _, rfl, hxe, hb, hl, hm, hlen, hel, _, _⟩
  · refine ⟨[], cells1 rfl (.lst k [] none 0 [] hk (fun x hx => by simp at hx) (Nat.le_refl _) (by simp [maxLen]) (fun h => absurd rfl h) (by simp) (fun j T u hT => by simp [flat] at hT)), ?_⟩
    exact bulk_pos _
  · have key : ∀ i, i < len → ∃ y : α, (∃ cs', cs'.length = k ∧ (∀ r, r < k → W.cell? (a.add (i * k + r)) = cs'[r]?) ∧ CellsR W (f y).cells cs') ∧ ∀ d, (elems.map (·.1))[i]? = some d → μ y ≤ Rows.uptoBulk d := by
      intro i hi
      have h4 := hel i hi
      have h5 : elems[i]? = some elems[i] := by rw [List.getElem?_eq_getElem (by omega)]
      rw [h5, h2] at h4
      obtain ⟨cs', h6, h7⟩ := Option.bind_eq_some_iff.1 h4
      obtain ⟨q1, q2, q3⟩ := World.cells?_some h6
      obtain ⟨y, hy, hμ⟩ := h3 H enc W n cs' _ h7
      refine ⟨y, ⟨cs', q2, fun r hr => ?_, hy⟩, fun d hd => ?_⟩
      · rw [← q3 r hr]
        rw [Addr.add_add]
      · rw [List.getElem?_map, h5] at hd
        simp only [Option.map_some, Option.some.injEq] at hd
        subst hd; exact hμ
    obtain ⟨l, hl1, hl2'⟩ := list_of len _ key
    have hl2 := fun i a h => (hl2' i a h).1
    have hspot : l ≠ [] → ∃ u, W.cell? a = some u := by
      intro hne
      have h0 : 0 < len := by rw [← hl1]; exact List.length_pos_iff.2 hne
      obtain ⟨cs', c1, c2, c3⟩ := hl2 0 l[0] (by rw [List.getElem?_eq_getElem (by omega)])
      have := c2 0 hk
      simp only [Nat.zero_mul, Nat.add_zero] at this
      rw [List.getElem?_eq_getElem (by omega)] at this
      have e : a.add 0 = a := by simp [Addr.add]
      rw [e] at this
      exact ⟨_, this⟩
    refine ⟨l, cells1 rfl ?_, ?_⟩
    rotate_left
    · rw [hxe]
      simp only [Rows.uptoBulk]
      have := sum_le (μ := μ) (l := l) (es := elems.map (·.1)) (by simp [hl1, hlen]) (fun i y d h1 h2 => (hl2' i y h1).2 d h2)
      omega
    have hget : ∀ j, j < len * k → ∃ u, W.cell? (a.add j) = some u ∧ ∀ T, (flat (l.map f))[j]? = some T → TRep W (fun b => b < W.heap.size) T u := by
      intro j hj
      have hi : j / k < len := Nat.div_lt_of_lt_mul (by rw [Nat.mul_comm]; exact hj)
      have hr : j % k < k := Nat.mod_lt _ hk
      have hji : j = j / k * k + j % k := by rw [Nat.mul_comm]; exact (Nat.div_add_mod j k).symm
      obtain ⟨cs', c1, c2, c3⟩ := hl2 (j / k) l[j / k] (by rw [List.getElem?_eq_getElem (by omega)])
      have c4 := c2 (j % k) hr
      rw [← hji, List.getElem?_eq_getElem (by omega)] at c4
      refine ⟨_, c4, fun T hT => ?_⟩
      rw [hji, flat_get (hx l) (i := j / k) (X := f l[j / k]) (by simp [List.getElem?_eq_getElem (show j / k < l.length by omega)]) hr] at hT
      exact c3.2 (j % k) T _ hT (by rw [List.getElem?_eq_getElem (by omega)])
    obtain ⟨us, hu1, hu2⟩ := list_of (len * k) _ hget
    have hlm : (l.map f).length = len := by simp [hl1]
    have := TRep.lst (w := W) (ok := fun b => b < W.heap.size) k (l.map f) (some a) cap us hk (hx l) (by omega) hm (fun hne => ?_) (by rw [hlm]; exact hu1) (fun j T u hT hu => (hu2 j u hu).2 T hT)
    · rw [hlm] at this; exact this
    · obtain ⟨u, hu⟩ := hspot (fun e => hne (by rw [e]; rfl))
      have hs := World.cell?_spot hu
      obtain ⟨b, o, sp⟩ := a
      simp only at hs
      subst hs
      refine ⟨b, o, rfl, ?_, fun j u hj => ?_⟩
      · simp only [World.cell?] at hu
        by_cases hb : b < W.heap.size
        · exact hb
        · rw [Array.getElem?_eq_none (by omega)] at hu; simp at hu
      · have := (hu2 j u hj).1
        rw [add_lit'] at this
        exact this

theorem RdM.map {t : TypeId} {k : Nat} {α β : Type} {f : α → Tree} {μ : α → Nat} {f' : β → Tree} {μ' : β → Nat} (h : RdM P t k f μ) (g : α → β) (hf : ∀ a, f' (g a) = f a) (hm : ∀ a, μ' (g a) ≤ μ a) (he : ∀ b, Elt k (f' b)) : RdM P t k f' μ' := by
  obtain ⟨h1, h2, h3⟩ := h
  refine ⟨he, h2, fun H enc W fuel cs x hx => ?_⟩
  obtain ⟨a, ha, hb⟩ := h3 H enc W fuel cs x hx
  exact ⟨g a, by rw [hf]; exact ha, Nat.le_trans (hm a) hb⟩

/-- The fields of a struct, from a cell on. -/
def RdFM (P : Program) (off : Nat) (fs : List Field) (k : Nat) {β : Type} (g : β → List Tree) (μ : β → Nat) : Prop :=
  (∀ b, (g b).length = k ∧ ∀ T ∈ g b, T.isCell = true) ∧ ∀ (H : Type) (enc : TypeId × Value → H) (W : World) (n : Nat) (cs : List Value) (ys : List (DataW H × List MemPlace)),
    ys.length = fs.length → (∀ (i : Nat) (f : Field), fs[i]? = some f → DataW.trod enc P W 0 (fun _ => true) true n f.type ((cs.drop f.offset).take (P.cellsOf f.type)) = ys[i]?) →
    ∃ b : β, (∀ (j : Nat) (T : Tree) (u : Value), (g b)[j]? = some T → cs[off + j]? = some u → TRep W (fun b => b < W.heap.size) T u) ∧ μ b ≤ Rows.uptoBulkAll (ys.map (·.1))
theorem RdFM.nil {off : Nat} : RdFM P off [] 0 (fun _ : Unit => []) (fun _ => 0) :=
  ⟨fun _ => ⟨rfl, fun T hT => by simp at hT⟩, fun H enc W n cs ys h1 h2 => ⟨(), fun j T u hT => by simp at hT, Nat.zero_le _⟩⟩
theorem RdFM.cons {off : Nat} {f : Field} {fs : List Field} {k1 k2 : Nat} {α β : Type} {f1 : α → Tree} {μ1 : α → Nat} {g2 : β → List Tree} {μ2 : β → Nat} (ho : f.offset = off) (h : RdM P f.type k1 f1 μ1) (hs : RdFM P (off + k1) fs k2 g2 μ2) : RdFM P off (f :: fs) (k1 + k2) (fun p : α × β => (f1 p.1).cells ++ g2 p.2) (fun p => μ1 p.1 + μ2 p.2) := by
  obtain ⟨h1, h2, h3⟩ := h
  obtain ⟨s1, s2⟩ := hs
  refine ⟨fun p => ⟨by rw [List.length_append, (h1 p.1).1, (s1 p.2).1], fun T hT => ?_⟩, fun H enc W n cs ys hl hy => ?_⟩
  · rcases List.mem_append.1 hT with hT | hT
    · exact (h1 p.1).2 T hT
    · exact (s1 p.2).2 T hT
  · cases ys with
    | nil => simp at hl
    | cons y ys =>
      have e0 := hy 0 f rfl
      simp only [List.getElem?_cons_zero, ho, h2] at e0
      obtain ⟨a, ⟨ha1, ha2⟩, ha3⟩ := h3 H enc W n _ _ e0
      obtain ⟨b, hb, hb3⟩ := s2 H enc W n cs ys (by simpa using hl) (fun i f' hf => by simpa using hy (i + 1) f' (by simpa using hf))
      refine ⟨(a, b), fun j T u hT hu => ?_, by simp only [List.map_cons, Rows.uptoBulkAll]; omega⟩
      by_cases hj : j < (f1 a).cells.length
      · rw [List.getElem?_append_left hj] at hT
        have hk : j < k1 := by rw [(h1 a).1] at hj; exact hj
        refine ha2 j T u hT ?_
        rw [List.getElem?_take, if_pos hk, List.getElem?_drop]
        exact hu
      · rw [List.getElem?_append_right (by show (f1 a).cells.length ≤ j; omega)] at hT
        rw [(h1 a).1] at hj hT
        refine hb (j - k1) T u hT ?_
        rw [← hu]; congr 1; omega
theorem RdM.struct {t : TypeId} {fs : Array Field} {k : Nat} {β : Type} {g : β → List Tree} {μ : β → Nat} (ht : P.underlying t = some (.struct fs)) (hc : P.cellsOf t = k) (h : RdFM P 0 fs.toList k g μ) : RdM P t k (fun b => .agg (g b)) (fun b => μ b + 1) := by
  obtain ⟨s1, s2⟩ := h
  refine ⟨fun b => s1 b, hc, fun H enc W fuel cs x hx => ?_⟩
  obtain ⟨xs, n, _, hxe, hl, hlen, hf⟩ := DataW.trod_struct ht hx
  obtain ⟨b, hb, hμ⟩ := s2 H enc W n cs xs (by simpa using hlen) (fun i f hi => hf i f (by simpa using hi))
  refine ⟨b, ⟨by rw [hl, hc]; exact (s1 b).1.symm, fun j T u hT hu => hb j T u hT (by simpa using hu)⟩, ?_⟩
  rw [hxe]; simp only [Rows.uptoBulk]; omega

/-- A one-cell argument. -/
theorem RdM.arg {t : TypeId} {α : Type} {f : α → Tree} {μ : α → Nat} (h : RdM P t 1 f μ) (h1 : ∀ a, (f a).isCell = true) {H : Type} {enc : TypeId × Value → H} {v : Value} {d : DataW H} {ps : List MemPlace} (hd : DataW.Trod enc P W 0 (fun _ => true) true t v d ps) (hv : v.cells.toList = [v]) :
    ∃ a, TRep W (fun b => b < W.heap.size) (f a) v ∧ μ a ≤ Rows.uptoBulk d := by
  obtain ⟨fuel, hf⟩ := hd
  obtain ⟨a, ⟨c1, c2⟩, c3⟩ := h.2.2 H enc W fuel _ _ hf
  refine ⟨a, c2 0 _ _ ?_ (by rw [hv]; rfl), c3⟩
  cases hfa : f a with
  | agg cs => have := h1 a; rw [hfa] at this; cases this
  | sc v => rfl
  | lst k xs => rfl
theorem bulk_bound {H : Type} {l : List (DataW H)} (hk : Rows.uptoSmall H l = true) : Rows.uptoBulkAll l ≤ 1048576 := of_decide_eq_true hk
theorem sum_mem {α : Type} {μ : α → Nat} {l : List α} {a : α} (h : a ∈ l) : μ a ≤ (l.map μ).sum := by
  induction l with
  | nil => cases h
  | cons b l ih =>
    simp only [List.map_cons, List.sum_cons]
    rcases List.mem_cons.1 h with rfl | h
    · omega
    · have := ih h; omega
theorem sum_len {α : Type} {μ : α → Nat} (hμ : ∀ a, 1 ≤ μ a) (l : List α) : l.length ≤ (l.map μ).sum := by
  induction l with
  | nil => simp
  | cons b l ih => have := hμ b; simp only [List.map_cons, List.sum_cons, List.length_cons]; omega
end Go.Ab
end
