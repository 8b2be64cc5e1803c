/- Parts of the proof: ChDelta6, ChDelta7, DeltaLaws, ChDelta8, ChAxis6, ChAxisF, ChAxisG, ChPlace, ChSpan. -/
import Derived.Test.YtbdbibmbfmlobaaM1
import Derived.Test.YtbdbibmbfmlobaaM2
import Derived.Test.YtbdbibmbfmlobaaM3
import Derived.Test.YtbdbibmbfmlobaaM4
import Derived.Test.YtbdbibmbfmlobaaM5
import Derived.Test.YtbdbibmbfmlobaaProg
section
set_option linter.unusedVariables false
set_option linter.unusedSimpArgs false
set_option maxRecDepth 100000
set_option maxHeartbeats 4000000
open Go Go.Proofs Go.Ab
namespace Go.Ch
theorem fc_deltaOf (x : Act) (h1 : x.ins.length = x.cut.length + 1) (h2 : x.set.length = x.cut.length) (hu : ∀ u ∈ actR x 0, UnitOk u) (hs : (actR x 0).length ≤ 8589934592) : FC Try.prog 101 [.t (actT x)] (app emp []) (VL 4 dstepT (doneD (actR x 0))) (app emp []) := by
 refine .go Try.f101 ?_
 have hst0 := DI.start hu hs
 have hcl := actR_cut x _ 0 rfl
 refine .loop (α := Int × Nat × (List DStep) × (List Elem)) [.r [], .r [], .r [], .r [], .r [], .le (.nR 3 4), .le (.nR 4 3)] 50 (fun (c, i, o, a) => ([(1, .ptr 0 0), (3, .row 48 o.length), (4, .row 49 a.length), (5, VI c), (6, VI (i : Int))], [(0, .box [VL 1 elemsT x.ins, VL 1 boolT x.cut, VL 1 attrsT x.set]), (48, OR 4 dstepT o), (49, OR 3 elemT a)])) (fun (c, i, o, a) => i ≤ x.cut.length ∧ DI ⟨o, a, c⟩ (actR x i) (actR x 0).length (foldD ⟨[], [], 0⟩ (actR x 0))) (fun (c, i, o, a) => x.cut.length + 1 - i) (0, 0, [], []) ?_ ?_
 ·
  exact ⟨by omega, hst0⟩
 rintro ⟨c, i, o, a⟩ I5 ih5
 try dsimp only at I5
 have hb := I5.2.bd
 simp only at hb
 refine .br [.r [(3, X (Xl boolT x.cut))]] (decide ((i : Int) ≤ (x.cut.length : Int))) (fun h5 => ?_) (fun h5 => ?_)
 ·
  (try simp only [decide_eq_true_eq, decide_eq_false_iff_not, Int.not_lt, Int.not_le] at h5)
  have hDe := (show DI ⟨o, a, c⟩ ((x.ins.getD i default).map .A ++ tailR x i) _ _ from actR_eq x i ▸ I5.2).elems
  have hb2 := hDe.bd
  simp only [List.length_append] at hb2
  have hn2 := hDe.fl.1
  refine .br [.r [(4, X (Xi elemsT x.ins (i : Int))), (6, X (Xap 3 elemT 49 a (x.ins.getD i default)))], .r [(3, X (Xl boolT x.cut)), (7, Xv 1 (decide ((i : Int) < (x.cut.length : Int))) X0), (9, Xv 2 (decide ((i : Int) < (x.cut.length : Int))) (Xi boolT x.cut (i : Int))), (10, Xv 1 (decide ((i : Int) < (x.cut.length : Int))) X0), (11, X (Xk (decide ((i : Int) < (x.cut.length : Int)))))]] (decide ((i : Int) < (x.cut.length : Int)) && (x.cut.getD i default)) (fun h8 => ?_) (fun h8 => ?_)
  ·
   (try simp only [decide_eq_true_eq, decide_eq_false_iff_not, Int.not_lt, Int.not_le, Bool.and_eq_true, Bool.and_eq_false_iff, Bool.not_eq_true', Bool.not_eq_false'] at h8)
   refine .back [.r [(1, X (Xn (c + 1)))], .r [(1, X (Xn ((i : Int) + 1)))]] [(0, 0), (48, 48), (49, 49)] (ih5 ((c + 1), (i + 1), o, (a ++ (x.ins.getD i default))) ?_ ?_)
   ·
    rw [tailR_C (by omega) h8.2] at hDe
    exact ⟨by omega, hDe.cut1⟩
   ·
    ((try dsimp only); omega)
  ·
   (try simp only [decide_eq_true_eq, decide_eq_false_iff_not, Int.not_lt, Int.not_le, Bool.and_eq_true, Bool.and_eq_false_iff, Bool.not_eq_true', Bool.not_eq_false'] at h8)
   refine .br [.r []] (decide (((a ++ (x.ins.getD i default)).length : Int) > 0)) (fun h10 => ?_) (fun h10 => ?_)
   ·
    (try simp only [decide_eq_true_eq, decide_eq_false_iff_not, Int.not_lt, Int.not_le, gt_iff_lt] at h10)
    refine .br [.r [(2, X (Xf [(2, 2)])), (3, X (rowC elemT (a ++ (x.ins.getD i default)) X0)), (4, X (rowC dstepT [({ kind := 1, n := 0, attrs := [], elems := (a ++ (x.ins.getD i default)) } : DStep)] (Xap 4 dstepT 48 o [({ kind := 1, n := 0, attrs := [], elems := (a ++ (x.ins.getD i default)) } : DStep)])))], .r []] (decide (c > 0)) (fun h12 => ?_) (fun h12 => ?_)
    ·
     (try simp only [decide_eq_true_eq, decide_eq_false_iff_not, Int.not_lt, Int.not_le, gt_iff_lt] at h12)
     obtain ⟨q, hgen⟩ : ∃ z, ((o ++ [({ kind := 1, n := 0, attrs := [], elems := (a ++ (x.ins.getD i default)) } : DStep)]) ++ [({ kind := 2, n := c, attrs := [], elems := [] } : DStep)]) = z := ⟨_, rfl⟩
     have hfq : flushD ⟨o, a ++ x.ins.getD i default, c⟩ = q := by
       rw [← hgen]
       unfold flushD
       simp only
       (first | rw [if_pos (show 0 < (a ++ x.ins.getD i default).length by omega)] | rw [if_neg (show ¬ 0 < (a ++ x.ins.getD i default).length by omega)])
       (first | rw [if_pos (show 0 < c by omega)] | rw [if_neg (show ¬ 0 < c by omega)])
       all_goals simp
     have hnq : ∀ s ∈ q, 0 ≤ s.n ∧ s.n ≤ 10000000000 := by rw [← hfq]; exact hn2
     have hql : q.length ≤ o.length + 2 := by rw [← hfq]; exact flushD_len _
     refine .br [.r [(2, X (Xf [(2, 2), (3, 3)])), (4, X (rowC dstepT [({ kind := 2, n := c, attrs := [], elems := [] } : DStep)] (Xap 4 dstepT 48 (o ++ [({ kind := 1, n := 0, attrs := [], elems := (a ++ (x.ins.getD i default)) } : DStep)]) [({ kind := 2, n := c, attrs := [], elems := [] } : DStep)])))], .le (.er 48 (List.map dstepT ((o ++ [({ kind := 1, n := 0, attrs := [], elems := (a ++ (x.ins.getD i default)) } : DStep)]) ++ [({ kind := 2, n := c, attrs := [], elems := [] } : DStep)])) (List.map dstepT q) (by rw [hgen])), .le (.eq 3 (.row 48 (((o ++ [({ kind := 1, n := 0, attrs := [], elems := (a ++ (x.ins.getD i default)) } : DStep)]) ++ [({ kind := 2, n := c, attrs := [], elems := [] } : DStep)]).length)) (.row 48 q.length) (.of_eq (by rw [← hgen]))), .r [], .r [(3, X (Xl boolT x.cut))]] ((i : Int) == (x.cut.length : Int)) (fun h15 => ?_) (fun h15 => ?_)
     ·
      (try simp only [beq_iff_eq, beq_eq_false_iff_ne, ne_eq] at h15)
      have e1 : ((doneD (actR x 0)) : List DStep) = q := by
       rw [tailR_e (by omega)] at hDe
       have hG := hDe.done
       unfold doneD
       rw [← hG]
       exact hfq
      exact .finE [.r [], .le (.fr 2 [(q.length : Nat) = (List.map dstepT q).length] ⟨lm, trivial⟩)] [] (fun z0 => (VL 4 dstepT z0, [])) (q : List DStep) ((doneD (actR x 0)) : List DStep) e1
     ·
      (try simp only [beq_iff_eq, beq_eq_false_iff_ne, ne_eq] at h15)
      refine .br [.r [(2, X (Xn ((q.length : Int) - 1)))], .r [(5, Xv 2 (decide (((q.length : Int) - 1) ≥ 0)) (Xp' dstepT 48 q ((q.length : Int) - 1) (q.length - 1))), (6, Xv 1 (decide (((q.length : Int) - 1) ≥ 0)) X0), (7, Xv 1 (decide (((q.length : Int) - 1) ≥ 0)) (Xe dstepT q (q.length - 1))), (8, Xv 1 (decide (((q.length : Int) - 1) ≥ 0)) X0), (9, X (Xk (decide (((q.length : Int) - 1) ≥ 0)))), (13, Xv 2 (decide (((q.length : Int) - 1) ≥ 0) && ((((q.getD (q.length - 1) default)).kind) == 0)) (Xp' dstepT 48 q ((q.length : Int) - 1) (q.length - 1))), (14, Xv 1 (decide (((q.length : Int) - 1) ≥ 0) && ((((q.getD (q.length - 1) default)).kind) == 0)) X0), (15, Xv 1 (decide (((q.length : Int) - 1) ≥ 0) && ((((q.getD (q.length - 1) default)).kind) == 0)) (Xe dstepT q (q.length - 1))), (17, Xv 1 (decide (((q.length : Int) - 1) ≥ 0) && ((((q.getD (q.length - 1) default)).kind) == 0)) X0), (19, Xv 2 (decide (((q.length : Int) - 1) ≥ 0) && ((((q.getD (q.length - 1) default)).kind) == 0)) (Xi attrsT x.set (i : Int))), (20, Xv 1 (decide (((q.length : Int) - 1) ≥ 0) && ((((q.getD (q.length - 1) default)).kind) == 0)) X0), (21, Xv 2 (decide (((q.length : Int) - 1) ≥ 0) && ((((q.getD (q.length - 1) default)).kind) == 0)) (Xc0 (fc_sameAttrs (((q.getD (q.length - 1) default)).attrs) (x.set.getD i default)) X0)), (22, X (Xk (decide (((q.length : Int) - 1) ≥ 0) && ((((q.getD (q.length - 1) default)).kind) == 0))))]] ((decide (((q.length : Int) - 1) ≥ 0) && ((((q.getD (q.length - 1) default)).kind) == 0)) && (sameL (((q.getD (q.length - 1) default)).attrs) (x.set.getD i default))) (fun h17 => ?_) (fun h17 => ?_)
      ·
       (try simp only [decide_eq_true_eq, decide_eq_false_iff_not, Int.not_lt, Int.not_le, ge_iff_le, Bool.and_eq_true, Bool.and_eq_false_iff, Bool.not_eq_true', Bool.not_eq_false', beq_iff_eq, beq_eq_false_iff_ne, ne_eq] at h17)
       refine .at 658 [(0, 0), (48, 48)] ([(1, .ptr 0 0), (3, .row 48 q.length), (4, VN), (5, VI 0), (6, VI (i : Int)), (7, VI ((q.length : Int) - 1)), (81, VB ((decide (((q.length : Int) - 1) ≥ 0) && ((((q.getD (q.length - 1) default)).kind) == 0)) && (sameL (((q.getD (q.length - 1) default)).attrs) (x.set.getD i default))))], [(0, .box [VL 1 elemsT x.ins, VL 1 boolT x.cut, VL 1 attrsT x.set]), (48, OR 4 dstepT q)]) ?_
       have hlast := fun h : 0 < q.length => hnq _ (lastD_mem h)
       refine .back [.r [(2, X (Xp' dstepT 48 q ((q.length : Int) - 1) (q.length - 1))), (4, X (Xe dstepT q (q.length - 1))), (5, X (Xn ((((q.getD (q.length - 1) default)).n) + 1))), (6, X (Xp' dstepT 48 q ((q.length : Int) - 1) (q.length - 1))), (8, X (Xs 4 dstepT 48 q (q.length - 1) ({ kind := ((q.getD (q.length - 1) default)).kind, n := ((((q.getD (q.length - 1) default)).n) + 1), attrs := ((q.getD (q.length - 1) default)).attrs, elems := ((q.getD (q.length - 1) default)).elems } : DStep)))], .r [(1, X (Xn ((i : Int) + 1)))], .le (.nR 4 3), .le (.eq 3 (.row 48 q.length) (.row 48 ((q.set (q.length - 1) ({ kind := ((q.getD (q.length - 1) default)).kind, n := ((((q.getD (q.length - 1) default)).n) + 1), attrs := ((q.getD (q.length - 1) default)).attrs, elems := ((q.getD (q.length - 1) default)).elems } : DStep)).length)) (.of_eq (by simp only [List.length_set])))] [(0, 0), (48, 48), (754, 49)] (ih5 (0, (i + 1), (q.set (q.length - 1) ({ kind := ((q.getD (q.length - 1) default)).kind, n := ((((q.getD (q.length - 1) default)).n) + 1), attrs := ((q.getD (q.length - 1) default)).attrs, elems := ((q.getD (q.length - 1) default)).elems } : DStep)), []) ?_ ?_)
       ·
        rw [tailR_K (by omega) (by rcases h8 with h8 | h8; omega; exact h8)] at hDe
        refine ⟨by omega, DI.of_eq ?_ hDe.keep1⟩
        simp only
        rw [hfq]
        unfold keepD
        split
        · rename_i z; first | rfl | (exfalso; rcases h17 with (h | h) | h; omega; exact h z.2.1; (rw [z.2.2] at h; cases h))
        · rename_i z; first | rfl | exact absurd ⟨by omega, h17.1.2, h17.2⟩ z
       ·
        ((try dsimp only); omega)
      ·
       (try simp only [decide_eq_true_eq, decide_eq_false_iff_not, Int.not_lt, Int.not_le, ge_iff_le, Bool.and_eq_true, Bool.and_eq_false_iff, Bool.not_eq_true', Bool.not_eq_false', beq_iff_eq, beq_eq_false_iff_ne, ne_eq] at h17)
       refine .at 658 [(0, 0), (48, 48)] ([(1, .ptr 0 0), (3, .row 48 q.length), (4, VN), (5, VI 0), (6, VI (i : Int)), (7, VI ((q.length : Int) - 1)), (81, VB ((decide (((q.length : Int) - 1) ≥ 0) && ((((q.getD (q.length - 1) default)).kind) == 0)) && (sameL (((q.getD (q.length - 1) default)).attrs) (x.set.getD i default))))], [(0, .box [VL 1 elemsT x.ins, VL 1 boolT x.cut, VL 1 attrsT x.set]), (48, OR 4 dstepT q)]) ?_
       refine .back [.r [(4, X (Xi attrsT x.set (i : Int))), (6, X (Xf [(3, 3)])), (8, X (rowC dstepT [({ kind := 0, n := 1, attrs := (x.set.getD i default), elems := [] } : DStep)] (Xap 4 dstepT 48 q [({ kind := 0, n := 1, attrs := (x.set.getD i default), elems := [] } : DStep)])))], .r [(1, X (Xn ((i : Int) + 1)))], .le (.nR 4 3)] [(0, 0), (48, 48), (762, 49)] (ih5 (0, (i + 1), (q ++ [({ kind := 0, n := 1, attrs := (x.set.getD i default), elems := [] } : DStep)]), []) ?_ ?_)
       ·
        rw [tailR_K (by omega) (by rcases h8 with h8 | h8; omega; exact h8)] at hDe
        refine ⟨by omega, DI.of_eq ?_ hDe.keep1⟩
        simp only
        rw [hfq]
        unfold keepD
        split
        · rename_i z; first | rfl | (exfalso; rcases h17 with (h | h) | h; omega; exact h z.2.1; (rw [z.2.2] at h; cases h))
        · rename_i z; first | rfl | exact absurd ⟨by omega, h17.1.2, h17.2⟩ z
       ·
        ((try dsimp only); omega)
    ·
     (try simp only [decide_eq_true_eq, decide_eq_false_iff_not, Int.not_lt, Int.not_le, gt_iff_lt] at h12)
     obtain ⟨q, hgen⟩ : ∃ z, (o ++ [({ kind := 1, n := 0, attrs := [], elems := (a ++ (x.ins.getD i default)) } : DStep)]) = z := ⟨_, rfl⟩
     have hfq : flushD ⟨o, a ++ x.ins.getD i default, c⟩ = q := by
       rw [← hgen]
       unfold flushD
       simp only
       (first | rw [if_pos (show 0 < (a ++ x.ins.getD i default).length by omega)] | rw [if_neg (show ¬ 0 < (a ++ x.ins.getD i default).length by omega)])
       (first | rw [if_pos (show 0 < c by omega)] | rw [if_neg (show ¬ 0 < c by omega)])
       all_goals simp
     have hnq : ∀ s ∈ q, 0 ≤ s.n ∧ s.n ≤ 10000000000 := by rw [← hfq]; exact hn2
     have hql : q.length ≤ o.length + 2 := by rw [← hfq]; exact flushD_len _
     refine .br [.le (.er 48 (List.map dstepT (o ++ [({ kind := 1, n := 0, attrs := [], elems := (a ++ (x.ins.getD i default)) } : DStep)])) (List.map dstepT q) (by rw [hgen])), .le (.eq 3 (.row 48 ((o ++ [({ kind := 1, n := 0, attrs := [], elems := (a ++ (x.ins.getD i default)) } : DStep)]).length)) (.row 48 q.length) (.of_eq (by rw [← hgen]))), .r [], .r [(3, X (Xl boolT x.cut))]] ((i : Int) == (x.cut.length : Int)) (fun h15 => ?_) (fun h15 => ?_)
     ·
      (try simp only [beq_iff_eq, beq_eq_false_iff_ne, ne_eq] at h15)
      have e2 : ((doneD (actR x 0)) : List DStep) = q := by
       rw [tailR_e (by omega)] at hDe
       have hG := hDe.done
       unfold doneD
       rw [← hG]
       exact hfq
      exact .finE [.r [], .le (.fr 2 [(q.length : Nat) = (List.map dstepT q).length] ⟨lm, trivial⟩)] [] (fun z0 => (VL 4 dstepT z0, [])) (q : List DStep) ((doneD (actR x 0)) : List DStep) e2
     ·
      (try simp only [beq_iff_eq, beq_eq_false_iff_ne, ne_eq] at h15)
      refine .br [.r [(2, X (Xn ((q.length : Int) - 1)))], .r [(5, Xv 2 (decide (((q.length : Int) - 1) ≥ 0)) (Xp' dstepT 48 q ((q.length : Int) - 1) (q.length - 1))), (6, Xv 1 (decide (((q.length : Int) - 1) ≥ 0)) X0), (7, Xv 1 (decide (((q.length : Int) - 1) ≥ 0)) (Xe dstepT q (q.length - 1))), (8, Xv 1 (decide (((q.length : Int) - 1) ≥ 0)) X0), (9, X (Xk (decide (((q.length : Int) - 1) ≥ 0)))), (13, Xv 2 (decide (((q.length : Int) - 1) ≥ 0) && ((((q.getD (q.length - 1) default)).kind) == 0)) (Xp' dstepT 48 q ((q.length : Int) - 1) (q.length - 1))), (14, Xv 1 (decide (((q.length : Int) - 1) ≥ 0) && ((((q.getD (q.length - 1) default)).kind) == 0)) X0), (15, Xv 1 (decide (((q.length : Int) - 1) ≥ 0) && ((((q.getD (q.length - 1) default)).kind) == 0)) (Xe dstepT q (q.length - 1))), (17, Xv 1 (decide (((q.length : Int) - 1) ≥ 0) && ((((q.getD (q.length - 1) default)).kind) == 0)) X0), (19, Xv 2 (decide (((q.length : Int) - 1) ≥ 0) && ((((q.getD (q.length - 1) default)).kind) == 0)) (Xi attrsT x.set (i : Int))), (20, Xv 1 (decide (((q.length : Int) - 1) ≥ 0) && ((((q.getD (q.length - 1) default)).kind) == 0)) X0), (21, Xv 2 (decide (((q.length : Int) - 1) ≥ 0) && ((((q.getD (q.length - 1) default)).kind) == 0)) (Xc0 (fc_sameAttrs (((q.getD (q.length - 1) default)).attrs) (x.set.getD i default)) X0)), (22, X (Xk (decide (((q.length : Int) - 1) ≥ 0) && ((((q.getD (q.length - 1) default)).kind) == 0))))]] ((decide (((q.length : Int) - 1) ≥ 0) && ((((q.getD (q.length - 1) default)).kind) == 0)) && (sameL (((q.getD (q.length - 1) default)).attrs) (x.set.getD i default))) (fun h17 => ?_) (fun h17 => ?_)
      ·
       (try simp only [decide_eq_true_eq, decide_eq_false_iff_not, Int.not_lt, Int.not_le, ge_iff_le, Bool.and_eq_true, Bool.and_eq_false_iff, Bool.not_eq_true', Bool.not_eq_false', beq_iff_eq, beq_eq_false_iff_ne, ne_eq] at h17)
       refine .at 610 [(0, 0), (48, 48)] ([(1, .ptr 0 0), (3, .row 48 q.length), (4, VN), (5, VI 0), (6, VI (i : Int)), (7, VI ((q.length : Int) - 1)), (81, VB ((decide (((q.length : Int) - 1) ≥ 0) && ((((q.getD (q.length - 1) default)).kind) == 0)) && (sameL (((q.getD (q.length - 1) default)).attrs) (x.set.getD i default))))], [(0, .box [VL 1 elemsT x.ins, VL 1 boolT x.cut, VL 1 attrsT x.set]), (48, OR 4 dstepT q)]) ?_
       have hlast := fun h : 0 < q.length => hnq _ (lastD_mem h)
       refine .back [.r [(2, X (Xp' dstepT 48 q ((q.length : Int) - 1) (q.length - 1))), (4, X (Xe dstepT q (q.length - 1))), (5, X (Xn ((((q.getD (q.length - 1) default)).n) + 1))), (6, X (Xp' dstepT 48 q ((q.length : Int) - 1) (q.length - 1))), (8, X (Xs 4 dstepT 48 q (q.length - 1) ({ kind := ((q.getD (q.length - 1) default)).kind, n := ((((q.getD (q.length - 1) default)).n) + 1), attrs := ((q.getD (q.length - 1) default)).attrs, elems := ((q.getD (q.length - 1) default)).elems } : DStep)))], .r [(1, X (Xn ((i : Int) + 1)))], .le (.nR 4 3), .le (.eq 3 (.row 48 q.length) (.row 48 ((q.set (q.length - 1) ({ kind := ((q.getD (q.length - 1) default)).kind, n := ((((q.getD (q.length - 1) default)).n) + 1), attrs := ((q.getD (q.length - 1) default)).attrs, elems := ((q.getD (q.length - 1) default)).elems } : DStep)).length)) (.of_eq (by simp only [List.length_set])))] [(0, 0), (48, 48), (706, 49)] (ih5 (0, (i + 1), (q.set (q.length - 1) ({ kind := ((q.getD (q.length - 1) default)).kind, n := ((((q.getD (q.length - 1) default)).n) + 1), attrs := ((q.getD (q.length - 1) default)).attrs, elems := ((q.getD (q.length - 1) default)).elems } : DStep)), []) ?_ ?_)
       ·
        rw [tailR_K (by omega) (by rcases h8 with h8 | h8; omega; exact h8)] at hDe
        refine ⟨by omega, DI.of_eq ?_ hDe.keep1⟩
        simp only
        rw [hfq]
        unfold keepD
        split
        · rename_i z; first | rfl | (exfalso; rcases h17 with (h | h) | h; omega; exact h z.2.1; (rw [z.2.2] at h; cases h))
        · rename_i z; first | rfl | exact absurd ⟨by omega, h17.1.2, h17.2⟩ z
       ·
        ((try dsimp only); omega)
      ·
       (try simp only [decide_eq_true_eq, decide_eq_false_iff_not, Int.not_lt, Int.not_le, ge_iff_le, Bool.and_eq_true, Bool.and_eq_false_iff, Bool.not_eq_true', Bool.not_eq_false', beq_iff_eq, beq_eq_false_iff_ne, ne_eq] at h17)
       refine .at 610 [(0, 0), (48, 48)] ([(1, .ptr 0 0), (3, .row 48 q.length), (4, VN), (5, VI 0), (6, VI (i : Int)), (7, VI ((q.length : Int) - 1)), (81, VB ((decide (((q.length : Int) - 1) ≥ 0) && ((((q.getD (q.length - 1) default)).kind) == 0)) && (sameL (((q.getD (q.length - 1) default)).attrs) (x.set.getD i default))))], [(0, .box [VL 1 elemsT x.ins, VL 1 boolT x.cut, VL 1 attrsT x.set]), (48, OR 4 dstepT q)]) ?_
       refine .back [.r [(4, X (Xi attrsT x.set (i : Int))), (6, X (Xf [(3, 3)])), (8, X (rowC dstepT [({ kind := 0, n := 1, attrs := (x.set.getD i default), elems := [] } : DStep)] (Xap 4 dstepT 48 q [({ kind := 0, n := 1, attrs := (x.set.getD i default), elems := [] } : DStep)])))], .r [(1, X (Xn ((i : Int) + 1)))], .le (.nR 4 3)] [(0, 0), (48, 48), (714, 49)] (ih5 (0, (i + 1), (q ++ [({ kind := 0, n := 1, attrs := (x.set.getD i default), elems := [] } : DStep)]), []) ?_ ?_)
       ·
        rw [tailR_K (by omega) (by rcases h8 with h8 | h8; omega; exact h8)] at hDe
        refine ⟨by omega, DI.of_eq ?_ hDe.keep1⟩
        simp only
        rw [hfq]
        unfold keepD
        split
        · rename_i z; first | rfl | (exfalso; rcases h17 with (h | h) | h; omega; exact h z.2.1; (rw [z.2.2] at h; cases h))
        · rename_i z; first | rfl | exact absurd ⟨by omega, h17.1.2, h17.2⟩ z
       ·
        ((try dsimp only); omega)
   ·
    (try simp only [decide_eq_true_eq, decide_eq_false_iff_not, Int.not_lt, Int.not_le, gt_iff_lt] at h10)
    refine .br [.r []] (decide (c > 0)) (fun h12 => ?_) (fun h12 => ?_)
    ·
     (try simp only [decide_eq_true_eq, decide_eq_false_iff_not, Int.not_lt, Int.not_le, gt_iff_lt] at h12)
     obtain ⟨q, hgen⟩ : ∃ z, (o ++ [({ kind := 2, n := c, attrs := [], elems := [] } : DStep)]) = z := ⟨_, rfl⟩
     have hfq : flushD ⟨o, a ++ x.ins.getD i default, c⟩ = q := by
       rw [← hgen]
       unfold flushD
       simp only
       (first | rw [if_pos (show 0 < (a ++ x.ins.getD i default).length by omega)] | rw [if_neg (show ¬ 0 < (a ++ x.ins.getD i default).length by omega)])
       (first | rw [if_pos (show 0 < c by omega)] | rw [if_neg (show ¬ 0 < c by omega)])
       all_goals simp
     have hnq : ∀ s ∈ q, 0 ≤ s.n ∧ s.n ≤ 10000000000 := by rw [← hfq]; exact hn2
     have hql : q.length ≤ o.length + 2 := by rw [← hfq]; exact flushD_len _
     refine .br [.r [(2, X (Xf [(2, 2), (3, 3)])), (4, X (rowC dstepT [({ kind := 2, n := c, attrs := [], elems := [] } : DStep)] (Xap 4 dstepT 48 o [({ kind := 2, n := c, attrs := [], elems := [] } : DStep)])))], .le (.er 48 (List.map dstepT (o ++ [({ kind := 2, n := c, attrs := [], elems := [] } : DStep)])) (List.map dstepT q) (by rw [hgen])), .le (.eq 3 (.row 48 ((o ++ [({ kind := 2, n := c, attrs := [], elems := [] } : DStep)]).length)) (.row 48 q.length) (.of_eq (by rw [← hgen]))), .r [], .r [(3, X (Xl boolT x.cut))]] ((i : Int) == (x.cut.length : Int)) (fun h15 => ?_) (fun h15 => ?_)
     ·
      (try simp only [beq_iff_eq, beq_eq_false_iff_ne, ne_eq] at h15)
      have e3 : ((doneD (actR x 0)) : List DStep) = q := by
       rw [tailR_e (by omega)] at hDe
       have hG := hDe.done
       unfold doneD
       rw [← hG]
       exact hfq
      exact .finE [.r [], .le (.fr 2 [(q.length : Nat) = (List.map dstepT q).length] ⟨lm, trivial⟩)] [] (fun z0 => (VL 4 dstepT z0, [])) (q : List DStep) ((doneD (actR x 0)) : List DStep) e3
     ·
      (try simp only [beq_iff_eq, beq_eq_false_iff_ne, ne_eq] at h15)
      refine .br [.r [(2, X (Xn ((q.length : Int) - 1)))], .r [(5, Xv 2 (decide (((q.length : Int) - 1) ≥ 0)) (Xp' dstepT 48 q ((q.length : Int) - 1) (q.length - 1))), (6, Xv 1 (decide (((q.length : Int) - 1) ≥ 0)) X0), (7, Xv 1 (decide (((q.length : Int) - 1) ≥ 0)) (Xe dstepT q (q.length - 1))), (8, Xv 1 (decide (((q.length : Int) - 1) ≥ 0)) X0), (9, X (Xk (decide (((q.length : Int) - 1) ≥ 0)))), (13, Xv 2 (decide (((q.length : Int) - 1) ≥ 0) && ((((q.getD (q.length - 1) default)).kind) == 0)) (Xp' dstepT 48 q ((q.length : Int) - 1) (q.length - 1))), (14, Xv 1 (decide (((q.length : Int) - 1) ≥ 0) && ((((q.getD (q.length - 1) default)).kind) == 0)) X0), (15, Xv 1 (decide (((q.length : Int) - 1) ≥ 0) && ((((q.getD (q.length - 1) default)).kind) == 0)) (Xe dstepT q (q.length - 1))), (17, Xv 1 (decide (((q.length : Int) - 1) ≥ 0) && ((((q.getD (q.length - 1) default)).kind) == 0)) X0), (19, Xv 2 (decide (((q.length : Int) - 1) ≥ 0) && ((((q.getD (q.length - 1) default)).kind) == 0)) (Xi attrsT x.set (i : Int))), (20, Xv 1 (decide (((q.length : Int) - 1) ≥ 0) && ((((q.getD (q.length - 1) default)).kind) == 0)) X0), (21, Xv 2 (decide (((q.length : Int) - 1) ≥ 0) && ((((q.getD (q.length - 1) default)).kind) == 0)) (Xc0 (fc_sameAttrs (((q.getD (q.length - 1) default)).attrs) (x.set.getD i default)) X0)), (22, X (Xk (decide (((q.length : Int) - 1) ≥ 0) && ((((q.getD (q.length - 1) default)).kind) == 0))))]] ((decide (((q.length : Int) - 1) ≥ 0) && ((((q.getD (q.length - 1) default)).kind) == 0)) && (sameL (((q.getD (q.length - 1) default)).attrs) (x.set.getD i default))) (fun h17 => ?_) (fun h17 => ?_)
      ·
       (try simp only [decide_eq_true_eq, decide_eq_false_iff_not, Int.not_lt, Int.not_le, ge_iff_le, Bool.and_eq_true, Bool.and_eq_false_iff, Bool.not_eq_true', Bool.not_eq_false', beq_iff_eq, beq_eq_false_iff_ne, ne_eq] at h17)
       refine .at 610 [(0, 0), (48, 48)] ([(1, .ptr 0 0), (3, .row 48 q.length), (4, VN), (5, VI 0), (6, VI (i : Int)), (7, VI ((q.length : Int) - 1)), (81, VB ((decide (((q.length : Int) - 1) ≥ 0) && ((((q.getD (q.length - 1) default)).kind) == 0)) && (sameL (((q.getD (q.length - 1) default)).attrs) (x.set.getD i default))))], [(0, .box [VL 1 elemsT x.ins, VL 1 boolT x.cut, VL 1 attrsT x.set]), (48, OR 4 dstepT q)]) ?_
       have hlast := fun h : 0 < q.length => hnq _ (lastD_mem h)
       refine .back [.r [(2, X (Xp' dstepT 48 q ((q.length : Int) - 1) (q.length - 1))), (4, X (Xe dstepT q (q.length - 1))), (5, X (Xn ((((q.getD (q.length - 1) default)).n) + 1))), (6, X (Xp' dstepT 48 q ((q.length : Int) - 1) (q.length - 1))), (8, X (Xs 4 dstepT 48 q (q.length - 1) ({ kind := ((q.getD (q.length - 1) default)).kind, n := ((((q.getD (q.length - 1) default)).n) + 1), attrs := ((q.getD (q.length - 1) default)).attrs, elems := ((q.getD (q.length - 1) default)).elems } : DStep)))], .r [(1, X (Xn ((i : Int) + 1)))], .le (.nR 4 3), .le (.eq 3 (.row 48 q.length) (.row 48 ((q.set (q.length - 1) ({ kind := ((q.getD (q.length - 1) default)).kind, n := ((((q.getD (q.length - 1) default)).n) + 1), attrs := ((q.getD (q.length - 1) default)).attrs, elems := ((q.getD (q.length - 1) default)).elems } : DStep)).length)) (.of_eq (by simp only [List.length_set])))] [(0, 0), (48, 48), (706, 49)] (ih5 (0, (i + 1), (q.set (q.length - 1) ({ kind := ((q.getD (q.length - 1) default)).kind, n := ((((q.getD (q.length - 1) default)).n) + 1), attrs := ((q.getD (q.length - 1) default)).attrs, elems := ((q.getD (q.length - 1) default)).elems } : DStep)), []) ?_ ?_)
       ·
        rw [tailR_K (by omega) (by rcases h8 with h8 | h8; omega; exact h8)] at hDe
        refine ⟨by omega, DI.of_eq ?_ hDe.keep1⟩
        simp only
        rw [hfq]
        unfold keepD
        split
        · rename_i z; first | rfl | (exfalso; rcases h17 with (h | h) | h; omega; exact h z.2.1; (rw [z.2.2] at h; cases h))
        · rename_i z; first | rfl | exact absurd ⟨by omega, h17.1.2, h17.2⟩ z
       ·
        ((try dsimp only); omega)
      ·
       (try simp only [decide_eq_true_eq, decide_eq_false_iff_not, Int.not_lt, Int.not_le, ge_iff_le, Bool.and_eq_true, Bool.and_eq_false_iff, Bool.not_eq_true', Bool.not_eq_false', beq_iff_eq, beq_eq_false_iff_ne, ne_eq] at h17)
       refine .at 610 [(0, 0), (48, 48)] ([(1, .ptr 0 0), (3, .row 48 q.length), (4, VN), (5, VI 0), (6, VI (i : Int)), (7, VI ((q.length : Int) - 1)), (81, VB ((decide (((q.length : Int) - 1) ≥ 0) && ((((q.getD (q.length - 1) default)).kind) == 0)) && (sameL (((q.getD (q.length - 1) default)).attrs) (x.set.getD i default))))], [(0, .box [VL 1 elemsT x.ins, VL 1 boolT x.cut, VL 1 attrsT x.set]), (48, OR 4 dstepT q)]) ?_
       refine .back [.r [(4, X (Xi attrsT x.set (i : Int))), (6, X (Xf [(3, 3)])), (8, X (rowC dstepT [({ kind := 0, n := 1, attrs := (x.set.getD i default), elems := [] } : DStep)] (Xap 4 dstepT 48 q [({ kind := 0, n := 1, attrs := (x.set.getD i default), elems := [] } : DStep)])))], .r [(1, X (Xn ((i : Int) + 1)))], .le (.nR 4 3)] [(0, 0), (48, 48), (714, 49)] (ih5 (0, (i + 1), (q ++ [({ kind := 0, n := 1, attrs := (x.set.getD i default), elems := [] } : DStep)]), []) ?_ ?_)
       ·
        rw [tailR_K (by omega) (by rcases h8 with h8 | h8; omega; exact h8)] at hDe
        refine ⟨by omega, DI.of_eq ?_ hDe.keep1⟩
        simp only
        rw [hfq]
        unfold keepD
        split
        · rename_i z; first | rfl | (exfalso; rcases h17 with (h | h) | h; omega; exact h z.2.1; (rw [z.2.2] at h; cases h))
        · rename_i z; first | rfl | exact absurd ⟨by omega, h17.1.2, h17.2⟩ z
       ·
        ((try dsimp only); omega)
    ·
     (try simp only [decide_eq_true_eq, decide_eq_false_iff_not, Int.not_lt, Int.not_le, gt_iff_lt] at h12)
     obtain ⟨q, hgen⟩ : ∃ z, o = z := ⟨_, rfl⟩
     have hfq : flushD ⟨o, a ++ x.ins.getD i default, c⟩ = q := by
       rw [← hgen]
       unfold flushD
       simp only
       (first | rw [if_pos (show 0 < (a ++ x.ins.getD i default).length by omega)] | rw [if_neg (show ¬ 0 < (a ++ x.ins.getD i default).length by omega)])
       (first | rw [if_pos (show 0 < c by omega)] | rw [if_neg (show ¬ 0 < c by omega)])
       all_goals simp
     have hnq : ∀ s ∈ q, 0 ≤ s.n ∧ s.n ≤ 10000000000 := by rw [← hfq]; exact hn2
     have hql : q.length ≤ o.length + 2 := by rw [← hfq]; exact flushD_len _
     refine .br [.le (.er 48 (List.map dstepT o) (List.map dstepT q) (by rw [hgen])), .le (.eq 3 (.row 48 o.length) (.row 48 q.length) (.of_eq (by rw [← hgen]))), .r [], .r [(3, X (Xl boolT x.cut))]] ((i : Int) == (x.cut.length : Int)) (fun h15 => ?_) (fun h15 => ?_)
     ·
      (try simp only [beq_iff_eq, beq_eq_false_iff_ne, ne_eq] at h15)
      have e4 : ((doneD (actR x 0)) : List DStep) = q := by
       rw [tailR_e (by omega)] at hDe
       have hG := hDe.done
       unfold doneD
       rw [← hG]
       exact hfq
      exact .finE [.r [], .le (.fr 2 [(q.length : Nat) = (List.map dstepT q).length] ⟨lm, trivial⟩)] [] (fun z0 => (VL 4 dstepT z0, [])) (q : List DStep) ((doneD (actR x 0)) : List DStep) e4
     ·
      (try simp only [beq_iff_eq, beq_eq_false_iff_ne, ne_eq] at h15)
      refine .br [.r [(2, X (Xn ((q.length : Int) - 1)))], .r [(5, Xv 2 (decide (((q.length : Int) - 1) ≥ 0)) (Xp' dstepT 48 q ((q.length : Int) - 1) (q.length - 1))), (6, Xv 1 (decide (((q.length : Int) - 1) ≥ 0)) X0), (7, Xv 1 (decide (((q.length : Int) - 1) ≥ 0)) (Xe dstepT q (q.length - 1))), (8, Xv 1 (decide (((q.length : Int) - 1) ≥ 0)) X0), (9, X (Xk (decide (((q.length : Int) - 1) ≥ 0)))), (13, Xv 2 (decide (((q.length : Int) - 1) ≥ 0) && ((((q.getD (q.length - 1) default)).kind) == 0)) (Xp' dstepT 48 q ((q.length : Int) - 1) (q.length - 1))), (14, Xv 1 (decide (((q.length : Int) - 1) ≥ 0) && ((((q.getD (q.length - 1) default)).kind) == 0)) X0), (15, Xv 1 (decide (((q.length : Int) - 1) ≥ 0) && ((((q.getD (q.length - 1) default)).kind) == 0)) (Xe dstepT q (q.length - 1))), (17, Xv 1 (decide (((q.length : Int) - 1) ≥ 0) && ((((q.getD (q.length - 1) default)).kind) == 0)) X0), (19, Xv 2 (decide (((q.length : Int) - 1) ≥ 0) && ((((q.getD (q.length - 1) default)).kind) == 0)) (Xi attrsT x.set (i : Int))), (20, Xv 1 (decide (((q.length : Int) - 1) ≥ 0) && ((((q.getD (q.length - 1) default)).kind) == 0)) X0), (21, Xv 2 (decide (((q.length : Int) - 1) ≥ 0) && ((((q.getD (q.length - 1) default)).kind) == 0)) (Xc0 (fc_sameAttrs (((q.getD (q.length - 1) default)).attrs) (x.set.getD i default)) X0)), (22, X (Xk (decide (((q.length : Int) - 1) ≥ 0) && ((((q.getD (q.length - 1) default)).kind) == 0))))]] ((decide (((q.length : Int) - 1) ≥ 0) && ((((q.getD (q.length - 1) default)).kind) == 0)) && (sameL (((q.getD (q.length - 1) default)).attrs) (x.set.getD i default))) (fun h17 => ?_) (fun h17 => ?_)
      ·
       (try simp only [decide_eq_true_eq, decide_eq_false_iff_not, Int.not_lt, Int.not_le, ge_iff_le, Bool.and_eq_true, Bool.and_eq_false_iff, Bool.not_eq_true', Bool.not_eq_false', beq_iff_eq, beq_eq_false_iff_ne, ne_eq] at h17)
       refine .at 562 [(0, 0), (48, 48)] ([(1, .ptr 0 0), (3, .row 48 q.length), (4, VN), (5, VI 0), (6, VI (i : Int)), (7, VI ((q.length : Int) - 1)), (81, VB ((decide (((q.length : Int) - 1) ≥ 0) && ((((q.getD (q.length - 1) default)).kind) == 0)) && (sameL (((q.getD (q.length - 1) default)).attrs) (x.set.getD i default))))], [(0, .box [VL 1 elemsT x.ins, VL 1 boolT x.cut, VL 1 attrsT x.set]), (48, OR 4 dstepT q)]) ?_
       have hlast := fun h : 0 < q.length => hnq _ (lastD_mem h)
       refine .back [.r [(2, X (Xp' dstepT 48 q ((q.length : Int) - 1) (q.length - 1))), (4, X (Xe dstepT q (q.length - 1))), (5, X (Xn ((((q.getD (q.length - 1) default)).n) + 1))), (6, X (Xp' dstepT 48 q ((q.length : Int) - 1) (q.length - 1))), (8, X (Xs 4 dstepT 48 q (q.length - 1) ({ kind := ((q.getD (q.length - 1) default)).kind, n := ((((q.getD (q.length - 1) default)).n) + 1), attrs := ((q.getD (q.length - 1) default)).attrs, elems := ((q.getD (q.length - 1) default)).elems } : DStep)))], .r [(1, X (Xn ((i : Int) + 1)))], .le (.nR 4 3), .le (.eq 3 (.row 48 q.length) (.row 48 ((q.set (q.length - 1) ({ kind := ((q.getD (q.length - 1) default)).kind, n := ((((q.getD (q.length - 1) default)).n) + 1), attrs := ((q.getD (q.length - 1) default)).attrs, elems := ((q.getD (q.length - 1) default)).elems } : DStep)).length)) (.of_eq (by simp only [List.length_set])))] [(0, 0), (48, 48), (658, 49)] (ih5 (0, (i + 1), (q.set (q.length - 1) ({ kind := ((q.getD (q.length - 1) default)).kind, n := ((((q.getD (q.length - 1) default)).n) + 1), attrs := ((q.getD (q.length - 1) default)).attrs, elems := ((q.getD (q.length - 1) default)).elems } : DStep)), []) ?_ ?_)
       ·
        rw [tailR_K (by omega) (by rcases h8 with h8 | h8; omega; exact h8)] at hDe
        refine ⟨by omega, DI.of_eq ?_ hDe.keep1⟩
        simp only
        rw [hfq]
        unfold keepD
        split
        · rename_i z; first | rfl | (exfalso; rcases h17 with (h | h) | h; omega; exact h z.2.1; (rw [z.2.2] at h; cases h))
        · rename_i z; first | rfl | exact absurd ⟨by omega, h17.1.2, h17.2⟩ z
       ·
        ((try dsimp only); omega)
      ·
       (try simp only [decide_eq_true_eq, decide_eq_false_iff_not, Int.not_lt, Int.not_le, ge_iff_le, Bool.and_eq_true, Bool.and_eq_false_iff, Bool.not_eq_true', Bool.not_eq_false', beq_iff_eq, beq_eq_false_iff_ne, ne_eq] at h17)
       refine .at 562 [(0, 0), (48, 48)] ([(1, .ptr 0 0), (3, .row 48 q.length), (4, VN), (5, VI 0), (6, VI (i : Int)), (7, VI ((q.length : Int) - 1)), (81, VB ((decide (((q.length : Int) - 1) ≥ 0) && ((((q.getD (q.length - 1) default)).kind) == 0)) && (sameL (((q.getD (q.length - 1) default)).attrs) (x.set.getD i default))))], [(0, .box [VL 1 elemsT x.ins, VL 1 boolT x.cut, VL 1 attrsT x.set]), (48, OR 4 dstepT q)]) ?_
       refine .back [.r [(4, X (Xi attrsT x.set (i : Int))), (6, X (Xf [(3, 3)])), (8, X (rowC dstepT [({ kind := 0, n := 1, attrs := (x.set.getD i default), elems := [] } : DStep)] (Xap 4 dstepT 48 q [({ kind := 0, n := 1, attrs := (x.set.getD i default), elems := [] } : DStep)])))], .r [(1, X (Xn ((i : Int) + 1)))], .le (.nR 4 3)] [(0, 0), (48, 48), (666, 49)] (ih5 (0, (i + 1), (q ++ [({ kind := 0, n := 1, attrs := (x.set.getD i default), elems := [] } : DStep)]), []) ?_ ?_)
       ·
        rw [tailR_K (by omega) (by rcases h8 with h8 | h8; omega; exact h8)] at hDe
        refine ⟨by omega, DI.of_eq ?_ hDe.keep1⟩
        simp only
        rw [hfq]
        unfold keepD
        split
        · rename_i z; first | rfl | (exfalso; rcases h17 with (h | h) | h; omega; exact h z.2.1; (rw [z.2.2] at h; cases h))
        · rename_i z; first | rfl | exact absurd ⟨by omega, h17.1.2, h17.2⟩ z
       ·
        ((try dsimp only); omega)
 ·
  (try simp only [decide_eq_true_eq, decide_eq_false_iff_not, Int.not_lt, Int.not_le] at h5)
  exfalso
  omega
end Go.Ch
end
section
set_option linter.unusedVariables false
set_option linter.unusedSimpArgs false
set_option maxRecDepth 100000
set_option maxHeartbeats 4000000
open Go Go.Proofs Go.Ab
namespace Go.Ch
theorem fc_draw (n : Int) (raw : List Int) (tag : ByteArray) (ht : TagOk tag) (hn : 0 ≤ n ∧ n ≤ 10000000) : FC Try.prog 48 [VI n, VL 1 intT raw, VS tag] (app emp []) (VL 4 dstepT (doneD (actR (chgX raw tag n.toNat) 0))) (app emp []) := by
 refine .go Try.f48 ?_
 refine .len 1 (fun hl1 => ?_)
 obtain ⟨hc1, hc2, hc3, hc4, hc5, hc6, hc7, hc8, hc9⟩ := change_ok (raw := raw) ht (n := n.toNat) (by omega)
 refine .loop (α := Nat × Int × (List (List Elem)) × (List Bool) × (List (List Attr))) [.r [], .r [], .r [], .le (.nB 8 0 1), .le (.nB 8 1 1), .le (.nB 8 2 1), .r []] 59 (fun (i, used, I, C, S) => ([(0, VI n), (2, VS tag), (7, .ptr 8 0), (8, .ptr 32 0), (9, VI (i : Int))], [(8, .box [.row 48 I.length, .row 49 C.length, .row 50 S.length]), (32, .box [VL 1 intT raw, VI used]), (48, OR 1 elemsT I), (49, OR 1 boolT C), (50, OR 1 attrsT S)])) (fun (i, used, I, C, S) => (i : Int) ≤ n ∧ 0 ≤ used ∧ used ≤ 3 * i ∧ I.length = i ∧ C.length = i ∧ S.length = i ∧ chgX raw tag n.toNat = chgF raw tag n.toNat (n.toNat - i) used ⟨I, C, S⟩) (fun (i, used, I, C, S) => n.toNat + 1 - i) (0, 0, [], [], []) ?_ ?_
 ·
  exact ⟨by omega, by decide, by omega, rfl, rfl, rfl, rfl⟩
 rintro ⟨i, used, I, C, S⟩ I4 ih4
 try dsimp only at I4
 have r1 := rollU_le raw used
 have r2 := rollU_le raw (rollU raw used)
 have r3 := rollU_le raw (rollU raw (rollU raw used))
 have v1 := rollV_bd raw used (n := 8) (by decide)
 have v2 := rollV_bd raw (rollU raw used) (n := 8) (by decide)
 have v3 := rollV_bd raw (rollU raw (rollU raw used)) (n := 8) (by decide)
 refine .br [.r []] (decide ((i : Int) ≤ n)) (fun h4 => ?_) (fun h4 => ?_)
 ·
  (try simp only [decide_eq_true_eq, decide_eq_false_iff_not, Int.not_lt, Int.not_le] at h4)
  refine .loop (α := Nat × (List Elem)) [.r [], .r [(1, X (Xc3 99 [(0, 32)] (fc_roll raw used 8 (by omega) (by omega) (by omega)) X0)), (2, X (Xn ((rollV raw used 8) - 5))), (3, X (Xmax 0 ((rollV raw used 8) - 5)))], .le (.nR 10 3)] 132 (fun (j, e) => ([(0, VI n), (2, VS tag), (7, .ptr 8 0), (8, .ptr 32 0), (9, VI (i : Int)), (10, .row 131 e.length), (24, VI (max 0 ((rollV raw used 8) - 5))), (25, VI (j : Int))], [(8, .box [.row 48 I.length, .row 49 C.length, .row 50 S.length]), (32, .box [VL 1 intT raw, VI (rollU raw used)]), (48, OR 1 elemsT I), (49, OR 1 boolT C), (50, OR 1 attrsT S), (131, OR 3 elemT e)])) (fun (j, e) => (j : Int) ≤ (max 0 ((rollV raw used 8) - 5)) ∧ e = insL tag i j) (fun (j, e) => ((max 0 ((rollV raw used 8) - 5))).toNat - j) (0, []) ?_ ?_
  ·
   exact ⟨by omega, rfl⟩
  rintro ⟨j, e⟩ I8 ih8
  try dsimp only at I8
  have el : e.length = j := by rw [I8.2]; simp [insL]
  refine .br [.r []] (decide ((j : Int) < (max 0 ((rollV raw used 8) - 5)))) (fun h8 => ?_) (fun h8 => ?_)
  ·
   (try simp only [decide_eq_true_eq, decide_eq_false_iff_not, Int.not_lt, Int.not_le] at h8)
   refine .back [.r [], .r [(3, X (Xn ((i : Int) + (j : Int)))), (4, X (Xrem ((i : Int) + (j : Int)) 26)), (5, X (Xn (65 + (((i : Int) + (j : Int)) % 26)))), (7, X (Xc1 212 (fc_on tag) X0)), (10, X (rowC elemT [({ char := (65 + (((i : Int) + (j : Int)) % 26)), ref := 0, attrs := [({ name := tag, val := { data := #[111, 110] } } : Attr)] } : Elem)] (Xap 3 elemT 131 e [({ char := (65 + (((i : Int) + (j : Int)) % 26)), ref := 0, attrs := [({ name := tag, val := { data := #[111, 110] } } : Attr)] } : Elem)])))], .r [(0, X (Xn ((j : Int) + 1)))]] [(8, 8), (32, 32), (48, 48), (49, 49), (50, 50), (131, 131)] (ih8 ((j + 1), (e ++ [({ char := (65 + (((i : Int) + (j : Int)) % 26)), ref := 0, attrs := [({ name := tag, val := { data := #[111, 110] } } : Attr)] } : Elem)])) ?_ ?_)
   ·
    refine ⟨by omega, ?_⟩
    rw [I8.2]
    unfold insL
    rw [List.range_succ, List.map_append]
    rfl
   ·
    ((try dsimp only); omega)
  ·
   (try simp only [decide_eq_true_eq, decide_eq_false_iff_not, Int.not_lt, Int.not_le] at h8)
   refine .br [.r [(3, X (rowC elemT e X0)), (4, X (rowC elemsT [e] (Xap 1 elemsT 48 I [e])))], .r []] ((i : Int) == n) (fun h13 => ?_) (fun h13 => ?_)
   ·
    (try simp only [beq_iff_eq, beq_eq_false_iff_ne, ne_eq] at h13)
    have hj : insK raw used = j := by unfold insK; omega
    have hX : chgX raw tag n.toNat = ⟨I ++ [e], C, S⟩ := by rw [I4.2.2.2.2.2.2, show n.toNat - i = 0 by omega, chgF, hj, show n.toNat = i by omega, ← I8.2]
    rw [hX] at hc1 hc2 hc3 hc4
    have e1 : ((doneD (actR (chgX raw tag n.toNat) 0)) : List DStep) = (doneD (actR ({ ins := (I ++ [e]), cut := C, set := S } : Act) 0)) := by
     rw [hX]
    exact .finE [.r [(1, X (Xc1 228 (fc_deltaOf ({ ins := (I ++ [e]), cut := C, set := S } : Act) (by assumption) (by assumption) (by assumption) (by assumption)) (rowC elemsT (I ++ [e]) (rowC boolT C (rowC attrsT S X0)))))]] [] (fun z0 => (VL 4 dstepT z0, [])) ((doneD (actR ({ ins := (I ++ [e]), cut := C, set := S } : Act) 0)) : List DStep) ((doneD (actR (chgX raw tag n.toNat) 0)) : List DStep) e1
   ·
    (try simp only [beq_iff_eq, beq_eq_false_iff_ne, ne_eq] at h13)
    have hj : insK raw used = j := by unfold insK; omega
    refine .br [.r [], .r [(1, X (Xc3 236 [(0, 32)] (fc_roll raw (rollU raw used) 8 (by omega) (by omega) (by omega)) X0))], .r []] ((rollV raw (rollU raw used) 8) == 1) (fun h16 => ?_) (fun h16 => ?_)
    ·
     (try simp only [beq_iff_eq, beq_eq_false_iff_ne, ne_eq] at h16)
     refine .back [.r [(0, X (Xc1 260 (fc_on ({ data := #[98, 111, 108, 100] })) X0))], .r [(3, X (Xc3 300 [(0, 32)] (fc_roll raw (rollU raw (rollU raw used)) 8 (by omega) (by omega) (by omega)) X0)), (6, X (rowC boolT [((rollV raw (rollU raw (rollU raw used)) 8) == 0)] (Xap 1 boolT 49 C [((rollV raw (rollU raw (rollU raw used)) 8) == 0)]))), (11, X (rowC attrsT [[({ name := ({ data := #[98, 111, 108, 100] }), val := { data := #[111, 110] } } : Attr)]] (Xap 1 attrsT 50 S [[({ name := ({ data := #[98, 111, 108, 100] }), val := { data := #[111, 110] } } : Attr)]])))], .r [(1, X (Xn ((i : Int) + 1)))]] [(8, 8), (32, 32), (48, 48), (49, 49), (50, 50)] (ih4 ((i + 1), (rollU raw (rollU raw (rollU raw used))), (I ++ [e]), (C ++ [((rollV raw (rollU raw (rollU raw used)) 8) == 0)]), (S ++ [[({ name := ({ data := #[98, 111, 108, 100] }), val := { data := #[111, 110] } } : Attr)]])) ?_ ?_)
     ·
      refine ⟨by omega, by omega, by omega, by simp; omega, by simp; omega, by simp; omega, ?_⟩
      rw [I4.2.2.2.2.2.2, show n.toNat - i = (n.toNat - (i + 1)) + 1 by omega, chgF, show n.toNat - ((n.toNat - (i + 1)) + 1) = i by omega, hj, ← I8.2]
      unfold setL
      (repeat (first | rw [if_pos (by omega)] | rw [if_neg (by omega)]))
     ·
      ((try dsimp only); omega)
    ·
     (try simp only [beq_iff_eq, beq_eq_false_iff_ne, ne_eq] at h16)
     refine .br [.r []] ((rollV raw (rollU raw used) 8) == 2) (fun h18 => ?_) (fun h18 => ?_)
     ·
      (try simp only [beq_iff_eq, beq_eq_false_iff_ne, ne_eq] at h18)
      refine .back [.r [], .r [(3, X (Xc3 324 [(0, 32)] (fc_roll raw (rollU raw (rollU raw used)) 8 (by omega) (by omega) (by omega)) X0)), (6, X (rowC boolT [((rollV raw (rollU raw (rollU raw used)) 8) == 0)] (Xap 1 boolT 49 C [((rollV raw (rollU raw (rollU raw used)) 8) == 0)]))), (10, X (rowC attrT [({ name := { data := #[98, 111, 108, 100] }, val := { data := #[] } } : Attr)] X0)), (11, X (rowC attrsT [[({ name := { data := #[98, 111, 108, 100] }, val := { data := #[] } } : Attr)]] (Xap 1 attrsT 50 S [[({ name := { data := #[98, 111, 108, 100] }, val := { data := #[] } } : Attr)]])))], .r [(1, X (Xn ((i : Int) + 1)))]] [(8, 8), (32, 32), (48, 48), (49, 49), (50, 50)] (ih4 ((i + 1), (rollU raw (rollU raw (rollU raw used))), (I ++ [e]), (C ++ [((rollV raw (rollU raw (rollU raw used)) 8) == 0)]), (S ++ [[({ name := { data := #[98, 111, 108, 100] }, val := { data := #[] } } : Attr)]])) ?_ ?_)
      ·
       refine ⟨by omega, by omega, by omega, by simp; omega, by simp; omega, by simp; omega, ?_⟩
       rw [I4.2.2.2.2.2.2, show n.toNat - i = (n.toNat - (i + 1)) + 1 by omega, chgF, show n.toNat - ((n.toNat - (i + 1)) + 1) = i by omega, hj, ← I8.2]
       unfold setL
       (repeat (first | rw [if_pos (by omega)] | rw [if_neg (by omega)]))
      ·
       ((try dsimp only); omega)
     ·
      (try simp only [beq_iff_eq, beq_eq_false_iff_ne, ne_eq] at h18)
      refine .br [.r []] ((rollV raw (rollU raw used) 8) == 3) (fun h20 => ?_) (fun h20 => ?_)
      ·
       (try simp only [beq_iff_eq, beq_eq_false_iff_ne, ne_eq] at h20)
       refine .back [.r [], .r [(3, X (Xc3 364 [(0, 32)] (fc_roll raw (rollU raw (rollU raw used)) 8 (by omega) (by omega) (by omega)) X0)), (6, X (rowC boolT [((rollV raw (rollU raw (rollU raw used)) 8) == 0)] (Xap 1 boolT 49 C [((rollV raw (rollU raw (rollU raw used)) 8) == 0)]))), (10, X (rowC attrT [({ name := { data := #[98, 111, 108, 100] }, val := tag } : Attr), ({ name := tag, val := { data := #[111, 110] } } : Attr)] X0)), (11, X (rowC attrsT [[({ name := { data := #[98, 111, 108, 100] }, val := tag } : Attr), ({ name := tag, val := { data := #[111, 110] } } : Attr)]] (Xap 1 attrsT 50 S [[({ name := { data := #[98, 111, 108, 100] }, val := tag } : Attr), ({ name := tag, val := { data := #[111, 110] } } : Attr)]])))], .r [(1, X (Xn ((i : Int) + 1)))]] [(8, 8), (32, 32), (48, 48), (49, 49), (50, 50)] (ih4 ((i + 1), (rollU raw (rollU raw (rollU raw used))), (I ++ [e]), (C ++ [((rollV raw (rollU raw (rollU raw used)) 8) == 0)]), (S ++ [[({ name := { data := #[98, 111, 108, 100] }, val := tag } : Attr), ({ name := tag, val := { data := #[111, 110] } } : Attr)]])) ?_ ?_)
       ·
        refine ⟨by omega, by omega, by omega, by simp; omega, by simp; omega, by simp; omega, ?_⟩
        rw [I4.2.2.2.2.2.2, show n.toNat - i = (n.toNat - (i + 1)) + 1 by omega, chgF, show n.toNat - ((n.toNat - (i + 1)) + 1) = i by omega, hj, ← I8.2]
        unfold setL
        (repeat (first | rw [if_pos (by omega)] | rw [if_neg (by omega)]))
       ·
        ((try dsimp only); omega)
      ·
       (try simp only [beq_iff_eq, beq_eq_false_iff_ne, ne_eq] at h20)
       refine .back [.le (.nL 12 2), .r [(3, X (Xc3 316 [(0, 32)] (fc_roll raw (rollU raw (rollU raw used)) 8 (by omega) (by omega) (by omega)) X0)), (6, X (rowC boolT [((rollV raw (rollU raw (rollU raw used)) 8) == 0)] (Xap 1 boolT 49 C [((rollV raw (rollU raw (rollU raw used)) 8) == 0)]))), (11, X (rowC attrsT [[]] (Xap 1 attrsT 50 S [[]])))], .r [(1, X (Xn ((i : Int) + 1)))]] [(8, 8), (32, 32), (48, 48), (49, 49), (50, 50)] (ih4 ((i + 1), (rollU raw (rollU raw (rollU raw used))), (I ++ [e]), (C ++ [((rollV raw (rollU raw (rollU raw used)) 8) == 0)]), (S ++ [[]])) ?_ ?_)
       ·
        refine ⟨by omega, by omega, by omega, by simp; omega, by simp; omega, by simp; omega, ?_⟩
        rw [I4.2.2.2.2.2.2, show n.toNat - i = (n.toNat - (i + 1)) + 1 by omega, chgF, show n.toNat - ((n.toNat - (i + 1)) + 1) = i by omega, hj, ← I8.2]
        unfold setL
        (repeat (first | rw [if_pos (by omega)] | rw [if_neg (by omega)]))
       ·
        ((try dsimp only); omega)
 ·
  (try simp only [decide_eq_true_eq, decide_eq_false_iff_not, Int.not_lt, Int.not_le] at h4)
  exfalso
  omega
end Go.Ch
end
section
set_option linter.unusedVariables false
set_option linter.unusedSimpArgs false
namespace Go.Ch
open Go Go.Ab

variable {w G : DWr} {us : List DU} {T : Nat}
theorem DI.all : ∀ {us : List DU} {w : DWr}, DI w us T G → DI G [] T G
  | [], w, h => by have := h.done; subst this; exact h
  | .K c :: us, w, h => DI.all h.keep1
  | .A e :: us, w, h => DI.all (DI.elems (e := [e]) h)
  | .C :: us, w, h => DI.all h.cut1
theorem eok_of {f : List Elem} (hp : partE f 0 = 0) (ha : AN 100000000000 f) : EOk f := fun x hx => ⟨part_iff.1 hp x hx, ha x hx⟩
theorem ltr_an (s : ByteArray) (n : Nat) : AN n (lettersL s) := fun x hx => by
  obtain ⟨i, _, rfl⟩ := List.mem_map.1 hx
  simp [ltr]
def probeD : List DStep := [⟨1, 0, [], lettersL { data := #[120] }⟩, ⟨2, 1, [], []⟩, ⟨0, 1, [], []⟩]
theorem probe_dn : DN 400000000000 probeD := by
  intro s hs
  simp only [probeD, List.mem_cons, List.not_mem_nil, or_false] at hs
  rcases hs with rfl | rfl | rfl
  · exact ⟨by simp [lettersL, ByteArray.size], by simp, ltr_an _ _⟩
  · exact ⟨by simp, by simp, fun x hx => by cases hx⟩
  · exact ⟨by simp, by simp, fun x hx => by cases hx⟩
theorem probe_facts : partE (lettersL { data := #[97, 98] }) 0 = 0 ∧ DValid probeD ∧ oldD probeD = ((lettersL { data := #[97, 98] }).length : Int) ∧ sameF (rawD (lettersL { data := #[97, 98] }) probeD) (lettersL { data := #[120, 98] }) = true :=
  ⟨by decide +kernel, checkD_iff.1 (by decide +kernel), by decide +kernel, by decide +kernel⟩
end Go.Ch
end
section
set_option linter.unusedVariables false
set_option linter.unusedSimpArgs false
set_option maxRecDepth 100000
set_option maxHeartbeats 4000000
open Go Go.Proofs Go.Ab
namespace Go.Ch
theorem fc_deltas  : FC Try.prog 46 [] (app emp []) (VB true) (app emp []) := by
 refine .go Try.f46 ?_
 obtain ⟨p1, p2, p3, p4⟩ := probe_facts
 have p5 := probe_dn
 have p6 := ltr_an { data := #[97, 98] } 400000000000
 unfold probeD at *
 have e1 : ((true && (sameF (rawD (lettersL ({ data := #[97, 98] })) [({ kind := 1, n := 0, attrs := [], elems := (lettersL ({ data := #[120] })) } : DStep), ({ kind := 2, n := 1, attrs := [], elems := [] } : DStep), ({ kind := 0, n := 1, attrs := [], elems := [] } : DStep)]) (lettersL ({ data := #[120, 98] })))) : Bool) = true := by
  rw [p4]; simp
 exact .finE [.r [], .r [(0, X (Xc1 8 (fc_letters ({ data := #[97, 98] }) (by decide)) X0)), (1, X (Xc1 16 (fc_letters ({ data := #[120] }) (by decide)) X0)), (2, X (Xf [(2, 2)])), (3, X (Xf [(2, 2), (3, 3)])), (4, X (Xf [(2, 2), (3, 3)])), (6, X (Xc1 56 (fc_dApply (lettersL ({ data := #[97, 98] })) [({ kind := 1, n := 0, attrs := [], elems := (lettersL ({ data := #[120] })) } : DStep), ({ kind := 2, n := 1, attrs := [], elems := [] } : DStep), ({ kind := 0, n := 1, attrs := [], elems := [] } : DStep)] (by assumption) (by assumption) (by assumption) (by assumption) (by omega)) (rowC dstepT [({ kind := 1, n := 0, attrs := [], elems := (lettersL ({ data := #[120] })) } : DStep), ({ kind := 2, n := 1, attrs := [], elems := [] } : DStep), ({ kind := 0, n := 1, attrs := [], elems := [] } : DStep)] X0)))], .r [(4, Xg true (Xc1 136 (fc_letters ({ data := #[120, 98] }) (by decide)) X0)), (5, Xv 2 true (Xc0 (fc_sameFlow (rawD (lettersL ({ data := #[97, 98] })) [({ kind := 1, n := 0, attrs := [], elems := (lettersL ({ data := #[120] })) } : DStep), ({ kind := 2, n := 1, attrs := [], elems := [] } : DStep), ({ kind := 0, n := 1, attrs := [], elems := [] } : DStep)]) (lettersL ({ data := #[120, 98] }))) X0)), (6, X (Xk true))]] [] (fun z0 => (VB z0, [])) ((true && (sameF (rawD (lettersL ({ data := #[97, 98] })) [({ kind := 1, n := 0, attrs := [], elems := (lettersL ({ data := #[120] })) } : DStep), ({ kind := 2, n := 1, attrs := [], elems := [] } : DStep), ({ kind := 0, n := 1, attrs := [], elems := [] } : DStep)]) (lettersL ({ data := #[120, 98] })))) : Bool) (true : Bool) e1.symm

end Go.Ch
end
section
set_option linter.unusedVariables false
set_option linter.unusedSimpArgs false
set_option maxRecDepth 100000
set_option maxHeartbeats 4000000
open Go Go.Proofs Go.Ab
namespace Go.Ch
theorem fc_hull (l : List AxStep) (f t : Int) (hv : Valid l) (hf : 0 ≤ f ∧ f ≤ t ∧ t ≤ oldI l) : FC Try.prog 96 [VL 2 stepT l, VI f, VI t] (app emp []) (.tup [VI ((hullS l f t 0 0 0 0).1), VI ((hullS l f t 0 0 0 0).2)]) (app emp []) := by
 refine .go Try.f96 ?_
 refine .len 0 (fun hl0 => ?_)
 have ca := check_iff.2 hv
 have hv1 : oldI l ≤ 2147483647 := by have := hv.2.1; unfold oldI; omega
 have hv2 : newI l ≤ 2147483647 := by have := hv.2.2; unfold newI; omega
 have o0 : 0 ≤ oldI l := by unfold oldI; omega
 have o1 : 0 ≤ newI l := by unfold newI; omega
 refine .loop (α := Int × Int × Int × Int × Nat) [.r [], .r [], .r [(1, X (Xl stepT l))]] 72 (fun (first, last, fr, to, i) => ([(1, VI f), (2, VI t), (8, VI first), (9, VI last), (10, VI fr), (11, VI to), (16, VL 2 stepT l), (17, VI (l.length : Int)), (18, VI (i : Int))], [])) (fun (first, last, fr, to, i) => i ≤ l.length ∧ 0 ≤ fr ∧ 0 ≤ to ∧ fr + oldU (ex (l.drop i)) = oldI l ∧ to + newU (ex (l.drop i)) = newI l ∧ 0 ≤ first ∧ first ≤ 10000000000 ∧ 0 ≤ last ∧ last ≤ 10000000000 ∧ hullS l f t 0 0 0 0 = hullS (l.drop i) f t first last fr to) (fun (first, last, fr, to, i) => l.length - i) (0, 0, 0, 0, 0) ?_ ?_
 ·
  exact ⟨by omega, by decide, by decide, by simp [oldI], by simp [newI], by decide, by decide, by decide, by decide, rfl⟩
 rintro ⟨first, last, fr, to, i⟩ I3 ih3
 try dsimp only at I3
 refine .br [.r []] (decide ((i : Int) < (l.length : Int))) (fun h3 => ?_) (fun h3 => ?_)
 ·
  (try simp only [decide_eq_true_eq, decide_eq_false_iff_not, Int.not_lt, Int.not_le] at h3)
  have hst := lens_step (l := l) (i := i) (by omega) hv.1
  have hd := drop_ats (l := l) (i := i) (by omega)
  refine .br [.r [(0, X (Xi stepT l (i : Int)))], .r [(2, X (Xmax f fr)), (7, X (Xn (fr + (((l.getD i default)).n)))), (8, X (Xmin t (fr + (((l.getD i default)).n))))], .r [(6, Xv 2 ((((l.getD i default)).kind) == 0) X0), (7, X (Xk ((((l.getD i default)).kind) == 0)))]] (((((l.getD i default)).kind) == 0) && decide ((max f fr) < (min t (fr + (((l.getD i default)).n))))) (fun h6 => ?_) (fun h6 => ?_)
  ·
   (try simp only [decide_eq_true_eq, decide_eq_false_iff_not, Int.not_lt, Int.not_le, Bool.and_eq_true, Bool.and_eq_false_iff, Bool.not_eq_true', Bool.not_eq_false', beq_iff_eq, beq_eq_false_iff_ne, ne_eq] at h6)
   refine .br [.r []] (last == 0) (fun h7 => ?_) (fun h7 => ?_)
   ·
    (try simp only [beq_iff_eq, beq_eq_false_iff_ne, ne_eq] at h7)
    refine .br [.r [(2, X (Xn (to + (max f fr)))), (4, X (Xn ((to + (max f fr)) - fr)))], .r [(2, X (Xn (to + (min t (fr + (((l.getD i default)).n)))))), (4, X (Xn ((to + (min t (fr + (((l.getD i default)).n)))) - fr)))], .r []] ((((l.getD i default)).kind) != 2) (fun h10 => ?_) (fun h10 => ?_)
    ·
     (try simp only [bne_iff_ne, bne_eq_false_iff_eq, ne_eq] at h10)
     refine .br [.r [(3, X (Xn (to + (((l.getD i default)).n))))], .r []] ((((l.getD i default)).kind) != 1) (fun h12 => ?_) (fun h12 => ?_)
     ·
      (try simp only [bne_iff_ne, bne_eq_false_iff_eq, ne_eq] at h12)
      refine .back [.r [(3, X (Xn (fr + (((l.getD i default)).n))))], .r [(0, X (Xn ((i : Int) + 1)))]] [] (ih3 (((to + (max f fr)) - fr), ((to + (min t (fr + (((l.getD i default)).n)))) - fr), (fr + (((l.getD i default)).n)), (to + (((l.getD i default)).n)), (i + 1)) ?_ ?_)
      ·
       obtain ⟨s1, s2, s3, s4, s5⟩ := hst
       (first | rw [if_pos (by omega)] at s1 | rw [if_neg (by omega)] at s1)
       (first | rw [if_pos (by omega)] at s2 | rw [if_neg (by omega)] at s2)
       refine ⟨by omega, by omega, by omega, by omega, by omega, by omega, by omega, by omega, by omega, ?_⟩
       rw [I3.2.2.2.2.2.2.2.2.2, hd, hullS]
       congr 1 <;> ((repeat' split) <;> first | rfl | omega)
      ·
       ((try dsimp only); omega)
     ·
      (try simp only [bne_iff_ne, bne_eq_false_iff_eq, ne_eq] at h12)
      refine .back [.r [(0, X (Xn ((i : Int) + 1)))]] [] (ih3 (((to + (max f fr)) - fr), ((to + (min t (fr + (((l.getD i default)).n)))) - fr), fr, (to + (((l.getD i default)).n)), (i + 1)) ?_ ?_)
      ·
       obtain ⟨s1, s2, s3, s4, s5⟩ := hst
       (first | rw [if_pos (by omega)] at s1 | rw [if_neg (by omega)] at s1)
       (first | rw [if_pos (by omega)] at s2 | rw [if_neg (by omega)] at s2)
       refine ⟨by omega, by omega, by omega, by omega, by omega, by omega, by omega, by omega, by omega, ?_⟩
       rw [I3.2.2.2.2.2.2.2.2.2, hd, hullS]
       congr 1 <;> ((repeat' split) <;> first | rfl | omega)
      ·
       ((try dsimp only); omega)
    ·
     (try simp only [bne_iff_ne, bne_eq_false_iff_eq, ne_eq] at h10)
     refine .br [.r []] ((((l.getD i default)).kind) != 1) (fun h12 => ?_) (fun h12 => ?_)
     ·
      (try simp only [bne_iff_ne, bne_eq_false_iff_eq, ne_eq] at h12)
      refine .back [.r [(3, X (Xn (fr + (((l.getD i default)).n))))], .r [(0, X (Xn ((i : Int) + 1)))]] [] (ih3 (((to + (max f fr)) - fr), ((to + (min t (fr + (((l.getD i default)).n)))) - fr), (fr + (((l.getD i default)).n)), to, (i + 1)) ?_ ?_)
      ·
       obtain ⟨s1, s2, s3, s4, s5⟩ := hst
       (first | rw [if_pos (by omega)] at s1 | rw [if_neg (by omega)] at s1)
       (first | rw [if_pos (by omega)] at s2 | rw [if_neg (by omega)] at s2)
       refine ⟨by omega, by omega, by omega, by omega, by omega, by omega, by omega, by omega, by omega, ?_⟩
       rw [I3.2.2.2.2.2.2.2.2.2, hd, hullS]
       congr 1 <;> ((repeat' split) <;> first | rfl | omega)
      ·
       ((try dsimp only); omega)
     ·
      (try simp only [bne_iff_ne, bne_eq_false_iff_eq, ne_eq] at h12)
      refine .back [.r [(0, X (Xn ((i : Int) + 1)))]] [] (ih3 (((to + (max f fr)) - fr), ((to + (min t (fr + (((l.getD i default)).n)))) - fr), fr, to, (i + 1)) ?_ ?_)
      ·
       obtain ⟨s1, s2, s3, s4, s5⟩ := hst
       (first | rw [if_pos (by omega)] at s1 | rw [if_neg (by omega)] at s1)
       (first | rw [if_pos (by omega)] at s2 | rw [if_neg (by omega)] at s2)
       refine ⟨by omega, by omega, by omega, by omega, by omega, by omega, by omega, by omega, by omega, ?_⟩
       rw [I3.2.2.2.2.2.2.2.2.2, hd, hullS]
       congr 1 <;> ((repeat' split) <;> first | rfl | omega)
      ·
       ((try dsimp only); omega)
   ·
    (try simp only [beq_iff_eq, beq_eq_false_iff_ne, ne_eq] at h7)
    refine .br [.r [(2, X (Xn (to + (min t (fr + (((l.getD i default)).n)))))), (4, X (Xn ((to + (min t (fr + (((l.getD i default)).n)))) - fr)))], .r []] ((((l.getD i default)).kind) != 2) (fun h10 => ?_) (fun h10 => ?_)
    ·
     (try simp only [bne_iff_ne, bne_eq_false_iff_eq, ne_eq] at h10)
     refine .br [.r [(3, X (Xn (to + (((l.getD i default)).n))))], .r []] ((((l.getD i default)).kind) != 1) (fun h12 => ?_) (fun h12 => ?_)
     ·
      (try simp only [bne_iff_ne, bne_eq_false_iff_eq, ne_eq] at h12)
      refine .back [.r [(3, X (Xn (fr + (((l.getD i default)).n))))], .r [(0, X (Xn ((i : Int) + 1)))]] [] (ih3 (first, ((to + (min t (fr + (((l.getD i default)).n)))) - fr), (fr + (((l.getD i default)).n)), (to + (((l.getD i default)).n)), (i + 1)) ?_ ?_)
      ·
       obtain ⟨s1, s2, s3, s4, s5⟩ := hst
       (first | rw [if_pos (by omega)] at s1 | rw [if_neg (by omega)] at s1)
       (first | rw [if_pos (by omega)] at s2 | rw [if_neg (by omega)] at s2)
       refine ⟨by omega, by omega, by omega, by omega, by omega, by omega, by omega, by omega, by omega, ?_⟩
       rw [I3.2.2.2.2.2.2.2.2.2, hd, hullS]
       congr 1 <;> ((repeat' split) <;> first | rfl | omega)
      ·
       ((try dsimp only); omega)
     ·
      (try simp only [bne_iff_ne, bne_eq_false_iff_eq, ne_eq] at h12)
      refine .back [.r [(0, X (Xn ((i : Int) + 1)))]] [] (ih3 (first, ((to + (min t (fr + (((l.getD i default)).n)))) - fr), fr, (to + (((l.getD i default)).n)), (i + 1)) ?_ ?_)
      ·
       obtain ⟨s1, s2, s3, s4, s5⟩ := hst
       (first | rw [if_pos (by omega)] at s1 | rw [if_neg (by omega)] at s1)
       (first | rw [if_pos (by omega)] at s2 | rw [if_neg (by omega)] at s2)
       refine ⟨by omega, by omega, by omega, by omega, by omega, by omega, by omega, by omega, by omega, ?_⟩
       rw [I3.2.2.2.2.2.2.2.2.2, hd, hullS]
       congr 1 <;> ((repeat' split) <;> first | rfl | omega)
      ·
       ((try dsimp only); omega)
    ·
     (try simp only [bne_iff_ne, bne_eq_false_iff_eq, ne_eq] at h10)
     refine .br [.r []] ((((l.getD i default)).kind) != 1) (fun h12 => ?_) (fun h12 => ?_)
     ·
      (try simp only [bne_iff_ne, bne_eq_false_iff_eq, ne_eq] at h12)
      refine .back [.r [(3, X (Xn (fr + (((l.getD i default)).n))))], .r [(0, X (Xn ((i : Int) + 1)))]] [] (ih3 (first, ((to + (min t (fr + (((l.getD i default)).n)))) - fr), (fr + (((l.getD i default)).n)), to, (i + 1)) ?_ ?_)
      ·
       obtain ⟨s1, s2, s3, s4, s5⟩ := hst
       (first | rw [if_pos (by omega)] at s1 | rw [if_neg (by omega)] at s1)
       (first | rw [if_pos (by omega)] at s2 | rw [if_neg (by omega)] at s2)
       refine ⟨by omega, by omega, by omega, by omega, by omega, by omega, by omega, by omega, by omega, ?_⟩
       rw [I3.2.2.2.2.2.2.2.2.2, hd, hullS]
       congr 1 <;> ((repeat' split) <;> first | rfl | omega)
      ·
       ((try dsimp only); omega)
     ·
      (try simp only [bne_iff_ne, bne_eq_false_iff_eq, ne_eq] at h12)
      refine .back [.r [(0, X (Xn ((i : Int) + 1)))]] [] (ih3 (first, ((to + (min t (fr + (((l.getD i default)).n)))) - fr), fr, to, (i + 1)) ?_ ?_)
      ·
       obtain ⟨s1, s2, s3, s4, s5⟩ := hst
       (first | rw [if_pos (by omega)] at s1 | rw [if_neg (by omega)] at s1)
       (first | rw [if_pos (by omega)] at s2 | rw [if_neg (by omega)] at s2)
       refine ⟨by omega, by omega, by omega, by omega, by omega, by omega, by omega, by omega, by omega, ?_⟩
       rw [I3.2.2.2.2.2.2.2.2.2, hd, hullS]
       congr 1 <;> ((repeat' split) <;> first | rfl | omega)
      ·
       ((try dsimp only); omega)
  ·
   (try simp only [decide_eq_true_eq, decide_eq_false_iff_not, Int.not_lt, Int.not_le, Bool.and_eq_true, Bool.and_eq_false_iff, Bool.not_eq_true', Bool.not_eq_false', beq_iff_eq, beq_eq_false_iff_ne, ne_eq] at h6)
   refine .br [.r []] ((((l.getD i default)).kind) != 2) (fun h10 => ?_) (fun h10 => ?_)
   ·
    (try simp only [bne_iff_ne, bne_eq_false_iff_eq, ne_eq] at h10)
    refine .br [.r [(3, X (Xn (to + (((l.getD i default)).n))))], .r []] ((((l.getD i default)).kind) != 1) (fun h12 => ?_) (fun h12 => ?_)
    ·
     (try simp only [bne_iff_ne, bne_eq_false_iff_eq, ne_eq] at h12)
     refine .back [.r [(3, X (Xn (fr + (((l.getD i default)).n))))], .r [(0, X (Xn ((i : Int) + 1)))]] [] (ih3 (first, last, (fr + (((l.getD i default)).n)), (to + (((l.getD i default)).n)), (i + 1)) ?_ ?_)
     ·
      obtain ⟨s1, s2, s3, s4, s5⟩ := hst
      (first | rw [if_pos (by omega)] at s1 | rw [if_neg (by omega)] at s1)
      (first | rw [if_pos (by omega)] at s2 | rw [if_neg (by omega)] at s2)
      refine ⟨by omega, by omega, by omega, by omega, by omega, by omega, by omega, by omega, by omega, ?_⟩
      rw [I3.2.2.2.2.2.2.2.2.2, hd, hullS]
      congr 1 <;> ((repeat' split) <;> first | rfl | omega)
     ·
      ((try dsimp only); omega)
    ·
     (try simp only [bne_iff_ne, bne_eq_false_iff_eq, ne_eq] at h12)
     refine .back [.r [(0, X (Xn ((i : Int) + 1)))]] [] (ih3 (first, last, fr, (to + (((l.getD i default)).n)), (i + 1)) ?_ ?_)
     ·
      obtain ⟨s1, s2, s3, s4, s5⟩ := hst
      (first | rw [if_pos (by omega)] at s1 | rw [if_neg (by omega)] at s1)
      (first | rw [if_pos (by omega)] at s2 | rw [if_neg (by omega)] at s2)
      refine ⟨by omega, by omega, by omega, by omega, by omega, by omega, by omega, by omega, by omega, ?_⟩
      rw [I3.2.2.2.2.2.2.2.2.2, hd, hullS]
      congr 1 <;> ((repeat' split) <;> first | rfl | omega)
     ·
      ((try dsimp only); omega)
   ·
    (try simp only [bne_iff_ne, bne_eq_false_iff_eq, ne_eq] at h10)
    refine .br [.r []] ((((l.getD i default)).kind) != 1) (fun h12 => ?_) (fun h12 => ?_)
    ·
     (try simp only [bne_iff_ne, bne_eq_false_iff_eq, ne_eq] at h12)
     refine .back [.r [(3, X (Xn (fr + (((l.getD i default)).n))))], .r [(0, X (Xn ((i : Int) + 1)))]] [] (ih3 (first, last, (fr + (((l.getD i default)).n)), to, (i + 1)) ?_ ?_)
     ·
      obtain ⟨s1, s2, s3, s4, s5⟩ := hst
      (first | rw [if_pos (by omega)] at s1 | rw [if_neg (by omega)] at s1)
      (first | rw [if_pos (by omega)] at s2 | rw [if_neg (by omega)] at s2)
      refine ⟨by omega, by omega, by omega, by omega, by omega, by omega, by omega, by omega, by omega, ?_⟩
      rw [I3.2.2.2.2.2.2.2.2.2, hd, hullS]
      congr 1 <;> ((repeat' split) <;> first | rfl | omega)
     ·
      ((try dsimp only); omega)
    ·
     (try simp only [bne_iff_ne, bne_eq_false_iff_eq, ne_eq] at h12)
     refine .back [.r [(0, X (Xn ((i : Int) + 1)))]] [] (ih3 (first, last, fr, to, (i + 1)) ?_ ?_)
     ·
      obtain ⟨s1, s2, s3, s4, s5⟩ := hst
      (first | rw [if_pos (by omega)] at s1 | rw [if_neg (by omega)] at s1)
      (first | rw [if_pos (by omega)] at s2 | rw [if_neg (by omega)] at s2)
      refine ⟨by omega, by omega, by omega, by omega, by omega, by omega, by omega, by omega, by omega, ?_⟩
      rw [I3.2.2.2.2.2.2.2.2.2, hd, hullS]
      congr 1 <;> ((repeat' split) <;> first | rfl | omega)
     ·
      ((try dsimp only); omega)
 ·
  (try simp only [decide_eq_true_eq, decide_eq_false_iff_not, Int.not_lt, Int.not_le] at h3)
  have e1 : ((hullS l f t 0 0 0 0).1 : Int) = first := by
   rw [I3.2.2.2.2.2.2.2.2.2, drop_ends (by omega)]; rfl
  have e2 : ((hullS l f t 0 0 0 0).2 : Int) = last := by
   rw [I3.2.2.2.2.2.2.2.2.2, drop_ends (by omega)]; rfl
  exact .finE [.r []] [] (fun (z0, z1) => (.tup [VI z0, VI z1], [])) ((first : Int), (last : Int)) (((hullS l f t 0 0 0 0).1 : Int), ((hullS l f t 0 0 0 0).2 : Int)) (pr e1 e2)

end Go.Ch
end
section
set_option linter.unusedVariables false
set_option linter.unusedSimpArgs false
set_option maxRecDepth 100000
set_option maxHeartbeats 4000000
open Go Go.Proofs Go.Ab
namespace Go.Ch
end Go.Ch
end
section
set_option linter.unusedVariables false
set_option linter.unusedSimpArgs false
set_option maxRecDepth 100000
set_option maxHeartbeats 4000000
open Go Go.Proofs Go.Ab
namespace Go.Ch
structure KI (a : List AxStep) (i : Nat) (last : Int) : Prop where
  lo : -1 ≤ last
  hi : last ≤ 10000000000
  at_ : last = -1 ∨ ∃ q, 0 ≤ q ∧ q < (i : Int) ∧ placeS a q 0 0 = last ∧ 0 ≤ last
theorem KI.next {a : List AxStep} {i : Nat} {last : Int} (h : KI a i last) (hv : Valid a) : gapS a i false 0 0 ≤ gapS a i true 0 0 ∧ last + 1 ≤ gapS a i false 0 0 ∧ (0 ≤ placeS a i 0 0 → gapS a i true 0 0 ≤ placeS a i 0 0) ∧ -1 ≤ placeS a i 0 0 ∧ placeS a i 0 0 ≤ 2147483647 ∧
    (placeS a i 0 0 < 0 → KI a (i + 1) last) ∧ (0 ≤ placeS a i 0 0 → KI a (i + 1) (placeS a i 0 0)) := by
  have g1 := gap_mono hv.1 i 0 0 0 (Int.le_refl _)
  have g0 := gap_ge hv.1 i false 0 0
  have p1 := place_ge hv.1 i 0 0 (Int.le_refl _) (by omega)
  have p2 := place_le hv.1 i 0 0 (Int.le_refl _) (by omega)
  have hn := hv.2.2
  refine ⟨g1, ?_, fun h0 => gap_place hv.1 i 0 0 (by omega) h0, p1, by omega, fun hlt => ⟨h.lo, h.hi, ?_⟩, fun h0 => ⟨by omega, by omega, .inr ⟨i, by omega, by omega, rfl, h0⟩⟩⟩
  · rcases h.at_ with e | ⟨q, q1, q2, q3, q4⟩
    · omega
    · have := place_gap hv.1 q i 0 0 q1 q2 (by omega)
      omega
  · rcases h.at_ with e | ⟨q, q1, q2, q3, q4⟩
    · exact .inl e
    · exact .inr ⟨q, q1, by omega, q3, q4⟩

end Go.Ch
end
section
set_option linter.unusedVariables false
set_option linter.unusedSimpArgs false
set_option maxRecDepth 100000
set_option maxHeartbeats 4000000
open Go Go.Proofs Go.Ab
namespace Go.Ch
theorem fc_dAxis (d : List DStep) (hv : DValid d) (hd : DN 400000000000 d) : FC Try.prog 74 [VL 4 dstepT d] (app emp []) (.tup [VL 2 stepT (axD d), VI 0]) (app emp []) := by
 refine .go Try.f74 ?_
 refine .len 0 (fun hl0 => ?_)
 have hc := checkD_iff.2 hv
 have hdl := dlen hv.1.all
 have hv1 := hv.2.1
 have hv2 := hv.2.2
 refine .br [.r [], .r [(1, X (Xc0 (fc_dCheck d (by assumption)) X0))], .r []] ((checkD d) != 0) (fun h2 => ?_) (fun h2 => ?_)
 ·
  (try simp only [bne_iff_ne, bne_eq_false_iff_eq, ne_eq] at h2)
  exfalso
  omega
 ·
  (try simp only [bne_iff_ne, bne_eq_false_iff_eq, ne_eq] at h2)
  refine .loop (α := Nat × (List AxStep)) [.r [], .r [(1, X (Xl dstepT d))], .le (.nR 5 2)] 89 (fun (i, o) => ([(5, .row 88 o.length), (14, VL 4 dstepT d), (15, VI (d.length : Int)), (16, VI (i : Int))], [(88, OR 2 stepT o)])) (fun (i, o) => i ≤ d.length ∧ axF o (d.drop i) = axD d ∧ AxB o i) (fun (i, o) => d.length - i) (0, []) ?_ ?_
  ·
   exact ⟨by omega, rfl, AxB.start⟩
  rintro ⟨i, o⟩ I6 ih6
  try dsimp only at I6
  have ol := I6.2.2.len
  refine .br [.r []] (decide ((i : Int) < (d.length : Int))) (fun h6 => ?_) (fun h6 => ?_)
  ·
   (try simp only [decide_eq_true_eq, decide_eq_false_iff_not, Int.not_lt, Int.not_le] at h6)
   have hm := getD_mem' (l := d) (k := i) (by omega)
   obtain ⟨hk, hn1, hn2, _⟩ := stepD_sz (step_iff.2 (hv.1.all _ hm))
   obtain ⟨hz1, hz2⟩ := szD_valid hv hm
   have hN := I6.2.2.next ⟨hz1, hz2⟩ ⟨hn1, hn2⟩
   have hF := (axF_at (d := d) (i := i) (by omega) o).symm.trans I6.2.1
   have hla := fun h => I6.2.2.last h
   unfold axPut at hN hF
   refine .br [.r [(0, X (Xi dstepT d (i : Int)))], .r [(2, X (Xn ((o.length : Int) - 1)))], .r [(5, Xv 1 ((((d.getD i default)).kind) == 0) X0), (6, X (Xk ((((d.getD i default)).kind) == 0))), (10, Xv 2 (((((d.getD i default)).kind) == 0) && decide (((o.length : Int) - 1) ≥ 0)) (Xp' stepT 88 o ((o.length : Int) - 1) (o.length - 1))), (11, Xv 1 (((((d.getD i default)).kind) == 0) && decide (((o.length : Int) - 1) ≥ 0)) X0), (12, Xv 1 (((((d.getD i default)).kind) == 0) && decide (((o.length : Int) - 1) ≥ 0)) (Xe stepT o (o.length - 1))), (13, Xv 1 (((((d.getD i default)).kind) == 0) && decide (((o.length : Int) - 1) ≥ 0)) X0), (14, X (Xk (((((d.getD i default)).kind) == 0) && decide (((o.length : Int) - 1) ≥ 0))))]] ((((((d.getD i default)).kind) == 0) && decide (((o.length : Int) - 1) ≥ 0)) && ((((o.getD (o.length - 1) default)).kind) == 0)) (fun h9 => ?_) (fun h9 => ?_)
   ·
    (try simp only [decide_eq_true_eq, decide_eq_false_iff_not, Int.not_lt, Int.not_le, ge_iff_le, Bool.and_eq_true, Bool.and_eq_false_iff, Bool.not_eq_true', Bool.not_eq_false', beq_iff_eq, beq_eq_false_iff_ne, ne_eq] at h9)
    have hla2 := hla (by omega)
    rw [if_pos ⟨h9.1.1, by omega, h9.2⟩] at hN hF
    refine .back [.r [(2, X (Xp' stepT 88 o ((o.length : Int) - 1) (o.length - 1))), (4, X (Xe stepT o (o.length - 1))), (7, X (Xn ((((o.getD (o.length - 1) default)).n) + (((d.getD i default)).n)))), (8, X (Xp' stepT 88 o ((o.length : Int) - 1) (o.length - 1))), (10, X (Xs 2 stepT 88 o (o.length - 1) ({ kind := ((o.getD (o.length - 1) default)).kind, n := ((((o.getD (o.length - 1) default)).n) + (((d.getD i default)).n)) } : AxStep)))], .r [(0, X (Xn ((i : Int) + 1)))], .le (.eq 5 (.row 88 o.length) (.row 88 ((o.set (o.length - 1) ({ kind := ((o.getD (o.length - 1) default)).kind, n := ((((o.getD (o.length - 1) default)).n) + (((d.getD i default)).n)) } : AxStep)).length)) (.of_eq (by simp only [List.length_set])))] [(88, 88)] (ih6 ((i + 1), (o.set (o.length - 1) ({ kind := ((o.getD (o.length - 1) default)).kind, n := ((((o.getD (o.length - 1) default)).n) + (((d.getD i default)).n)) } : AxStep))) ?_ ?_)
    ·
     exact ⟨by omega, hF, hN⟩
    ·
     ((try dsimp only); omega)
   ·
    (try simp only [decide_eq_true_eq, decide_eq_false_iff_not, Int.not_lt, Int.not_le, ge_iff_le, Bool.and_eq_true, Bool.and_eq_false_iff, Bool.not_eq_true', Bool.not_eq_false', beq_iff_eq, beq_eq_false_iff_ne, ne_eq] at h9)
    have hno : ¬ ((d.getD i default).kind = 0 ∧ 0 < o.length ∧ (o.getD (o.length - 1) default).kind = 0) := by rintro ⟨q1, q2, q3⟩; rcases h9 with (h9 | h9) | h9 <;> omega
    rw [if_neg hno] at hN hF
    refine .back [.r [(4, X (Xc0 (fc_size ((d.getD i default))) X0)), (7, X (rowC stepT [({ kind := ((d.getD i default)).kind, n := (szD ((d.getD i default))) } : AxStep)] (Xap 2 stepT 88 o [({ kind := ((d.getD i default)).kind, n := (szD ((d.getD i default))) } : AxStep)])))], .r [(0, X (Xn ((i : Int) + 1)))]] [(88, 88)] (ih6 ((i + 1), (o ++ [({ kind := ((d.getD i default)).kind, n := (szD ((d.getD i default))) } : AxStep)])) ?_ ?_)
    ·
     exact ⟨by omega, hF, hN⟩
    ·
     ((try dsimp only); omega)
  ·
   (try simp only [decide_eq_true_eq, decide_eq_false_iff_not, Int.not_lt, Int.not_le] at h6)
   have ho := I6.2.1
   rw [axF_end (by omega)] at ho
   have e1 : ((axD d) : List AxStep) = o := by
    rw [ho]
   exact .finE [.r [], .le (.fr 2 [(o.length : Nat) = (List.map stepT o).length] ⟨lm, trivial⟩)] [] (fun z0 => (.tup [VL 2 stepT z0, VI 0], [])) (o : List AxStep) ((axD d) : List AxStep) e1
end Go.Ch
end
section
set_option linter.unusedVariables false
set_option linter.unusedSimpArgs false
set_option maxRecDepth 100000
set_option maxHeartbeats 4000000
open Go Go.Proofs Go.Ab
namespace Go.Ch
structure Span where
  fr : Int
  to : Int
instance : Inhabited Span := ⟨⟨0, 0⟩⟩
def spanT (s : Span) : Tree := .agg [.sc (.int .i64 s.fr), .sc (.int .i64 s.to)]
def badS (s : Span) : Prop := s.fr < 0 ∨ s.to ≤ s.fr ∨ s.to > 2147483647
instance (s : Span) : Decidable (badS s) := by unfold badS; infer_instance
def chkS (l : List Span) (i : Nat) : Int :=
  if i < l.length then
    if badS (l.getD i default) then 2
    else if 0 < i ∧ (l.getD i default).fr ≤ (l.getD (i - 1) default).to then 5
    else chkS l (i + 1)
  else 0
termination_by l.length - i
def endS (l : List Span) (k : Nat) : Int := if k % 2 = 0 then (l.getD (k / 2) default).fr else (l.getD (k / 2) default).to
def addS (l : List Span) (s : Span) : List Span :=
  if 0 < l.length ∧ s.fr ≤ (l.getD (l.length - 1) default).to then l.set (l.length - 1) ⟨(l.getD (l.length - 1) default).fr, max (l.getD (l.length - 1) default).to s.to⟩ else l ++ [s]
def skipS (l : List Span) (i : Nat) (p : Int) : Nat := if i < 2 * l.length ∧ endS l i = p then skipS l (i + 1) p else i
termination_by 2 * l.length - i
def nextS (a b : List Span) (i j : Nat) : Int :=
  if j < 2 * b.length then min (if i < 2 * a.length then endS a i else 2147483648) (endS b j) else (if i < 2 * a.length then endS a i else 2147483648)
theorem skipS_ge (l : List Span) (p : Int) (i : Nat) : i ≤ skipS l i p := by
  induction i using skipS.induct (l := l) (p := p) with
  | case1 i h ih => rw [skipS, if_pos h]; omega
  | case2 i h => rw [skipS, if_neg h]; omega
theorem skipS_le (l : List Span) (p : Int) (i : Nat) (hi : i ≤ 2 * l.length) : skipS l i p ≤ 2 * l.length := by
  induction i using skipS.induct (l := l) (p := p) with
  | case1 i h ih => rw [skipS, if_pos h]; exact ih (by omega)
  | case2 i h => rw [skipS, if_neg h]; omega
theorem skipS_lt (l : List Span) (i : Nat) (h : i < 2 * l.length) : i < skipS l i (endS l i) := by
  rw [skipS, if_pos ⟨h, rfl⟩]
  exact skipS_ge _ _ _
theorem skip_prog (a b : List Span) (i j : Nat) (h : i < 2 * a.length ∨ j < 2 * b.length) (hb : ∀ k, k < 2 * b.length → endS b k ≤ 2147483648) : i < 2 * a.length ∧ i < skipS a i (nextS a b i j) ∨ j < 2 * b.length ∧ j < skipS b j (nextS a b i j) := by
  unfold nextS
  by_cases h1 : i < 2 * a.length <;> by_cases h2 : j < 2 * b.length <;> simp only [h1, h2, if_true, if_false, true_and, false_and, or_false, false_or]
  · by_cases h3 : endS a i ≤ endS b j
    · left; rw [Int.min_eq_left h3]; exact skipS_lt a i h1
    · right; rw [Int.min_eq_right (by omega)]; exact skipS_lt b j h2
  · exact skipS_lt a i h1
  · rw [Int.min_eq_right (hb j h2)]; exact skipS_lt b j h2
  · omega
def mergeS (w : Bool → Bool → Bool) (a b : List Span) (out : List Span) (p : Int) (i j : Nat) : List Span :=
  if h : (i < 2 * a.length ∨ j < 2 * b.length) ∧ (2 * a.length - skipS a i (nextS a b i j)) + (2 * b.length - skipS b j (nextS a b i j)) < (2 * a.length - i) + (2 * b.length - j) then
    mergeS w a b (if p < nextS a b i j ∧ w (decide (i % 2 = 1)) (decide (j % 2 = 1)) = true then addS out ⟨p, nextS a b i j⟩ else out) (nextS a b i j) (skipS a i (nextS a b i j)) (skipS b j (nextS a b i j))
  else out
termination_by (2 * a.length - i) + (2 * b.length - j)
decreasing_by exact h.2
theorem mergeS_step (w : Bool → Bool → Bool) (a b out : List Span) (p : Int) (i j : Nat) (h : i < 2 * a.length ∨ j < 2 * b.length) (hb : ∀ k, k < 2 * b.length → endS b k ≤ 2147483648) :
    mergeS w a b out p i j = mergeS w a b (if p < nextS a b i j ∧ w (decide (i % 2 = 1)) (decide (j % 2 = 1)) = true then addS out ⟨p, nextS a b i j⟩ else out) (nextS a b i j) (skipS a i (nextS a b i j)) (skipS b j (nextS a b i j)) := by
  rw [mergeS, dif_pos]
  have h1 := skip_prog a b i j h hb
  have h2 := skipS_ge a (nextS a b i j) i
  have h3 := skipS_ge b (nextS a b i j) j
  refine ⟨h, ?_⟩
  omega
theorem mergeS_end (w : Bool → Bool → Bool) (a b out : List Span) (p : Int) (i j : Nat) (h : ¬ (i < 2 * a.length ∨ j < 2 * b.length)) : mergeS w a b out p i j = out := by
  rw [mergeS, dif_neg (fun e => h e.1)]
theorem mod2 (i : Nat) : (((i : Int) % 2) == 1) = decide (i % 2 = 1) := by
  by_cases h : i % 2 = 1
  · rw [decide_eq_true h]; simp; omega
  · rw [decide_eq_false h]; simp; omega
theorem addS_len (l : List Span) (s : Span) : (addS l s).length ≤ l.length + 1 := by
  unfold addS; split <;> simp

theorem fcs_end (l : List Span) (k : Nat) (hk : k < 2 * l.length) (hk2 : k < 9223372036854775807) : FC Try.prog 148 [VL 2 spanT l, VI (k : Int)] (app emp []) (VI (endS l k)) (app emp []) := by
 refine .go Try.f148 ?_
 refine .len 0 (fun hl0 => ?_)
 refine .br [.r [], .r [(1, X (Xrem (k : Int) 2))]] (((k : Int) % 2) == 0) (fun h1 => ?_) (fun h1 => ?_)
 ·
  (try simp only [beq_iff_eq, beq_eq_false_iff_ne, ne_eq] at h1)
  have e1 : ((endS l k) : Int) = ((l.getD (k / 2) default)).fr := by
   unfold endS; split <;> first | rfl | omega
  exact .finE [.r [(2, X (Xquo (k : Int) 2)), (3, X (Xi spanT l ((k : Int) / 2)))]] [] (fun z0 => (VI z0, [])) (((l.getD (k / 2) default)).fr : Int) ((endS l k) : Int) e1
 ·
  (try simp only [beq_iff_eq, beq_eq_false_iff_ne, ne_eq] at h1)
  have e2 : ((endS l k) : Int) = ((l.getD (k / 2) default)).to := by
   unfold endS; split <;> first | rfl | omega
  exact .finE [.r [(2, X (Xquo (k : Int) 2)), (3, X (Xi spanT l ((k : Int) / 2)))]] [] (fun z0 => (VI z0, [])) (((l.getD (k / 2) default)).to : Int) ((endS l k) : Int) e2

theorem fcs_wminus (a b : Bool) : FC Try.prog 78 [VB a, VB b] (app emp []) (VB (a && !b)) (app emp []) := by
 refine .go Try.f78 ?_
 exact .fin [.r [], .r [(3, Xv 1 a X0), (4, X (Xk a))]] []

theorem fcs_check (l : List Span) : FC Try.prog 24 [VL 2 spanT l] (app emp []) (VI (chkS l 0)) (app emp []) := by
 refine .go Try.f24 ?_
 refine .len 0 (fun hl0 => ?_)
 refine .loop (α := Nat) [.r [], .r [(1, X (Xl spanT l))]] 32 (fun i => ([(0, VL 2 spanT l), (5, VL 2 spanT l), (6, VI (l.length : Int)), (7, VI (i : Int))], [])) (fun i => i ≤ l.length ∧ chkS l 0 = chkS l i) (fun i => l.length - i) (0 : Nat) ?_ ?_
 ·
  exact ⟨by omega, rfl⟩
 rintro i I2 ih2
 try dsimp only at I2
 refine .br [.r []] (decide ((i : Int) < (l.length : Int))) (fun h2 => ?_) (fun h2 => ?_)
 ·
  (try simp only [decide_eq_true_eq, decide_eq_false_iff_not, Int.not_lt, Int.not_le] at h2)
  refine .br [.r [(1, X (Xi spanT l (i : Int)))], .r [(5, Xv 1 (!(decide ((((l.getD i default)).fr) < 0))) X0), (7, Xv 1 (!(decide ((((l.getD i default)).fr) < 0))) X0), (8, Xv 2 (!(decide ((((l.getD i default)).fr) < 0))) X0), (9, X (Xk' (decide ((((l.getD i default)).fr) < 0)))), (12, Xv 1 (!(decide ((((l.getD i default)).fr) < 0) || decide ((((l.getD i default)).to) ≤ (((l.getD i default)).fr)))) X0), (13, Xv 1 (!(decide ((((l.getD i default)).fr) < 0) || decide ((((l.getD i default)).to) ≤ (((l.getD i default)).fr)))) X0), (14, X (Xk' (decide ((((l.getD i default)).fr) < 0) || decide ((((l.getD i default)).to) ≤ (((l.getD i default)).fr)))))]] ((decide ((((l.getD i default)).fr) < 0) || decide ((((l.getD i default)).to) ≤ (((l.getD i default)).fr))) || decide ((((l.getD i default)).to) > 2147483647)) (fun h4 => ?_) (fun h4 => ?_)
  ·
   (try simp only [decide_eq_true_eq, decide_eq_false_iff_not, Int.not_lt, Int.not_le, gt_iff_lt, Bool.or_eq_true, Bool.or_eq_false_iff] at h4)
   have e1 : ((chkS l 0) : Int) = 2 := by
    rw [I2.2, chkS.eq_def l i]; unfold badS; ((repeat' split) <;> first | rfl | omega | (simp_all; done) | (simp_all; omega))
   exact .finE [.r []] [] (fun z0 => (VI z0, [])) (2 : Int) ((chkS l 0) : Int) e1
  ·
   (try simp only [decide_eq_true_eq, decide_eq_false_iff_not, Int.not_lt, Int.not_le, gt_iff_lt, Bool.or_eq_true, Bool.or_eq_false_iff] at h4)
   refine .br [.r [(4, Xv 1 (decide ((i : Int) > 0)) X0), (7, Xv 1 (decide ((i : Int) > 0)) (Xn ((i : Int) - 1))), (8, Xv 2 (decide ((i : Int) > 0)) (Xi' spanT l ((i : Int) - 1) (i - 1))), (9, Xv 1 (decide ((i : Int) > 0)) X0), (10, Xv 1 (decide ((i : Int) > 0)) X0), (11, Xv 2 (decide ((i : Int) > 0)) X0), (12, X (Xk (decide ((i : Int) > 0))))]] (decide ((i : Int) > 0) && decide ((((l.getD i default)).fr) ≤ (((l.getD (i - 1) default)).to))) (fun h6 => ?_) (fun h6 => ?_)
   ·
    (try simp only [decide_eq_true_eq, decide_eq_false_iff_not, Int.not_lt, Int.not_le, gt_iff_lt, Bool.and_eq_true, Bool.and_eq_false_iff, Bool.not_eq_true', Bool.not_eq_false'] at h6)
    have e2 : ((chkS l 0) : Int) = 5 := by
     rw [I2.2, chkS.eq_def l i]; unfold badS; ((repeat' split) <;> first | rfl | omega | (simp_all; done) | (simp_all; omega))
    exact .finE [.r []] [] (fun z0 => (VI z0, [])) (5 : Int) ((chkS l 0) : Int) e2
   ·
    (try simp only [decide_eq_true_eq, decide_eq_false_iff_not, Int.not_lt, Int.not_le, gt_iff_lt, Bool.and_eq_true, Bool.and_eq_false_iff, Bool.not_eq_true', Bool.not_eq_false'] at h6)
    refine .back [.r [(0, X (Xn ((i : Int) + 1)))]] [] (ih2 ((i + 1) : Nat) ?_ ?_)
    ·
     refine ⟨by omega, ?_⟩; rw [I2.2, chkS.eq_def l i]; unfold badS; ((repeat' split) <;> first | rfl | omega | (simp_all; done) | (simp_all; omega))
    ·
     ((try dsimp only); omega)
 ·
  (try simp only [decide_eq_true_eq, decide_eq_false_iff_not, Int.not_lt, Int.not_le] at h2)
  have e3 : ((chkS l 0) : Int) = 0 := by
   rw [I2.2, chkS.eq_def l i]; unfold badS; ((repeat' split) <;> first | rfl | omega | (simp_all; done) | (simp_all; omega))
  exact .finE [.r []] [] (fun z0 => (VI z0, [])) (0 : Int) ((chkS l 0) : Int) e3

theorem fcs_add (l : List Span) (s : Span) (hn : l.length < 1099511627776) : FC Try.prog 121 [.row 0 l.length, .t (spanT s)] (app emp [(0, OR 2 spanT l)]) (.row 0 ((addS l s).length)) (app emp [(0, OR 2 spanT (addS l s))]) := by
 refine .go Try.f121 ?_
 refine .br [.r [], .r [(2, X (Xn ((l.length : Int) - 1)))], .r [(4, Xv 1 (decide (((l.length : Int) - 1) ≥ 0)) X0), (7, Xv 2 (decide (((l.length : Int) - 1) ≥ 0)) (Xp' spanT 0 l ((l.length : Int) - 1) (l.length - 1))), (8, Xv 1 (decide (((l.length : Int) - 1) ≥ 0)) X0), (9, Xv 1 (decide (((l.length : Int) - 1) ≥ 0)) (Xe spanT l (l.length - 1))), (10, Xv 2 (decide (((l.length : Int) - 1) ≥ 0)) X0), (11, X (Xk (decide (((l.length : Int) - 1) ≥ 0))))]] (decide (((l.length : Int) - 1) ≥ 0) && decide (s.fr ≤ (((l.getD (l.length - 1) default)).to))) (fun h2 => ?_) (fun h2 => ?_)
 ·
  (try simp only [decide_eq_true_eq, decide_eq_false_iff_not, Int.not_lt, Int.not_le, ge_iff_le, Bool.and_eq_true, Bool.and_eq_false_iff, Bool.not_eq_true', Bool.not_eq_false'] at h2)
  have e1 : ((addS l s) : List Span) = (l.set (l.length - 1) ({ fr := ((l.getD (l.length - 1) default)).fr, to := (max (((l.getD (l.length - 1) default)).to) s.to) } : Span)) := by
   unfold addS; ((repeat' split) <;> first | rfl | omega | (simp_all; done) | (simp_all; omega))
  have e2 : ((addS l s).length : Nat) = l.length := by
   unfold addS; ((repeat' split) <;> first | rfl | omega | (simp_all; done) | (simp_all; omega))
  exact .finE [.r [(4, X (Xp' spanT 0 l ((l.length : Int) - 1) (l.length - 1))), (6, X (Xe spanT l (l.length - 1))), (9, X (Xmax (((l.getD (l.length - 1) default)).to) s.to)), (10, X (Xp' spanT 0 l ((l.length : Int) - 1) (l.length - 1))), (12, X (Xs 2 spanT 0 l (l.length - 1) ({ fr := ((l.getD (l.length - 1) default)).fr, to := (max (((l.getD (l.length - 1) default)).to) s.to) } : Span)))], .r []] [(0, 0)] (fun (z0, z1) => (.row 0 z1, [(0, OR 2 spanT z0)])) (((l.set (l.length - 1) ({ fr := ((l.getD (l.length - 1) default)).fr, to := (max (((l.getD (l.length - 1) default)).to) s.to) } : Span)) : List Span), (l.length : Nat)) (((addS l s) : List Span), ((addS l s).length : Nat)) (pr e1 e2)
 ·
  (try simp only [decide_eq_true_eq, decide_eq_false_iff_not, Int.not_lt, Int.not_le, ge_iff_le, Bool.and_eq_true, Bool.and_eq_false_iff, Bool.not_eq_true', Bool.not_eq_false'] at h2)
  have e3 : ((addS l s) : List Span) = (l ++ [s]) := by
   unfold addS; ((repeat' split) <;> first | rfl | omega | (simp_all; done) | (simp_all; omega))
  have e4 : ((addS l s).length : Nat) = (l ++ [s]).length := by
   unfold addS; ((repeat' split) <;> first | rfl | omega | (simp_all; done) | (simp_all; omega))
  exact .finE [.r [(3, X (rowC spanT [s] (Xap 2 spanT 0 l [s])))]] [(0, 0)] (fun (z0, z1) => (.row 0 z1, [(0, OR 2 spanT z0)])) (((l ++ [s]) : List Span), ((l ++ [s]).length : Nat)) (((addS l s) : List Span), ((addS l s).length : Nat)) (pr e3 e4)

theorem chkS_spec (l : List Span) (i : Nat) (h : chkS l i = 0) : ∀ k, i ≤ k → k < l.length → 0 ≤ (l.getD k default).fr ∧ (l.getD k default).fr < (l.getD k default).to ∧ (l.getD k default).to ≤ 2147483647 ∧ (0 < k → (l.getD (k - 1) default).to < (l.getD k default).fr) := by
  induction i using chkS.induct (l := l) with
  | case1 i hi hb => rw [chkS, if_pos hi, if_pos hb] at h; omega
  | case2 i hi hb hc => rw [chkS, if_pos hi, if_neg hb, if_pos hc] at h; omega
  | case3 i hi hb hc ih =>
    rw [chkS, if_pos hi, if_neg hb, if_neg hc] at h
    intro k hk hkl
    by_cases e : k = i
    · subst e
      unfold badS at hb
      refine ⟨by omega, by omega, by omega, fun h0 => ?_⟩
      have : ¬ ((l.getD k default).fr ≤ (l.getD (k - 1) default).to) := fun hh => hc ⟨h0, hh⟩
      omega
    · exact ih h k (by omega) hkl
  | case4 i hi => intro k hk hkl; omega
theorem chk_end {l : List Span} (h : chkS l 0 = 0) : ∀ k, k < 2 * l.length → endS l k ≤ 2147483647 := by
  intro k hk
  have := chkS_spec l 0 h (k / 2) (by omega) (by omega)
  unfold endS
  split <;> omega
theorem chk_far {l : List Span} (h : chkS l 0 = 0) : ∀ k, k < l.length → (k : Int) < (l.getD k default).to := by
  intro k
  induction k with
  | zero => intro hk; have := chkS_spec l 0 h 0 (by omega) hk; omega
  | succ k ih =>
    intro hk
    have h1 := ih (by omega)
    have h2 := chkS_spec l 0 h (k + 1) (by omega) hk
    have h3 := h2.2.2.2 (by omega)
    simp only [Nat.add_sub_cancel] at h3
    omega
theorem chk_len {l : List Span} (h : chkS l 0 = 0) : l.length ≤ 2147483648 := by
  by_cases h0 : l.length = 0
  · omega
  · have h1 := chk_far h (l.length - 1) (by omega)
    have h2 := chkS_spec l 0 h (l.length - 1) (by omega) (by omega)
    omega
def twoS (w : Bool → Bool → Bool) (a b : List Span) : List Span := if chkS a 0 = 0 ∧ chkS b 0 = 0 then mergeS w a b [] 0 0 0 else []
def errS (a b : List Span) : Int := if chkS a 0 ≠ 0 then chkS a 0 else chkS b 0

theorem fcs_merged (f : FuncId) (w : Bool → Bool → Bool) (hfc : callable Try.prog f = true) (hf : ∀ x y : Bool, FC Try.prog f [.t (.sc (.bool x)), .t (.sc (.bool y))] (app emp []) (.t (.sc (.bool (w x y)))) (app emp []))
    (a b : List Span) (ha : a.length ≤ 2147483648) (hlb : b.length ≤ 2147483648) (hb : ∀ k, k < 2 * b.length → endS b k ≤ 2147483648) : FC Try.prog 126 [VL 2 spanT a, VL 2 spanT b, .fn f []] (app emp []) (.row 0 ((mergeS w a b [] 0 0 0).length)) (app emp [(0, OR 2 spanT (mergeS w a b [] 0 0 0))]) := by
 refine .go Try.f126 ?_
 refine .len 0 (fun hl0 => ?_)
 refine .len 1 (fun hl1 => ?_)
 refine .loop (α := Int × Nat × Nat × (List Span)) [.r [], .r [], .r [], .le (.nR 7 2)] 41 (fun (p, i, j, out) => ([(0, VL 2 spanT a), (1, VL 2 spanT b), (2, .fn f []), (7, .row 40 out.length), (8, VI p), (9, VI (i : Int)), (10, VI (j : Int))], [(40, OR 2 spanT out)])) (fun (p, i, j, out) => i ≤ 2 * a.length ∧ j ≤ 2 * b.length ∧ out.length ≤ i + j ∧ mergeS w a b [] 0 0 0 = mergeS w a b out p i j) (fun (p, i, j, out) => (2 * a.length - i) + (2 * b.length - j)) (0, 0, 0, []) ?_ ?_
 ·
  exact ⟨by omega, by omega, by simp, rfl⟩
 rintro ⟨p, i, j, out⟩ I3 ih3
 try dsimp only at I3
 refine .br [.r [(2, X (Xl spanT a)), (3, X (Xn (2 * (a.length : Int)))), (8, Xv 1 (!(decide ((i : Int) < (2 * (a.length : Int))))) (Xl spanT b)), (9, Xv 1 (!(decide ((i : Int) < (2 * (a.length : Int))))) (Xn (2 * (b.length : Int)))), (10, Xv 2 (!(decide ((i : Int) < (2 * (a.length : Int))))) X0), (11, X (Xk' (decide ((i : Int) < (2 * (a.length : Int))))))]] (decide ((i : Int) < (2 * (a.length : Int))) || decide ((j : Int) < (2 * (b.length : Int)))) (fun h3 => ?_) (fun h3 => ?_)
 ·
  (try simp only [decide_eq_true_eq, decide_eq_false_iff_not, Int.not_lt, Int.not_le, Bool.or_eq_true, Bool.or_eq_false_iff] at h3)
  refine .br [.r [], .r [(2, X (Xl spanT a)), (3, X (Xn (2 * (a.length : Int))))]] (decide ((i : Int) < (2 * (a.length : Int)))) (fun h5 => ?_) (fun h5 => ?_)
  ·
   (try simp only [decide_eq_true_eq, decide_eq_false_iff_not, Int.not_lt, Int.not_le] at h5)
   refine .br [.r [(2, X (Xc0 (fcs_end a i (by first | omega | (have := hg; omega)) (by first | omega | (have := hg; omega))) X0))], .r [(2, X (Xl spanT b)), (3, X (Xn (2 * (b.length : Int))))]] (decide ((j : Int) < (2 * (b.length : Int)))) (fun h7 => ?_) (fun h7 => ?_)
   ·
    (try simp only [decide_eq_true_eq, decide_eq_false_iff_not, Int.not_lt, Int.not_le] at h7)
    refine .br [.r [(3, X (Xc0 (fcs_end b j (by first | omega | (have := hg; omega)) (by first | omega | (have := hg; omega))) X0)), (4, X (Xmin (endS a i) (endS b j)))], .r [(6, Xv 1 (decide (p < (min (endS a i) (endS b j)))) (Xrem (i : Int) 2)), (7, Xv 1 (decide (p < (min (endS a i) (endS b j)))) X0), (9, Xv 1 (decide (p < (min (endS a i) (endS b j)))) (Xrem (j : Int) 2)), (10, Xv 1 (decide (p < (min (endS a i) (endS b j)))) X0), (11, Xv 3 (decide (p < (min (endS a i) (endS b j)))) (Xc0 (hf (((i : Int) % 2) == 1) (((j : Int) % 2) == 1)) X0 (hc := hfc))), (12, X (Xk (decide (p < (min (endS a i) (endS b j))))))]] (decide (p < (min (endS a i) (endS b j))) && (w (((i : Int) % 2) == 1) (((j : Int) % 2) == 1))) (fun h9 => ?_) (fun h9 => ?_)
    ·
     (try simp only [decide_eq_true_eq, decide_eq_false_iff_not, Int.not_lt, Int.not_le, Bool.and_eq_true, Bool.and_eq_false_iff, Bool.not_eq_true', Bool.not_eq_false', beq_iff_eq, beq_eq_false_iff_ne, ne_eq] at h9)
     refine .loop (α := Nat) [.r [(4, X (Xc3 441 [(0, 40)] (fcs_add out ({ fr := p, to := (min (endS a i) (endS b j)) } : Span) (by (first | omega | with_reducible exact fun h => h | (intro hq; rw [hq]; done) | (intro hq; rw [hq]; rfl) | (simp only [List.length_map]; done) | (simp only [List.length_map]; omega) | (simp; omega) | (simp; done)))) X0))], .r []] 473 (fun i1 => ([(0, VL 2 spanT a), (1, VL 2 spanT b), (2, .fn f []), (7, .row 40 ((addS out ({ fr := p, to := (min (endS a i) (endS b j)) } : Span)).length)), (8, VI (min (endS a i) (endS b j))), (9, VI (i1 : Int)), (10, VI (j : Int))], [(40, OR 2 spanT (addS out ({ fr := p, to := (min (endS a i) (endS b j)) } : Span)))])) (fun i1 => i ≤ i1 ∧ i1 ≤ 2 * a.length ∧ skipS a i (min (endS a i) (endS b j)) = skipS a i1 (min (endS a i) (endS b j))) (fun i1 => 2 * a.length - i1) (i : Nat) ?_ ?_
     ·
      exact ⟨by omega, by omega, rfl⟩
     rintro i1 I12 ih12
     try dsimp only at I12
     refine .br [.r [(2, X (Xl spanT a)), (3, X (Xn (2 * (a.length : Int)))), (8, Xv 2 (decide ((i1 : Int) < (2 * (a.length : Int)))) (Xc0g (e := (decide ((i1 : Int) < (2 * (a.length : Int))))) (fun hg => by (try simp only [decide_eq_true_eq, decide_eq_false_iff_not, Int.not_lt, Int.not_le] at hg); exact (fcs_end a i1 (by first | omega | (have := hg; omega)) (by first | omega | (have := hg; omega)))) X0) (fun hg => ⟨hg, by and_intros <;> exact True.intro⟩)), (10, Xv 2 (decide ((i1 : Int) < (2 * (a.length : Int)))) X0), (11, X (Xk (decide ((i1 : Int) < (2 * (a.length : Int))))))]] (decide ((i1 : Int) < (2 * (a.length : Int))) && ((endS a i1) == (min (endS a i) (endS b j)))) (fun h12 => ?_) (fun h12 => ?_)
     ·
      (try simp only [decide_eq_true_eq, decide_eq_false_iff_not, Int.not_lt, Int.not_le, Bool.and_eq_true, Bool.and_eq_false_iff, Bool.not_eq_true', Bool.not_eq_false', beq_iff_eq, beq_eq_false_iff_ne, ne_eq] at h12)
      refine .back [.r [(1, X (Xn ((i1 : Int) + 1)))]] [(40, 40)] (ih12 ((i1 + 1) : Nat) ?_ ?_)
      ·
       refine ⟨by omega, by omega, ?_⟩; rw [I12.2.2, skipS.eq_def a i1, if_pos (by omega)]
      ·
       ((try dsimp only); omega)
     ·
      (try simp only [decide_eq_true_eq, decide_eq_false_iff_not, Int.not_lt, Int.not_le, Bool.and_eq_true, Bool.and_eq_false_iff, Bool.not_eq_true', Bool.not_eq_false', beq_iff_eq, beq_eq_false_iff_ne, ne_eq] at h12)
      refine .loop (α := Nat) [] 569 (fun j1 => ([(0, VL 2 spanT a), (1, VL 2 spanT b), (2, .fn f []), (7, .row 40 ((addS out ({ fr := p, to := (min (endS a i) (endS b j)) } : Span)).length)), (8, VI (min (endS a i) (endS b j))), (9, VI (i1 : Int)), (10, VI (j1 : Int))], [(40, OR 2 spanT (addS out ({ fr := p, to := (min (endS a i) (endS b j)) } : Span)))])) (fun j1 => j ≤ j1 ∧ j1 ≤ 2 * b.length ∧ skipS b j (min (endS a i) (endS b j)) = skipS b j1 (min (endS a i) (endS b j))) (fun j1 => 2 * b.length - j1) (j : Nat) ?_ ?_
      ·
       exact ⟨by omega, by omega, rfl⟩
      rintro j1 I14 ih14
      try dsimp only at I14
      refine .br [.r [(2, X (Xl spanT b)), (3, X (Xn (2 * (b.length : Int)))), (8, Xv 2 (decide ((j1 : Int) < (2 * (b.length : Int)))) (Xc0g (e := (decide ((j1 : Int) < (2 * (b.length : Int))))) (fun hg => by (try simp only [decide_eq_true_eq, decide_eq_false_iff_not, Int.not_lt, Int.not_le] at hg); exact (fcs_end b j1 (by first | omega | (have := hg; omega)) (by first | omega | (have := hg; omega)))) X0) (fun hg => ⟨hg, by and_intros <;> exact True.intro⟩)), (10, Xv 2 (decide ((j1 : Int) < (2 * (b.length : Int)))) X0), (11, X (Xk (decide ((j1 : Int) < (2 * (b.length : Int))))))]] (decide ((j1 : Int) < (2 * (b.length : Int))) && ((endS b j1) == (min (endS a i) (endS b j)))) (fun h14 => ?_) (fun h14 => ?_)
      ·
       (try simp only [decide_eq_true_eq, decide_eq_false_iff_not, Int.not_lt, Int.not_le, Bool.and_eq_true, Bool.and_eq_false_iff, Bool.not_eq_true', Bool.not_eq_false', beq_iff_eq, beq_eq_false_iff_ne, ne_eq] at h14)
       refine .back [.r [(1, X (Xn ((j1 : Int) + 1)))]] [(40, 40)] (ih14 ((j1 + 1) : Nat) ?_ ?_)
       ·
        refine ⟨by omega, by omega, ?_⟩; rw [I14.2.2, skipS.eq_def b j1, if_pos (by omega)]
       ·
        ((try dsimp only); omega)
      ·
       (try simp only [decide_eq_true_eq, decide_eq_false_iff_not, Int.not_lt, Int.not_le, Bool.and_eq_true, Bool.and_eq_false_iff, Bool.not_eq_true', Bool.not_eq_false', beq_iff_eq, beq_eq_false_iff_ne, ne_eq] at h14)
       have hn : nextS a b i j = (min (endS a i) (endS b j)) := by unfold nextS; ((repeat' split) <;> first | rfl | omega | (simp_all; done) | (simp_all; omega))
       have hi : skipS a i1 (min (endS a i) (endS b j)) = i1 := by rw [skipS.eq_def, if_neg (by omega)]
       have hj : skipS b j1 (min (endS a i) (endS b j)) = j1 := by rw [skipS.eq_def, if_neg (by omega)]
       have hp := skip_prog a b i j (by omega) hb
       have hs := mergeS_step w a b out p i j (by omega) hb
       rw [hn, I12.2.2, hi, I14.2.2, hj] at hs hp
       simp only [mod2] at h9
       have hl := addS_len out ⟨p, (min (endS a i) (endS b j))⟩
       refine .back [] [(40, 40)] (ih3 ((min (endS a i) (endS b j)), i1, j1, (addS out ({ fr := p, to := (min (endS a i) (endS b j)) } : Span))) ?_ ?_)
       ·
        refine ⟨by omega, by omega, by omega, ?_⟩
        rw [I3.2.2.2, hs]
        first | rw [if_pos h9] | rw [if_neg (fun hh => by rcases h9 with h9 | h9; omega; exact absurd hh.2 (by rw [h9]; decide))]
       ·
        ((try dsimp only); omega)
    ·
     (try simp only [decide_eq_true_eq, decide_eq_false_iff_not, Int.not_lt, Int.not_le, Bool.and_eq_true, Bool.and_eq_false_iff, Bool.not_eq_true', Bool.not_eq_false', beq_iff_eq, beq_eq_false_iff_ne, ne_eq] at h9)
     refine .loop (α := Nat) [.r []] 425 (fun i1 => ([(0, VL 2 spanT a), (1, VL 2 spanT b), (2, .fn f []), (7, .row 40 out.length), (8, VI (min (endS a i) (endS b j))), (9, VI (i1 : Int)), (10, VI (j : Int))], [(40, OR 2 spanT out)])) (fun i1 => i ≤ i1 ∧ i1 ≤ 2 * a.length ∧ skipS a i (min (endS a i) (endS b j)) = skipS a i1 (min (endS a i) (endS b j))) (fun i1 => 2 * a.length - i1) (i : Nat) ?_ ?_
     ·
      exact ⟨by omega, by omega, rfl⟩
     rintro i1 I12 ih12
     try dsimp only at I12
     refine .br [.r [(2, X (Xl spanT a)), (3, X (Xn (2 * (a.length : Int)))), (8, Xv 2 (decide ((i1 : Int) < (2 * (a.length : Int)))) (Xc0g (e := (decide ((i1 : Int) < (2 * (a.length : Int))))) (fun hg => by (try simp only [decide_eq_true_eq, decide_eq_false_iff_not, Int.not_lt, Int.not_le] at hg); exact (fcs_end a i1 (by first | omega | (have := hg; omega)) (by first | omega | (have := hg; omega)))) X0) (fun hg => ⟨hg, by and_intros <;> exact True.intro⟩)), (10, Xv 2 (decide ((i1 : Int) < (2 * (a.length : Int)))) X0), (11, X (Xk (decide ((i1 : Int) < (2 * (a.length : Int))))))]] (decide ((i1 : Int) < (2 * (a.length : Int))) && ((endS a i1) == (min (endS a i) (endS b j)))) (fun h12 => ?_) (fun h12 => ?_)
     ·
      (try simp only [decide_eq_true_eq, decide_eq_false_iff_not, Int.not_lt, Int.not_le, Bool.and_eq_true, Bool.and_eq_false_iff, Bool.not_eq_true', Bool.not_eq_false', beq_iff_eq, beq_eq_false_iff_ne, ne_eq] at h12)
      refine .back [.r [(1, X (Xn ((i1 : Int) + 1)))]] [(40, 40)] (ih12 ((i1 + 1) : Nat) ?_ ?_)
      ·
       refine ⟨by omega, by omega, ?_⟩; rw [I12.2.2, skipS.eq_def a i1, if_pos (by omega)]
      ·
       ((try dsimp only); omega)
     ·
      (try simp only [decide_eq_true_eq, decide_eq_false_iff_not, Int.not_lt, Int.not_le, Bool.and_eq_true, Bool.and_eq_false_iff, Bool.not_eq_true', Bool.not_eq_false', beq_iff_eq, beq_eq_false_iff_ne, ne_eq] at h12)
      refine .loop (α := Nat) [] 521 (fun j1 => ([(0, VL 2 spanT a), (1, VL 2 spanT b), (2, .fn f []), (7, .row 40 out.length), (8, VI (min (endS a i) (endS b j))), (9, VI (i1 : Int)), (10, VI (j1 : Int))], [(40, OR 2 spanT out)])) (fun j1 => j ≤ j1 ∧ j1 ≤ 2 * b.length ∧ skipS b j (min (endS a i) (endS b j)) = skipS b j1 (min (endS a i) (endS b j))) (fun j1 => 2 * b.length - j1) (j : Nat) ?_ ?_
      ·
       exact ⟨by omega, by omega, rfl⟩
      rintro j1 I14 ih14
      try dsimp only at I14
      refine .br [.r [(2, X (Xl spanT b)), (3, X (Xn (2 * (b.length : Int)))), (8, Xv 2 (decide ((j1 : Int) < (2 * (b.length : Int)))) (Xc0g (e := (decide ((j1 : Int) < (2 * (b.length : Int))))) (fun hg => by (try simp only [decide_eq_true_eq, decide_eq_false_iff_not, Int.not_lt, Int.not_le] at hg); exact (fcs_end b j1 (by first | omega | (have := hg; omega)) (by first | omega | (have := hg; omega)))) X0) (fun hg => ⟨hg, by and_intros <;> exact True.intro⟩)), (10, Xv 2 (decide ((j1 : Int) < (2 * (b.length : Int)))) X0), (11, X (Xk (decide ((j1 : Int) < (2 * (b.length : Int))))))]] (decide ((j1 : Int) < (2 * (b.length : Int))) && ((endS b j1) == (min (endS a i) (endS b j)))) (fun h14 => ?_) (fun h14 => ?_)
      ·
       (try simp only [decide_eq_true_eq, decide_eq_false_iff_not, Int.not_lt, Int.not_le, Bool.and_eq_true, Bool.and_eq_false_iff, Bool.not_eq_true', Bool.not_eq_false', beq_iff_eq, beq_eq_false_iff_ne, ne_eq] at h14)
       refine .back [.r [(1, X (Xn ((j1 : Int) + 1)))]] [(40, 40)] (ih14 ((j1 + 1) : Nat) ?_ ?_)
       ·
        refine ⟨by omega, by omega, ?_⟩; rw [I14.2.2, skipS.eq_def b j1, if_pos (by omega)]
       ·
        ((try dsimp only); omega)
      ·
       (try simp only [decide_eq_true_eq, decide_eq_false_iff_not, Int.not_lt, Int.not_le, Bool.and_eq_true, Bool.and_eq_false_iff, Bool.not_eq_true', Bool.not_eq_false', beq_iff_eq, beq_eq_false_iff_ne, ne_eq] at h14)
       have hn : nextS a b i j = (min (endS a i) (endS b j)) := by unfold nextS; ((repeat' split) <;> first | rfl | omega | (simp_all; done) | (simp_all; omega))
       have hi : skipS a i1 (min (endS a i) (endS b j)) = i1 := by rw [skipS.eq_def, if_neg (by omega)]
       have hj : skipS b j1 (min (endS a i) (endS b j)) = j1 := by rw [skipS.eq_def, if_neg (by omega)]
       have hp := skip_prog a b i j (by omega) hb
       have hs := mergeS_step w a b out p i j (by omega) hb
       rw [hn, I12.2.2, hi, I14.2.2, hj] at hs hp
       simp only [mod2] at h9
       have hl := addS_len out ⟨p, (min (endS a i) (endS b j))⟩
       refine .back [] [(40, 40)] (ih3 ((min (endS a i) (endS b j)), i1, j1, out) ?_ ?_)
       ·
        refine ⟨by omega, by omega, by omega, ?_⟩
        rw [I3.2.2.2, hs]
        first | rw [if_pos h9] | rw [if_neg (fun hh => by rcases h9 with h9 | h9; omega; exact absurd hh.2 (by rw [h9]; decide))]
       ·
        ((try dsimp only); omega)
   ·
    (try simp only [decide_eq_true_eq, decide_eq_false_iff_not, Int.not_lt, Int.not_le] at h7)
    refine .br [.r [(6, Xv 1 (decide (p < (endS a i))) (Xrem (i : Int) 2)), (7, Xv 1 (decide (p < (endS a i))) X0), (9, Xv 1 (decide (p < (endS a i))) (Xrem (j : Int) 2)), (10, Xv 1 (decide (p < (endS a i))) X0), (11, Xv 3 (decide (p < (endS a i))) (Xc0 (hf (((i : Int) % 2) == 1) (((j : Int) % 2) == 1)) X0 (hc := hfc))), (12, X (Xk (decide (p < (endS a i)))))]] (decide (p < (endS a i)) && (w (((i : Int) % 2) == 1) (((j : Int) % 2) == 1))) (fun h9 => ?_) (fun h9 => ?_)
    ·
     (try simp only [decide_eq_true_eq, decide_eq_false_iff_not, Int.not_lt, Int.not_le, Bool.and_eq_true, Bool.and_eq_false_iff, Bool.not_eq_true', Bool.not_eq_false', beq_iff_eq, beq_eq_false_iff_ne, ne_eq] at h9)
     refine .loop (α := Nat) [.r [(4, X (Xc3 393 [(0, 40)] (fcs_add out ({ fr := p, to := (endS a i) } : Span) (by (first | omega | with_reducible exact fun h => h | (intro hq; rw [hq]; done) | (intro hq; rw [hq]; rfl) | (simp only [List.length_map]; done) | (simp only [List.length_map]; omega) | (simp; omega) | (simp; done)))) X0))], .r []] 425 (fun i1 => ([(0, VL 2 spanT a), (1, VL 2 spanT b), (2, .fn f []), (7, .row 40 ((addS out ({ fr := p, to := (endS a i) } : Span)).length)), (8, VI (endS a i)), (9, VI (i1 : Int)), (10, VI (j : Int))], [(40, OR 2 spanT (addS out ({ fr := p, to := (endS a i) } : Span)))])) (fun i1 => i ≤ i1 ∧ i1 ≤ 2 * a.length ∧ skipS a i (endS a i) = skipS a i1 (endS a i)) (fun i1 => 2 * a.length - i1) (i : Nat) ?_ ?_
     ·
      exact ⟨by omega, by omega, rfl⟩
     rintro i1 I12 ih12
     try dsimp only at I12
     refine .br [.r [(2, X (Xl spanT a)), (3, X (Xn (2 * (a.length : Int)))), (8, Xv 2 (decide ((i1 : Int) < (2 * (a.length : Int)))) (Xc0g (e := (decide ((i1 : Int) < (2 * (a.length : Int))))) (fun hg => by (try simp only [decide_eq_true_eq, decide_eq_false_iff_not, Int.not_lt, Int.not_le] at hg); exact (fcs_end a i1 (by first | omega | (have := hg; omega)) (by first | omega | (have := hg; omega)))) X0) (fun hg => ⟨hg, by and_intros <;> exact True.intro⟩)), (10, Xv 2 (decide ((i1 : Int) < (2 * (a.length : Int)))) X0), (11, X (Xk (decide ((i1 : Int) < (2 * (a.length : Int))))))]] (decide ((i1 : Int) < (2 * (a.length : Int))) && ((endS a i1) == (endS a i))) (fun h12 => ?_) (fun h12 => ?_)
     ·
      (try simp only [decide_eq_true_eq, decide_eq_false_iff_not, Int.not_lt, Int.not_le, Bool.and_eq_true, Bool.and_eq_false_iff, Bool.not_eq_true', Bool.not_eq_false', beq_iff_eq, beq_eq_false_iff_ne, ne_eq] at h12)
      refine .back [.r [(1, X (Xn ((i1 : Int) + 1)))]] [(40, 40)] (ih12 ((i1 + 1) : Nat) ?_ ?_)
      ·
       refine ⟨by omega, by omega, ?_⟩; rw [I12.2.2, skipS.eq_def a i1, if_pos (by omega)]
      ·
       ((try dsimp only); omega)
     ·
      (try simp only [decide_eq_true_eq, decide_eq_false_iff_not, Int.not_lt, Int.not_le, Bool.and_eq_true, Bool.and_eq_false_iff, Bool.not_eq_true', Bool.not_eq_false', beq_iff_eq, beq_eq_false_iff_ne, ne_eq] at h12)
      refine .loop (α := Nat) [] 521 (fun j1 => ([(0, VL 2 spanT a), (1, VL 2 spanT b), (2, .fn f []), (7, .row 40 ((addS out ({ fr := p, to := (endS a i) } : Span)).length)), (8, VI (endS a i)), (9, VI (i1 : Int)), (10, VI (j1 : Int))], [(40, OR 2 spanT (addS out ({ fr := p, to := (endS a i) } : Span)))])) (fun j1 => j ≤ j1 ∧ j1 ≤ 2 * b.length ∧ skipS b j (endS a i) = skipS b j1 (endS a i)) (fun j1 => 2 * b.length - j1) (j : Nat) ?_ ?_
      ·
       exact ⟨by omega, by omega, rfl⟩
      rintro j1 I14 ih14
      try dsimp only at I14
      refine .br [.r [(2, X (Xl spanT b)), (3, X (Xn (2 * (b.length : Int)))), (8, Xv 2 (decide ((j1 : Int) < (2 * (b.length : Int)))) (Xc0g (e := (decide ((j1 : Int) < (2 * (b.length : Int))))) (fun hg => by (try simp only [decide_eq_true_eq, decide_eq_false_iff_not, Int.not_lt, Int.not_le] at hg); exact (fcs_end b j1 (by first | omega | (have := hg; omega)) (by first | omega | (have := hg; omega)))) X0) (fun hg => ⟨hg, by and_intros <;> exact True.intro⟩)), (10, Xv 2 (decide ((j1 : Int) < (2 * (b.length : Int)))) X0), (11, X (Xk (decide ((j1 : Int) < (2 * (b.length : Int))))))]] (decide ((j1 : Int) < (2 * (b.length : Int))) && ((endS b j1) == (endS a i))) (fun h14 => ?_) (fun h14 => ?_)
      ·
       (try simp only [decide_eq_true_eq, decide_eq_false_iff_not, Int.not_lt, Int.not_le, Bool.and_eq_true, Bool.and_eq_false_iff, Bool.not_eq_true', Bool.not_eq_false', beq_iff_eq, beq_eq_false_iff_ne, ne_eq] at h14)
       refine .back [.r [(1, X (Xn ((j1 : Int) + 1)))]] [(40, 40)] (ih14 ((j1 + 1) : Nat) ?_ ?_)
       ·
        refine ⟨by omega, by omega, ?_⟩; rw [I14.2.2, skipS.eq_def b j1, if_pos (by omega)]
       ·
        ((try dsimp only); omega)
      ·
       (try simp only [decide_eq_true_eq, decide_eq_false_iff_not, Int.not_lt, Int.not_le, Bool.and_eq_true, Bool.and_eq_false_iff, Bool.not_eq_true', Bool.not_eq_false', beq_iff_eq, beq_eq_false_iff_ne, ne_eq] at h14)
       have hn : nextS a b i j = (endS a i) := by unfold nextS; ((repeat' split) <;> first | rfl | omega | (simp_all; done) | (simp_all; omega))
       have hi : skipS a i1 (endS a i) = i1 := by rw [skipS.eq_def, if_neg (by omega)]
       have hj : skipS b j1 (endS a i) = j1 := by rw [skipS.eq_def, if_neg (by omega)]
       have hp := skip_prog a b i j (by omega) hb
       have hs := mergeS_step w a b out p i j (by omega) hb
       rw [hn, I12.2.2, hi, I14.2.2, hj] at hs hp
       simp only [mod2] at h9
       have hl := addS_len out ⟨p, (endS a i)⟩
       refine .back [] [(40, 40)] (ih3 ((endS a i), i1, j1, (addS out ({ fr := p, to := (endS a i) } : Span))) ?_ ?_)
       ·
        refine ⟨by omega, by omega, by omega, ?_⟩
        rw [I3.2.2.2, hs]
        first | rw [if_pos h9] | rw [if_neg (fun hh => by rcases h9 with h9 | h9; omega; exact absurd hh.2 (by rw [h9]; decide))]
       ·
        ((try dsimp only); omega)
    ·
     (try simp only [decide_eq_true_eq, decide_eq_false_iff_not, Int.not_lt, Int.not_le, Bool.and_eq_true, Bool.and_eq_false_iff, Bool.not_eq_true', Bool.not_eq_false', beq_iff_eq, beq_eq_false_iff_ne, ne_eq] at h9)
     refine .loop (α := Nat) [.r []] 377 (fun i1 => ([(0, VL 2 spanT a), (1, VL 2 spanT b), (2, .fn f []), (7, .row 40 out.length), (8, VI (endS a i)), (9, VI (i1 : Int)), (10, VI (j : Int))], [(40, OR 2 spanT out)])) (fun i1 => i ≤ i1 ∧ i1 ≤ 2 * a.length ∧ skipS a i (endS a i) = skipS a i1 (endS a i)) (fun i1 => 2 * a.length - i1) (i : Nat) ?_ ?_
     ·
      exact ⟨by omega, by omega, rfl⟩
     rintro i1 I12 ih12
     try dsimp only at I12
     refine .br [.r [(2, X (Xl spanT a)), (3, X (Xn (2 * (a.length : Int)))), (8, Xv 2 (decide ((i1 : Int) < (2 * (a.length : Int)))) (Xc0g (e := (decide ((i1 : Int) < (2 * (a.length : Int))))) (fun hg => by (try simp only [decide_eq_true_eq, decide_eq_false_iff_not, Int.not_lt, Int.not_le] at hg); exact (fcs_end a i1 (by first | omega | (have := hg; omega)) (by first | omega | (have := hg; omega)))) X0) (fun hg => ⟨hg, by and_intros <;> exact True.intro⟩)), (10, Xv 2 (decide ((i1 : Int) < (2 * (a.length : Int)))) X0), (11, X (Xk (decide ((i1 : Int) < (2 * (a.length : Int))))))]] (decide ((i1 : Int) < (2 * (a.length : Int))) && ((endS a i1) == (endS a i))) (fun h12 => ?_) (fun h12 => ?_)
     ·
      (try simp only [decide_eq_true_eq, decide_eq_false_iff_not, Int.not_lt, Int.not_le, Bool.and_eq_true, Bool.and_eq_false_iff, Bool.not_eq_true', Bool.not_eq_false', beq_iff_eq, beq_eq_false_iff_ne, ne_eq] at h12)
      refine .back [.r [(1, X (Xn ((i1 : Int) + 1)))]] [(40, 40)] (ih12 ((i1 + 1) : Nat) ?_ ?_)
      ·
       refine ⟨by omega, by omega, ?_⟩; rw [I12.2.2, skipS.eq_def a i1, if_pos (by omega)]
      ·
       ((try dsimp only); omega)
     ·
      (try simp only [decide_eq_true_eq, decide_eq_false_iff_not, Int.not_lt, Int.not_le, Bool.and_eq_true, Bool.and_eq_false_iff, Bool.not_eq_true', Bool.not_eq_false', beq_iff_eq, beq_eq_false_iff_ne, ne_eq] at h12)
      refine .loop (α := Nat) [] 473 (fun j1 => ([(0, VL 2 spanT a), (1, VL 2 spanT b), (2, .fn f []), (7, .row 40 out.length), (8, VI (endS a i)), (9, VI (i1 : Int)), (10, VI (j1 : Int))], [(40, OR 2 spanT out)])) (fun j1 => j ≤ j1 ∧ j1 ≤ 2 * b.length ∧ skipS b j (endS a i) = skipS b j1 (endS a i)) (fun j1 => 2 * b.length - j1) (j : Nat) ?_ ?_
      ·
       exact ⟨by omega, by omega, rfl⟩
      rintro j1 I14 ih14
      try dsimp only at I14
      refine .br [.r [(2, X (Xl spanT b)), (3, X (Xn (2 * (b.length : Int)))), (8, Xv 2 (decide ((j1 : Int) < (2 * (b.length : Int)))) (Xc0g (e := (decide ((j1 : Int) < (2 * (b.length : Int))))) (fun hg => by (try simp only [decide_eq_true_eq, decide_eq_false_iff_not, Int.not_lt, Int.not_le] at hg); exact (fcs_end b j1 (by first | omega | (have := hg; omega)) (by first | omega | (have := hg; omega)))) X0) (fun hg => ⟨hg, by and_intros <;> exact True.intro⟩)), (10, Xv 2 (decide ((j1 : Int) < (2 * (b.length : Int)))) X0), (11, X (Xk (decide ((j1 : Int) < (2 * (b.length : Int))))))]] (decide ((j1 : Int) < (2 * (b.length : Int))) && ((endS b j1) == (endS a i))) (fun h14 => ?_) (fun h14 => ?_)
      ·
       (try simp only [decide_eq_true_eq, decide_eq_false_iff_not, Int.not_lt, Int.not_le, Bool.and_eq_true, Bool.and_eq_false_iff, Bool.not_eq_true', Bool.not_eq_false', beq_iff_eq, beq_eq_false_iff_ne, ne_eq] at h14)
       refine .back [.r [(1, X (Xn ((j1 : Int) + 1)))]] [(40, 40)] (ih14 ((j1 + 1) : Nat) ?_ ?_)
       ·
        refine ⟨by omega, by omega, ?_⟩; rw [I14.2.2, skipS.eq_def b j1, if_pos (by omega)]
       ·
        ((try dsimp only); omega)
      ·
       (try simp only [decide_eq_true_eq, decide_eq_false_iff_not, Int.not_lt, Int.not_le, Bool.and_eq_true, Bool.and_eq_false_iff, Bool.not_eq_true', Bool.not_eq_false', beq_iff_eq, beq_eq_false_iff_ne, ne_eq] at h14)
       have hn : nextS a b i j = (endS a i) := by unfold nextS; ((repeat' split) <;> first | rfl | omega | (simp_all; done) | (simp_all; omega))
       have hi : skipS a i1 (endS a i) = i1 := by rw [skipS.eq_def, if_neg (by omega)]
       have hj : skipS b j1 (endS a i) = j1 := by rw [skipS.eq_def, if_neg (by omega)]
       have hp := skip_prog a b i j (by omega) hb
       have hs := mergeS_step w a b out p i j (by omega) hb
       rw [hn, I12.2.2, hi, I14.2.2, hj] at hs hp
       simp only [mod2] at h9
       have hl := addS_len out ⟨p, (endS a i)⟩
       refine .back [] [(40, 40)] (ih3 ((endS a i), i1, j1, out) ?_ ?_)
       ·
        refine ⟨by omega, by omega, by omega, ?_⟩
        rw [I3.2.2.2, hs]
        first | rw [if_pos h9] | rw [if_neg (fun hh => by rcases h9 with h9 | h9; omega; exact absurd hh.2 (by rw [h9]; decide))]
       ·
        ((try dsimp only); omega)
  ·
   (try simp only [decide_eq_true_eq, decide_eq_false_iff_not, Int.not_lt, Int.not_le] at h5)
   refine .br [.r [(2, X (Xl spanT b)), (3, X (Xn (2 * (b.length : Int))))]] (decide ((j : Int) < (2 * (b.length : Int)))) (fun h7 => ?_) (fun h7 => ?_)
   ·
    (try simp only [decide_eq_true_eq, decide_eq_false_iff_not, Int.not_lt, Int.not_le] at h7)
    refine .br [.r [(3, X (Xc0 (fcs_end b j (by first | omega | (have := hg; omega)) (by first | omega | (have := hg; omega))) X0)), (4, X (Xmin 2147483648 (endS b j)))], .r [(6, Xv 1 (decide (p < (min 2147483648 (endS b j)))) (Xrem (i : Int) 2)), (7, Xv 1 (decide (p < (min 2147483648 (endS b j)))) X0), (9, Xv 1 (decide (p < (min 2147483648 (endS b j)))) (Xrem (j : Int) 2)), (10, Xv 1 (decide (p < (min 2147483648 (endS b j)))) X0), (11, Xv 3 (decide (p < (min 2147483648 (endS b j)))) (Xc0 (hf (((i : Int) % 2) == 1) (((j : Int) % 2) == 1)) X0 (hc := hfc))), (12, X (Xk (decide (p < (min 2147483648 (endS b j))))))]] (decide (p < (min 2147483648 (endS b j))) && (w (((i : Int) % 2) == 1) (((j : Int) % 2) == 1))) (fun h9 => ?_) (fun h9 => ?_)
    ·
     (try simp only [decide_eq_true_eq, decide_eq_false_iff_not, Int.not_lt, Int.not_le, Bool.and_eq_true, Bool.and_eq_false_iff, Bool.not_eq_true', Bool.not_eq_false', beq_iff_eq, beq_eq_false_iff_ne, ne_eq] at h9)
     refine .loop (α := Nat) [.r [(4, X (Xc3 409 [(0, 40)] (fcs_add out ({ fr := p, to := (min 2147483648 (endS b j)) } : Span) (by (first | omega | with_reducible exact fun h => h | (intro hq; rw [hq]; done) | (intro hq; rw [hq]; rfl) | (simp only [List.length_map]; done) | (simp only [List.length_map]; omega) | (simp; omega) | (simp; done)))) X0))], .r []] 441 (fun i1 => ([(0, VL 2 spanT a), (1, VL 2 spanT b), (2, .fn f []), (7, .row 40 ((addS out ({ fr := p, to := (min 2147483648 (endS b j)) } : Span)).length)), (8, VI (min 2147483648 (endS b j))), (9, VI (i1 : Int)), (10, VI (j : Int))], [(40, OR 2 spanT (addS out ({ fr := p, to := (min 2147483648 (endS b j)) } : Span)))])) (fun i1 => i ≤ i1 ∧ i1 ≤ 2 * a.length ∧ skipS a i (min 2147483648 (endS b j)) = skipS a i1 (min 2147483648 (endS b j))) (fun i1 => 2 * a.length - i1) (i : Nat) ?_ ?_
     ·
      exact ⟨by omega, by omega, rfl⟩
     rintro i1 I12 ih12
     try dsimp only at I12
     refine .br [.r [(2, X (Xl spanT a)), (3, X (Xn (2 * (a.length : Int)))), (8, Xv 2 (decide ((i1 : Int) < (2 * (a.length : Int)))) (Xc0g (e := (decide ((i1 : Int) < (2 * (a.length : Int))))) (fun hg => by (try simp only [decide_eq_true_eq, decide_eq_false_iff_not, Int.not_lt, Int.not_le] at hg); exact (fcs_end a i1 (by first | omega | (have := hg; omega)) (by first | omega | (have := hg; omega)))) X0) (fun hg => ⟨hg, by and_intros <;> exact True.intro⟩)), (10, Xv 2 (decide ((i1 : Int) < (2 * (a.length : Int)))) X0), (11, X (Xk (decide ((i1 : Int) < (2 * (a.length : Int))))))]] (decide ((i1 : Int) < (2 * (a.length : Int))) && ((endS a i1) == (min 2147483648 (endS b j)))) (fun h12 => ?_) (fun h12 => ?_)
     ·
      (try simp only [decide_eq_true_eq, decide_eq_false_iff_not, Int.not_lt, Int.not_le, Bool.and_eq_true, Bool.and_eq_false_iff, Bool.not_eq_true', Bool.not_eq_false', beq_iff_eq, beq_eq_false_iff_ne, ne_eq] at h12)
      refine .back [.r [(1, X (Xn ((i1 : Int) + 1)))]] [(40, 40)] (ih12 ((i1 + 1) : Nat) ?_ ?_)
      ·
       refine ⟨by omega, by omega, ?_⟩; rw [I12.2.2, skipS.eq_def a i1, if_pos (by omega)]
      ·
       ((try dsimp only); omega)
     ·
      (try simp only [decide_eq_true_eq, decide_eq_false_iff_not, Int.not_lt, Int.not_le, Bool.and_eq_true, Bool.and_eq_false_iff, Bool.not_eq_true', Bool.not_eq_false', beq_iff_eq, beq_eq_false_iff_ne, ne_eq] at h12)
      refine .loop (α := Nat) [] 537 (fun j1 => ([(0, VL 2 spanT a), (1, VL 2 spanT b), (2, .fn f []), (7, .row 40 ((addS out ({ fr := p, to := (min 2147483648 (endS b j)) } : Span)).length)), (8, VI (min 2147483648 (endS b j))), (9, VI (i1 : Int)), (10, VI (j1 : Int))], [(40, OR 2 spanT (addS out ({ fr := p, to := (min 2147483648 (endS b j)) } : Span)))])) (fun j1 => j ≤ j1 ∧ j1 ≤ 2 * b.length ∧ skipS b j (min 2147483648 (endS b j)) = skipS b j1 (min 2147483648 (endS b j))) (fun j1 => 2 * b.length - j1) (j : Nat) ?_ ?_
      ·
       exact ⟨by omega, by omega, rfl⟩
      rintro j1 I14 ih14
      try dsimp only at I14
      refine .br [.r [(2, X (Xl spanT b)), (3, X (Xn (2 * (b.length : Int)))), (8, Xv 2 (decide ((j1 : Int) < (2 * (b.length : Int)))) (Xc0g (e := (decide ((j1 : Int) < (2 * (b.length : Int))))) (fun hg => by (try simp only [decide_eq_true_eq, decide_eq_false_iff_not, Int.not_lt, Int.not_le] at hg); exact (fcs_end b j1 (by first | omega | (have := hg; omega)) (by first | omega | (have := hg; omega)))) X0) (fun hg => ⟨hg, by and_intros <;> exact True.intro⟩)), (10, Xv 2 (decide ((j1 : Int) < (2 * (b.length : Int)))) X0), (11, X (Xk (decide ((j1 : Int) < (2 * (b.length : Int))))))]] (decide ((j1 : Int) < (2 * (b.length : Int))) && ((endS b j1) == (min 2147483648 (endS b j)))) (fun h14 => ?_) (fun h14 => ?_)
      ·
       (try simp only [decide_eq_true_eq, decide_eq_false_iff_not, Int.not_lt, Int.not_le, Bool.and_eq_true, Bool.and_eq_false_iff, Bool.not_eq_true', Bool.not_eq_false', beq_iff_eq, beq_eq_false_iff_ne, ne_eq] at h14)
       refine .back [.r [(1, X (Xn ((j1 : Int) + 1)))]] [(40, 40)] (ih14 ((j1 + 1) : Nat) ?_ ?_)
       ·
        refine ⟨by omega, by omega, ?_⟩; rw [I14.2.2, skipS.eq_def b j1, if_pos (by omega)]
       ·
        ((try dsimp only); omega)
      ·
       (try simp only [decide_eq_true_eq, decide_eq_false_iff_not, Int.not_lt, Int.not_le, Bool.and_eq_true, Bool.and_eq_false_iff, Bool.not_eq_true', Bool.not_eq_false', beq_iff_eq, beq_eq_false_iff_ne, ne_eq] at h14)
       have hn : nextS a b i j = (min 2147483648 (endS b j)) := by unfold nextS; ((repeat' split) <;> first | rfl | omega | (simp_all; done) | (simp_all; omega))
       have hi : skipS a i1 (min 2147483648 (endS b j)) = i1 := by rw [skipS.eq_def, if_neg (by omega)]
       have hj : skipS b j1 (min 2147483648 (endS b j)) = j1 := by rw [skipS.eq_def, if_neg (by omega)]
       have hp := skip_prog a b i j (by omega) hb
       have hs := mergeS_step w a b out p i j (by omega) hb
       rw [hn, I12.2.2, hi, I14.2.2, hj] at hs hp
       simp only [mod2] at h9
       have hl := addS_len out ⟨p, (min 2147483648 (endS b j))⟩
       refine .back [] [(40, 40)] (ih3 ((min 2147483648 (endS b j)), i1, j1, (addS out ({ fr := p, to := (min 2147483648 (endS b j)) } : Span))) ?_ ?_)
       ·
        refine ⟨by omega, by omega, by omega, ?_⟩
        rw [I3.2.2.2, hs]
        first | rw [if_pos h9] | rw [if_neg (fun hh => by rcases h9 with h9 | h9; omega; exact absurd hh.2 (by rw [h9]; decide))]
       ·
        ((try dsimp only); omega)
    ·
     (try simp only [decide_eq_true_eq, decide_eq_false_iff_not, Int.not_lt, Int.not_le, Bool.and_eq_true, Bool.and_eq_false_iff, Bool.not_eq_true', Bool.not_eq_false', beq_iff_eq, beq_eq_false_iff_ne, ne_eq] at h9)
     refine .loop (α := Nat) [.r []] 393 (fun i1 => ([(0, VL 2 spanT a), (1, VL 2 spanT b), (2, .fn f []), (7, .row 40 out.length), (8, VI (min 2147483648 (endS b j))), (9, VI (i1 : Int)), (10, VI (j : Int))], [(40, OR 2 spanT out)])) (fun i1 => i ≤ i1 ∧ i1 ≤ 2 * a.length ∧ skipS a i (min 2147483648 (endS b j)) = skipS a i1 (min 2147483648 (endS b j))) (fun i1 => 2 * a.length - i1) (i : Nat) ?_ ?_
     ·
      exact ⟨by omega, by omega, rfl⟩
     rintro i1 I12 ih12
     try dsimp only at I12
     refine .br [.r [(2, X (Xl spanT a)), (3, X (Xn (2 * (a.length : Int)))), (8, Xv 2 (decide ((i1 : Int) < (2 * (a.length : Int)))) (Xc0g (e := (decide ((i1 : Int) < (2 * (a.length : Int))))) (fun hg => by (try simp only [decide_eq_true_eq, decide_eq_false_iff_not, Int.not_lt, Int.not_le] at hg); exact (fcs_end a i1 (by first | omega | (have := hg; omega)) (by first | omega | (have := hg; omega)))) X0) (fun hg => ⟨hg, by and_intros <;> exact True.intro⟩)), (10, Xv 2 (decide ((i1 : Int) < (2 * (a.length : Int)))) X0), (11, X (Xk (decide ((i1 : Int) < (2 * (a.length : Int))))))]] (decide ((i1 : Int) < (2 * (a.length : Int))) && ((endS a i1) == (min 2147483648 (endS b j)))) (fun h12 => ?_) (fun h12 => ?_)
     ·
      (try simp only [decide_eq_true_eq, decide_eq_false_iff_not, Int.not_lt, Int.not_le, Bool.and_eq_true, Bool.and_eq_false_iff, Bool.not_eq_true', Bool.not_eq_false', beq_iff_eq, beq_eq_false_iff_ne, ne_eq] at h12)
      refine .back [.r [(1, X (Xn ((i1 : Int) + 1)))]] [(40, 40)] (ih12 ((i1 + 1) : Nat) ?_ ?_)
      ·
       refine ⟨by omega, by omega, ?_⟩; rw [I12.2.2, skipS.eq_def a i1, if_pos (by omega)]
      ·
       ((try dsimp only); omega)
     ·
      (try simp only [decide_eq_true_eq, decide_eq_false_iff_not, Int.not_lt, Int.not_le, Bool.and_eq_true, Bool.and_eq_false_iff, Bool.not_eq_true', Bool.not_eq_false', beq_iff_eq, beq_eq_false_iff_ne, ne_eq] at h12)
      refine .loop (α := Nat) [] 489 (fun j1 => ([(0, VL 2 spanT a), (1, VL 2 spanT b), (2, .fn f []), (7, .row 40 out.length), (8, VI (min 2147483648 (endS b j))), (9, VI (i1 : Int)), (10, VI (j1 : Int))], [(40, OR 2 spanT out)])) (fun j1 => j ≤ j1 ∧ j1 ≤ 2 * b.length ∧ skipS b j (min 2147483648 (endS b j)) = skipS b j1 (min 2147483648 (endS b j))) (fun j1 => 2 * b.length - j1) (j : Nat) ?_ ?_
      ·
       exact ⟨by omega, by omega, rfl⟩
      rintro j1 I14 ih14
      try dsimp only at I14
      refine .br [.r [(2, X (Xl spanT b)), (3, X (Xn (2 * (b.length : Int)))), (8, Xv 2 (decide ((j1 : Int) < (2 * (b.length : Int)))) (Xc0g (e := (decide ((j1 : Int) < (2 * (b.length : Int))))) (fun hg => by (try simp only [decide_eq_true_eq, decide_eq_false_iff_not, Int.not_lt, Int.not_le] at hg); exact (fcs_end b j1 (by first | omega | (have := hg; omega)) (by first | omega | (have := hg; omega)))) X0) (fun hg => ⟨hg, by and_intros <;> exact True.intro⟩)), (10, Xv 2 (decide ((j1 : Int) < (2 * (b.length : Int)))) X0), (11, X (Xk (decide ((j1 : Int) < (2 * (b.length : Int))))))]] (decide ((j1 : Int) < (2 * (b.length : Int))) && ((endS b j1) == (min 2147483648 (endS b j)))) (fun h14 => ?_) (fun h14 => ?_)
      ·
       (try simp only [decide_eq_true_eq, decide_eq_false_iff_not, Int.not_lt, Int.not_le, Bool.and_eq_true, Bool.and_eq_false_iff, Bool.not_eq_true', Bool.not_eq_false', beq_iff_eq, beq_eq_false_iff_ne, ne_eq] at h14)
       refine .back [.r [(1, X (Xn ((j1 : Int) + 1)))]] [(40, 40)] (ih14 ((j1 + 1) : Nat) ?_ ?_)
       ·
        refine ⟨by omega, by omega, ?_⟩; rw [I14.2.2, skipS.eq_def b j1, if_pos (by omega)]
       ·
        ((try dsimp only); omega)
      ·
       (try simp only [decide_eq_true_eq, decide_eq_false_iff_not, Int.not_lt, Int.not_le, Bool.and_eq_true, Bool.and_eq_false_iff, Bool.not_eq_true', Bool.not_eq_false', beq_iff_eq, beq_eq_false_iff_ne, ne_eq] at h14)
       have hn : nextS a b i j = (min 2147483648 (endS b j)) := by unfold nextS; ((repeat' split) <;> first | rfl | omega | (simp_all; done) | (simp_all; omega))
       have hi : skipS a i1 (min 2147483648 (endS b j)) = i1 := by rw [skipS.eq_def, if_neg (by omega)]
       have hj : skipS b j1 (min 2147483648 (endS b j)) = j1 := by rw [skipS.eq_def, if_neg (by omega)]
       have hp := skip_prog a b i j (by omega) hb
       have hs := mergeS_step w a b out p i j (by omega) hb
       rw [hn, I12.2.2, hi, I14.2.2, hj] at hs hp
       simp only [mod2] at h9
       have hl := addS_len out ⟨p, (min 2147483648 (endS b j))⟩
       refine .back [] [(40, 40)] (ih3 ((min 2147483648 (endS b j)), i1, j1, out) ?_ ?_)
       ·
        refine ⟨by omega, by omega, by omega, ?_⟩
        rw [I3.2.2.2, hs]
        first | rw [if_pos h9] | rw [if_neg (fun hh => by rcases h9 with h9 | h9; omega; exact absurd hh.2 (by rw [h9]; decide))]
       ·
        ((try dsimp only); omega)
   ·
    (try simp only [decide_eq_true_eq, decide_eq_false_iff_not, Int.not_lt, Int.not_le] at h7)
    refine .br [.r [(6, Xv 1 (decide (p < 2147483648)) (Xrem (i : Int) 2)), (7, Xv 1 (decide (p < 2147483648)) X0), (9, Xv 1 (decide (p < 2147483648)) (Xrem (j : Int) 2)), (10, Xv 1 (decide (p < 2147483648)) X0), (11, Xv 3 (decide (p < 2147483648)) (Xc0 (hf (((i : Int) % 2) == 1) (((j : Int) % 2) == 1)) X0 (hc := hfc))), (12, X (Xk (decide (p < 2147483648))))]] (decide (p < 2147483648) && (w (((i : Int) % 2) == 1) (((j : Int) % 2) == 1))) (fun h9 => ?_) (fun h9 => ?_)
    ·
     (try simp only [decide_eq_true_eq, decide_eq_false_iff_not, Int.not_lt, Int.not_le, Bool.and_eq_true, Bool.and_eq_false_iff, Bool.not_eq_true', Bool.not_eq_false', beq_iff_eq, beq_eq_false_iff_ne, ne_eq] at h9)
     refine .loop (α := Nat) [.r [(4, X (Xc3 361 [(0, 40)] (fcs_add out ({ fr := p, to := 2147483648 } : Span) (by (first | omega | with_reducible exact fun h => h | (intro hq; rw [hq]; done) | (intro hq; rw [hq]; rfl) | (simp only [List.length_map]; done) | (simp only [List.length_map]; omega) | (simp; omega) | (simp; done)))) X0))], .r []] 393 (fun i1 => ([(0, VL 2 spanT a), (1, VL 2 spanT b), (2, .fn f []), (7, .row 40 ((addS out ({ fr := p, to := 2147483648 } : Span)).length)), (8, VI 2147483648), (9, VI (i1 : Int)), (10, VI (j : Int))], [(40, OR 2 spanT (addS out ({ fr := p, to := 2147483648 } : Span)))])) (fun i1 => i ≤ i1 ∧ i1 ≤ 2 * a.length ∧ skipS a i 2147483648 = skipS a i1 2147483648) (fun i1 => 2 * a.length - i1) (i : Nat) ?_ ?_
     ·
      exact ⟨by omega, by omega, rfl⟩
     rintro i1 I12 ih12
     try dsimp only at I12
     refine .br [.r [(2, X (Xl spanT a)), (3, X (Xn (2 * (a.length : Int)))), (8, Xv 2 (decide ((i1 : Int) < (2 * (a.length : Int)))) (Xc0g (e := (decide ((i1 : Int) < (2 * (a.length : Int))))) (fun hg => by (try simp only [decide_eq_true_eq, decide_eq_false_iff_not, Int.not_lt, Int.not_le] at hg); exact (fcs_end a i1 (by first | omega | (have := hg; omega)) (by first | omega | (have := hg; omega)))) X0) (fun hg => ⟨hg, by and_intros <;> exact True.intro⟩)), (10, Xv 2 (decide ((i1 : Int) < (2 * (a.length : Int)))) X0), (11, X (Xk (decide ((i1 : Int) < (2 * (a.length : Int))))))]] (decide ((i1 : Int) < (2 * (a.length : Int))) && ((endS a i1) == 2147483648)) (fun h12 => ?_) (fun h12 => ?_)
     ·
      (try simp only [decide_eq_true_eq, decide_eq_false_iff_not, Int.not_lt, Int.not_le, Bool.and_eq_true, Bool.and_eq_false_iff, Bool.not_eq_true', Bool.not_eq_false', beq_iff_eq, beq_eq_false_iff_ne, ne_eq] at h12)
      refine .back [.r [(1, X (Xn ((i1 : Int) + 1)))]] [(40, 40)] (ih12 ((i1 + 1) : Nat) ?_ ?_)
      ·
       refine ⟨by omega, by omega, ?_⟩; rw [I12.2.2, skipS.eq_def a i1, if_pos (by omega)]
      ·
       ((try dsimp only); omega)
     ·
      (try simp only [decide_eq_true_eq, decide_eq_false_iff_not, Int.not_lt, Int.not_le, Bool.and_eq_true, Bool.and_eq_false_iff, Bool.not_eq_true', Bool.not_eq_false', beq_iff_eq, beq_eq_false_iff_ne, ne_eq] at h12)
      refine .loop (α := Nat) [] 489 (fun j1 => ([(0, VL 2 spanT a), (1, VL 2 spanT b), (2, .fn f []), (7, .row 40 ((addS out ({ fr := p, to := 2147483648 } : Span)).length)), (8, VI 2147483648), (9, VI (i1 : Int)), (10, VI (j1 : Int))], [(40, OR 2 spanT (addS out ({ fr := p, to := 2147483648 } : Span)))])) (fun j1 => j ≤ j1 ∧ j1 ≤ 2 * b.length ∧ skipS b j 2147483648 = skipS b j1 2147483648) (fun j1 => 2 * b.length - j1) (j : Nat) ?_ ?_
      ·
       exact ⟨by omega, by omega, rfl⟩
      rintro j1 I14 ih14
      try dsimp only at I14
      refine .br [.r [(2, X (Xl spanT b)), (3, X (Xn (2 * (b.length : Int)))), (8, Xv 2 (decide ((j1 : Int) < (2 * (b.length : Int)))) (Xc0g (e := (decide ((j1 : Int) < (2 * (b.length : Int))))) (fun hg => by (try simp only [decide_eq_true_eq, decide_eq_false_iff_not, Int.not_lt, Int.not_le] at hg); exact (fcs_end b j1 (by first | omega | (have := hg; omega)) (by first | omega | (have := hg; omega)))) X0) (fun hg => ⟨hg, by and_intros <;> exact True.intro⟩)), (10, Xv 2 (decide ((j1 : Int) < (2 * (b.length : Int)))) X0), (11, X (Xk (decide ((j1 : Int) < (2 * (b.length : Int))))))]] (decide ((j1 : Int) < (2 * (b.length : Int))) && ((endS b j1) == 2147483648)) (fun h14 => ?_) (fun h14 => ?_)
      ·
       (try simp only [decide_eq_true_eq, decide_eq_false_iff_not, Int.not_lt, Int.not_le, Bool.and_eq_true, Bool.and_eq_false_iff, Bool.not_eq_true', Bool.not_eq_false', beq_iff_eq, beq_eq_false_iff_ne, ne_eq] at h14)
       refine .back [.r [(1, X (Xn ((j1 : Int) + 1)))]] [(40, 40)] (ih14 ((j1 + 1) : Nat) ?_ ?_)
       ·
        refine ⟨by omega, by omega, ?_⟩; rw [I14.2.2, skipS.eq_def b j1, if_pos (by omega)]
       ·
        ((try dsimp only); omega)
      ·
       (try simp only [decide_eq_true_eq, decide_eq_false_iff_not, Int.not_lt, Int.not_le, Bool.and_eq_true, Bool.and_eq_false_iff, Bool.not_eq_true', Bool.not_eq_false', beq_iff_eq, beq_eq_false_iff_ne, ne_eq] at h14)
       have hn : nextS a b i j = 2147483648 := by unfold nextS; ((repeat' split) <;> first | rfl | omega | (simp_all; done) | (simp_all; omega))
       have hi : skipS a i1 2147483648 = i1 := by rw [skipS.eq_def, if_neg (by omega)]
       have hj : skipS b j1 2147483648 = j1 := by rw [skipS.eq_def, if_neg (by omega)]
       have hp := skip_prog a b i j (by omega) hb
       have hs := mergeS_step w a b out p i j (by omega) hb
       rw [hn, I12.2.2, hi, I14.2.2, hj] at hs hp
       simp only [mod2] at h9
       have hl := addS_len out ⟨p, 2147483648⟩
       refine .back [] [(40, 40)] (ih3 (2147483648, i1, j1, (addS out ({ fr := p, to := 2147483648 } : Span))) ?_ ?_)
       ·
        refine ⟨by omega, by omega, by omega, ?_⟩
        rw [I3.2.2.2, hs]
        first | rw [if_pos h9] | rw [if_neg (fun hh => by rcases h9 with h9 | h9; omega; exact absurd hh.2 (by rw [h9]; decide))]
       ·
        ((try dsimp only); omega)
    ·
     (try simp only [decide_eq_true_eq, decide_eq_false_iff_not, Int.not_lt, Int.not_le, Bool.and_eq_true, Bool.and_eq_false_iff, Bool.not_eq_true', Bool.not_eq_false', beq_iff_eq, beq_eq_false_iff_ne, ne_eq] at h9)
     refine .loop (α := Nat) [.r []] 345 (fun i1 => ([(0, VL 2 spanT a), (1, VL 2 spanT b), (2, .fn f []), (7, .row 40 out.length), (8, VI 2147483648), (9, VI (i1 : Int)), (10, VI (j : Int))], [(40, OR 2 spanT out)])) (fun i1 => i ≤ i1 ∧ i1 ≤ 2 * a.length ∧ skipS a i 2147483648 = skipS a i1 2147483648) (fun i1 => 2 * a.length - i1) (i : Nat) ?_ ?_
     ·
      exact ⟨by omega, by omega, rfl⟩
     rintro i1 I12 ih12
     try dsimp only at I12
     refine .br [.r [(2, X (Xl spanT a)), (3, X (Xn (2 * (a.length : Int)))), (8, Xv 2 (decide ((i1 : Int) < (2 * (a.length : Int)))) (Xc0g (e := (decide ((i1 : Int) < (2 * (a.length : Int))))) (fun hg => by (try simp only [decide_eq_true_eq, decide_eq_false_iff_not, Int.not_lt, Int.not_le] at hg); exact (fcs_end a i1 (by first | omega | (have := hg; omega)) (by first | omega | (have := hg; omega)))) X0) (fun hg => ⟨hg, by and_intros <;> exact True.intro⟩)), (10, Xv 2 (decide ((i1 : Int) < (2 * (a.length : Int)))) X0), (11, X (Xk (decide ((i1 : Int) < (2 * (a.length : Int))))))]] (decide ((i1 : Int) < (2 * (a.length : Int))) && ((endS a i1) == 2147483648)) (fun h12 => ?_) (fun h12 => ?_)
     ·
      (try simp only [decide_eq_true_eq, decide_eq_false_iff_not, Int.not_lt, Int.not_le, Bool.and_eq_true, Bool.and_eq_false_iff, Bool.not_eq_true', Bool.not_eq_false', beq_iff_eq, beq_eq_false_iff_ne, ne_eq] at h12)
      refine .back [.r [(1, X (Xn ((i1 : Int) + 1)))]] [(40, 40)] (ih12 ((i1 + 1) : Nat) ?_ ?_)
      ·
       refine ⟨by omega, by omega, ?_⟩; rw [I12.2.2, skipS.eq_def a i1, if_pos (by omega)]
      ·
       ((try dsimp only); omega)
     ·
      (try simp only [decide_eq_true_eq, decide_eq_false_iff_not, Int.not_lt, Int.not_le, Bool.and_eq_true, Bool.and_eq_false_iff, Bool.not_eq_true', Bool.not_eq_false', beq_iff_eq, beq_eq_false_iff_ne, ne_eq] at h12)
      refine .loop (α := Nat) [] 441 (fun j1 => ([(0, VL 2 spanT a), (1, VL 2 spanT b), (2, .fn f []), (7, .row 40 out.length), (8, VI 2147483648), (9, VI (i1 : Int)), (10, VI (j1 : Int))], [(40, OR 2 spanT out)])) (fun j1 => j ≤ j1 ∧ j1 ≤ 2 * b.length ∧ skipS b j 2147483648 = skipS b j1 2147483648) (fun j1 => 2 * b.length - j1) (j : Nat) ?_ ?_
      ·
       exact ⟨by omega, by omega, rfl⟩
      rintro j1 I14 ih14
      try dsimp only at I14
      refine .br [.r [(2, X (Xl spanT b)), (3, X (Xn (2 * (b.length : Int)))), (8, Xv 2 (decide ((j1 : Int) < (2 * (b.length : Int)))) (Xc0g (e := (decide ((j1 : Int) < (2 * (b.length : Int))))) (fun hg => by (try simp only [decide_eq_true_eq, decide_eq_false_iff_not, Int.not_lt, Int.not_le] at hg); exact (fcs_end b j1 (by first | omega | (have := hg; omega)) (by first | omega | (have := hg; omega)))) X0) (fun hg => ⟨hg, by and_intros <;> exact True.intro⟩)), (10, Xv 2 (decide ((j1 : Int) < (2 * (b.length : Int)))) X0), (11, X (Xk (decide ((j1 : Int) < (2 * (b.length : Int))))))]] (decide ((j1 : Int) < (2 * (b.length : Int))) && ((endS b j1) == 2147483648)) (fun h14 => ?_) (fun h14 => ?_)
      ·
       (try simp only [decide_eq_true_eq, decide_eq_false_iff_not, Int.not_lt, Int.not_le, Bool.and_eq_true, Bool.and_eq_false_iff, Bool.not_eq_true', Bool.not_eq_false', beq_iff_eq, beq_eq_false_iff_ne, ne_eq] at h14)
       refine .back [.r [(1, X (Xn ((j1 : Int) + 1)))]] [(40, 40)] (ih14 ((j1 + 1) : Nat) ?_ ?_)
       ·
        refine ⟨by omega, by omega, ?_⟩; rw [I14.2.2, skipS.eq_def b j1, if_pos (by omega)]
       ·
        ((try dsimp only); omega)
      ·
       (try simp only [decide_eq_true_eq, decide_eq_false_iff_not, Int.not_lt, Int.not_le, Bool.and_eq_true, Bool.and_eq_false_iff, Bool.not_eq_true', Bool.not_eq_false', beq_iff_eq, beq_eq_false_iff_ne, ne_eq] at h14)
       have hn : nextS a b i j = 2147483648 := by unfold nextS; ((repeat' split) <;> first | rfl | omega | (simp_all; done) | (simp_all; omega))
       have hi : skipS a i1 2147483648 = i1 := by rw [skipS.eq_def, if_neg (by omega)]
       have hj : skipS b j1 2147483648 = j1 := by rw [skipS.eq_def, if_neg (by omega)]
       have hp := skip_prog a b i j (by omega) hb
       have hs := mergeS_step w a b out p i j (by omega) hb
       rw [hn, I12.2.2, hi, I14.2.2, hj] at hs hp
       simp only [mod2] at h9
       have hl := addS_len out ⟨p, 2147483648⟩
       refine .back [] [(40, 40)] (ih3 (2147483648, i1, j1, out) ?_ ?_)
       ·
        refine ⟨by omega, by omega, by omega, ?_⟩
        rw [I3.2.2.2, hs]
        first | rw [if_pos h9] | rw [if_neg (fun hh => by rcases h9 with h9 | h9; omega; exact absurd hh.2 (by rw [h9]; decide))]
       ·
        ((try dsimp only); omega)
 ·
  (try simp only [decide_eq_true_eq, decide_eq_false_iff_not, Int.not_lt, Int.not_le, Bool.or_eq_true, Bool.or_eq_false_iff] at h3)
  have e1 : ((mergeS w a b [] 0 0 0) : List Span) = out := by
   rw [I3.2.2.2, mergeS_end _ _ _ _ _ _ _ (by omega)]
  have e2 : ((mergeS w a b [] 0 0 0).length : Nat) = out.length := by
   rw [I3.2.2.2, mergeS_end _ _ _ _ _ _ _ (by omega)]
  exact .finE [.r []] [(40, 0)] (fun (z0, z1) => (.row 0 z1, [(0, OR 2 spanT z0)])) ((out : List Span), (out.length : Nat)) (((mergeS w a b [] 0 0 0) : List Span), ((mergeS w a b [] 0 0 0).length : Nat)) (pr e1 e2)

theorem fcs_two (f : FuncId) (w : Bool → Bool → Bool) (hfc : callable Try.prog f = true) (hf : ∀ x y : Bool, FC Try.prog f [.t (.sc (.bool x)), .t (.sc (.bool y))] (app emp []) (.t (.sc (.bool (w x y)))) (app emp [])) (a b : List Span) : FC Try.prog 75 [VL 2 spanT a, VL 2 spanT b, .fn f []] (app emp []) (.tup [.row 0 ((twoS w a b).length), VI (errS a b)]) (app emp [(0, OR 2 spanT (twoS w a b))]) := by
 refine .go Try.f75 ?_
 refine .len 0 (fun hl0 => ?_)
 refine .len 1 (fun hl1 => ?_)
 refine .br [.r [], .r [(1, X (Xc0 (fcs_check a) X0))], .r []] ((chkS a 0) != 0) (fun h2 => ?_) (fun h2 => ?_)
 ·
  (try simp only [bne_iff_ne, bne_eq_false_iff_eq, ne_eq] at h2)
  have e1 : ((twoS w a b) : List Span) = [] := by
   simp only [twoS, errS]; ((repeat' split) <;> first | rfl | omega | (simp_all; done) | (simp_all; omega))
  have e2 : ((twoS w a b).length : Nat) = 0 := by
   simp only [twoS, errS]; ((repeat' split) <;> first | rfl | omega | (simp_all; done) | (simp_all; omega))
  have e3 : ((errS a b) : Int) = (chkS a 0) := by
   simp only [twoS, errS]; ((repeat' split) <;> first | rfl | omega | (simp_all; done) | (simp_all; omega))
  exact .finE [.r [], .le (.nR 6 2)] [(80, 0)] (fun (z0, z1, z2) => (.tup [.row 0 z1, VI z2], [(0, OR 2 spanT z0)])) (([] : List Span), (0 : Nat), ((chkS a 0) : Int)) (((twoS w a b) : List Span), ((twoS w a b).length : Nat), ((errS a b) : Int)) (pr e1 (pr e2 e3))
 ·
  (try simp only [bne_iff_ne, bne_eq_false_iff_eq, ne_eq] at h2)
  refine .br [.r [(1, X (Xc0 (fcs_check b) X0))], .r []] ((chkS b 0) != 0) (fun h5 => ?_) (fun h5 => ?_)
  ·
   (try simp only [bne_iff_ne, bne_eq_false_iff_eq, ne_eq] at h5)
   have e4 : ((twoS w a b) : List Span) = [] := by
    simp only [twoS, errS]; ((repeat' split) <;> first | rfl | omega | (simp_all; done) | (simp_all; omega))
   have e5 : ((twoS w a b).length : Nat) = 0 := by
    simp only [twoS, errS]; ((repeat' split) <;> first | rfl | omega | (simp_all; done) | (simp_all; omega))
   have e6 : ((errS a b) : Int) = (chkS b 0) := by
    simp only [twoS, errS]; ((repeat' split) <;> first | rfl | omega | (simp_all; done) | (simp_all; omega))
   exact .finE [.r [], .le (.nR 6 2)] [(120, 0)] (fun (z0, z1, z2) => (.tup [.row 0 z1, VI z2], [(0, OR 2 spanT z0)])) (([] : List Span), (0 : Nat), ((chkS b 0) : Int)) (((twoS w a b) : List Span), ((twoS w a b).length : Nat), ((errS a b) : Int)) (pr e4 (pr e5 e6))
  ·
   (try simp only [bne_iff_ne, bne_eq_false_iff_eq, ne_eq] at h5)
   have e7 : ((twoS w a b) : List Span) = (mergeS w a b [] 0 0 0) := by
    simp only [twoS, errS]; ((repeat' split) <;> first | rfl | omega | (simp_all; done) | (simp_all; omega))
   have e8 : ((twoS w a b).length : Nat) = (mergeS w a b [] 0 0 0).length := by
    simp only [twoS, errS]; ((repeat' split) <;> first | rfl | omega | (simp_all; done) | (simp_all; omega))
   have e9 : ((errS a b) : Int) = 0 := by
    simp only [twoS, errS]; ((repeat' split) <;> first | rfl | omega | (simp_all; done) | (simp_all; omega))
   exact .finE [.r [(3, X (Xc1 120 (fcs_merged f w hfc hf a b (chk_len (by (first | omega | with_reducible exact fun h => h | (intro hq; rw [hq]; done) | (intro hq; rw [hq]; rfl) | (simp only [List.length_map]; done) | (simp only [List.length_map]; omega) | (simp; omega) | (simp; done)))) (chk_len (by (first | omega | with_reducible exact fun h => h | (intro hq; rw [hq]; done) | (intro hq; rw [hq]; rfl) | (simp only [List.length_map]; done) | (simp only [List.length_map]; omega) | (simp; omega) | (simp; done)))) (fun k hk => by have := chk_end (l := b) (by (first | omega | with_reducible exact fun h => h | (intro hq; rw [hq]; done) | (intro hq; rw [hq]; rfl) | (simp only [List.length_map]; done) | (simp only [List.length_map]; omega) | (simp; omega) | (simp; done))) k hk; omega)) X0))]] [(120, 0)] (fun (z0, z1, z2) => (.tup [.row 0 z1, VI z2], [(0, OR 2 spanT z0)])) (((mergeS w a b [] 0 0 0) : List Span), ((mergeS w a b [] 0 0 0).length : Nat), (0 : Int)) (((twoS w a b) : List Span), ((twoS w a b).length : Nat), ((errS a b) : Int)) (pr e7 (pr e8 e9))

theorem fcs_minus (a b : List Span) : FC Try.prog 23 [VL 2 spanT a, VL 2 spanT b] (app emp []) (.tup [.row 0 ((twoS (fun a b => a && !b) a b).length), VI (errS a b)]) (app emp [(0, OR 2 spanT (twoS (fun a b => a && !b) a b))]) := by
 refine .go Try.f23 ?_
 refine .len 0 (fun hl0 => ?_)
 refine .len 1 (fun hl1 => ?_)
 exact .fin [.r [], .r [(2, X (Xc1 32 (fcs_two 78 (fun a b => a && !b) (by kernel_rfl) fcs_wminus a b) X0))]] [(32, 0)]

def szS (l : List Span) : Nat → Int
  | 0 => 0
  | k + 1 => szS l k + ((l.getD k default).to - (l.getD k default).fr)
end Go.Ch
end
