import Derived.Test.YtbdbibmbfmlobaaChDelta3
import Derived.Test.YtbdbibmbfmlobaaDeltaWrite
import Derived.Test.YtbdbibmbfmlobaaAbFz
set_option linter.unusedVariables false
set_option linter.unusedSimpArgs false
set_option maxRecDepth 100000
set_option maxHeartbeats 4000000
open Go Go.Proofs Go.Ab
namespace Go.Ch
theorem fc_dFlush (o : List DStep) (a : List Elem) (c : Int) (ho : o.length ≤ 100000000000) : FC Try.prog 135 [.ptr 0 0] (app emp [(0, .box [.row 1 o.length, .row 2 a.length, .t (.sc (.int .i64 c))]), (1, .row 4 false (List.map dstepT o)), (2, .row 3 false (List.map elemT a))]) (.tup []) (app emp [(0, .box [.row 1 ((flushD ⟨o, a, c⟩).length), .row 3 0, .t (.sc (.int .i64 0))]), (1, .row 4 false (List.map dstepT (flushD ⟨o, a, c⟩))), (2, .row 3 true (List.map elemT a)), (3, .row 3 false (List.map elemT []))]) := by
  refine FC.of_sim (fn := Try.f135) (nx := 3) (by kernel_rfl) rfl (by kernel_rfl) rfl ?_
  show Sim _ _ _ _ ⟨[(0, .ptr 0 0)], app emp [(0, .box [.row 1 o.length, .row 2 a.length, .t (.sc (.int .i64 c))]), (1, .row 4 false (List.map dstepT o)), (2, .row 3 false (List.map elemT a))], 3⟩ _
  refine Sim.seq ?_
  refine Sim.seq ?_
  refine Sim.reg (orcs := []) (keys := [0, 7]) (τ := [(0, 0), (1, 1), (2, 2)]) (nx := 51)
    (sl := [(0, .ptr 0 0), (7, .t (.sc (.bool (decide ((a.length : Int) > 0)))))]) (l := [(0, .box [.row 1 o.length, .row 2 a.length, .t (.sc (.int .i64 c))]), (1, .row 4 false (List.map dstepT o)), (2, .row 3 false (List.map elemT a))])
    (C := []) (by kernel_rfl) ?_ ?_
  · -- region 0
    trivial
  refine andThen_normal ?_
  refine Sim.cond (b := decide ((a.length : Int) > 0)) (by kernel_rfl) (fun h0 => ?_) (fun h0 => ?_)
  · (try simp only [decide_eq_true_eq, decide_eq_false_iff_not, Int.not_lt, Int.not_le, gt_iff_lt] at h0)
    refine Sim.regD (by kernel_rfl) (orcs := [(9, ⟨some (.agg [.t (.sc (.int .i64 1)), .t (.sc (.int .i64 0)), .t (.lst 2 (List.map attrT [])), .row 2 a.length]), none, none, none⟩), (11, ⟨some (.row 1 ((o ++ [({ kind := 1, n := 0, attrs := [], elems := a } : DStep)]).length)), some ([(1, .row 4 false (List.map dstepT (o ++ [({ kind := 1, n := 0, attrs := [], elems := a } : DStep)])))]), none, none⟩)]) (keys := [0]) (τ := [(0, 0), (1, 1), (2, 2)]) (nx := 171)
      (sl := [(0, .ptr 0 0)]) (l := [(0, .box [.row 1 ((o ++ [({ kind := 1, n := 0, attrs := [], elems := a } : DStep)]).length), .row 2 a.length, .t (.sc (.int .i64 c))]), (1, .row 4 false (List.map dstepT (o ++ [({ kind := 1, n := 0, attrs := [], elems := a } : DStep)]))), (2, .row 3 true (List.map elemT a))])
      (C := [Weak (.agg [.t (.sc (.int .i64 1)), .t (.sc (.int .i64 0)), .t (.sc (.slice none 0 0)), .row 2 a.length]) (.agg [.t (.sc (.int .i64 1)), .t (.sc (.int .i64 0)), .t (.lst 2 (List.map attrT [])), .row 2 a.length]), (a.length : Nat) = (List.map elemT a).length, 1 = (List.map dstepT [({ kind := 1, n := 0, attrs := [], elems := a } : DStep)]).length, (o.length : Nat) = (List.map dstepT o).length, (o.length : Nat) + (List.map dstepT [({ kind := 1, n := 0, attrs := [], elems := a } : DStep)]).length ≤ 1099511627776, Weak (.row 1 (o.length + (List.map dstepT [({ kind := 1, n := 0, attrs := [], elems := a } : DStep)]).length)) (.row 1 ((o ++ [({ kind := 1, n := 0, attrs := [], elems := a } : DStep)]).length)), ([(1, .row 4 false (List.map dstepT (o ++ [({ kind := 1, n := 0, attrs := [], elems := a } : DStep)])))] : List (Nat × Ob)) = [(1, .row 4 false (List.map dstepT o ++ List.map dstepT [({ kind := 1, n := 0, attrs := [], elems := a } : DStep)]))]]) (by kernel_rfl) ?_ ?_
    · -- region 1
      refine ⟨(Weak.aggv ⟨.inl rfl, ⟨.inl rfl, ⟨aw_nil (by decide), ⟨.inl rfl, trivial⟩⟩⟩⟩), ?_, ?_, ?_, ?_, (Weak.of_eq (by simp)), (row_append rfl), trivial⟩
      all_goals (first | omega | with_reducible exact fun h => h | (intro hg hq; rw [hg, hq]; rfl) | (intro hq; rw [hq]; done) | (intro hq; rw [hq]; rfl) | ((try intro hg); (try simp [-List.getD_eq_getElem?_getD] at hg); (try simp only [List.length_map]); first | done | omega | rfl | (simp; done) | (simp; omega) | (simp [hg]; done) | (intro hq; simp [hg, hq]; done) | (intro hq; simp [hg, hq]; omega)))
    refine andThen_normal ?_
    refine Sim.seq ?_
    refine Sim.seq ?_
    refine Sim.reg (orcs := []) (keys := [0, 26]) (τ := [(0, 0), (1, 1), (2, 2)]) (nx := 211)
      (sl := [(0, .ptr 0 0), (26, .t (.sc (.bool (decide (c > 0)))))]) (l := [(0, .box [.row 1 ((o ++ [({ kind := 1, n := 0, attrs := [], elems := a } : DStep)]).length), .row 2 a.length, .t (.sc (.int .i64 c))]), (1, .row 4 false (List.map dstepT (o ++ [({ kind := 1, n := 0, attrs := [], elems := a } : DStep)]))), (2, .row 3 true (List.map elemT a))])
      (C := []) (by kernel_rfl) ?_ ?_
    · -- region 2
      trivial
    refine andThen_normal ?_
    refine Sim.cond (b := decide (c > 0)) (by kernel_rfl) (fun h2 => ?_) (fun h2 => ?_)
    · (try simp only [decide_eq_true_eq, decide_eq_false_iff_not, Int.not_lt, Int.not_le, gt_iff_lt] at h2)
      refine Sim.regD (by kernel_rfl) (orcs := [(9, ⟨some (.t (.agg [.sc (.int .i64 2), .sc (.int .i64 c), .lst 2 (List.map attrT []), .lst 3 (List.map elemT [])])), none, none, none⟩), (11, ⟨some (.row 1 (((o ++ [({ kind := 1, n := 0, attrs := [], elems := a } : DStep)]) ++ [({ kind := 2, n := c, attrs := [], elems := [] } : DStep)]).length)), some ([(1, .row 4 false (List.map dstepT ((o ++ [({ kind := 1, n := 0, attrs := [], elems := a } : DStep)]) ++ [({ kind := 2, n := c, attrs := [], elems := [] } : DStep)])))]), none, none⟩)]) (keys := [0]) (τ := [(0, 0), (1, 1), (2, 2)]) (nx := 331)
        (sl := [(0, .ptr 0 0)]) (l := [(0, .box [.row 1 (((o ++ [({ kind := 1, n := 0, attrs := [], elems := a } : DStep)]) ++ [({ kind := 2, n := c, attrs := [], elems := [] } : DStep)]).length), .row 2 a.length, .t (.sc (.int .i64 c))]), (1, .row 4 false (List.map dstepT ((o ++ [({ kind := 1, n := 0, attrs := [], elems := a } : DStep)]) ++ [({ kind := 2, n := c, attrs := [], elems := [] } : DStep)]))), (2, .row 3 true (List.map elemT a))])
        (C := [Weak (.t (.agg [.sc (.int .i64 2), .sc (.int .i64 c), .sc (.slice none 0 0), .sc (.slice none 0 0)])) (.t (.agg [.sc (.int .i64 2), .sc (.int .i64 c), .lst 2 (List.map attrT []), .lst 3 (List.map elemT [])])), 1 = (List.map dstepT [({ kind := 2, n := c, attrs := [], elems := [] } : DStep)]).length, (((o ++ [({ kind := 1, n := 0, attrs := [], elems := a } : DStep)]).length) : Nat) = (List.map dstepT (o ++ [({ kind := 1, n := 0, attrs := [], elems := a } : DStep)])).length, (((o ++ [({ kind := 1, n := 0, attrs := [], elems := a } : DStep)]).length) : Nat) + (List.map dstepT [({ kind := 2, n := c, attrs := [], elems := [] } : DStep)]).length ≤ 1099511627776, Weak (.row 1 ((o ++ [({ kind := 1, n := 0, attrs := [], elems := a } : DStep)]).length + (List.map dstepT [({ kind := 2, n := c, attrs := [], elems := [] } : DStep)]).length)) (.row 1 (((o ++ [({ kind := 1, n := 0, attrs := [], elems := a } : DStep)]) ++ [({ kind := 2, n := c, attrs := [], elems := [] } : DStep)]).length)), ([(1, .row 4 false (List.map dstepT ((o ++ [({ kind := 1, n := 0, attrs := [], elems := a } : DStep)]) ++ [({ kind := 2, n := c, attrs := [], elems := [] } : DStep)])))] : List (Nat × Ob)) = [(1, .row 4 false (List.map dstepT (o ++ [({ kind := 1, n := 0, attrs := [], elems := a } : DStep)]) ++ List.map dstepT [({ kind := 2, n := c, attrs := [], elems := [] } : DStep)]))]]) (by kernel_rfl) ?_ ?_
      · -- region 3
        refine ⟨(Weak.agg ⟨.inl rfl, ⟨.inl rfl, ⟨tw_nil (by decide), ⟨tw_nil (by decide), trivial⟩⟩⟩⟩), ?_, ?_, ?_, (Weak.of_eq (by simp)), (row_append rfl), trivial⟩
        all_goals (first | omega | with_reducible exact fun h => h | (intro hg hq; rw [hg, hq]; rfl) | (intro hq; rw [hq]; done) | (intro hq; rw [hq]; rfl) | ((try intro hg); (try simp [-List.getD_eq_getElem?_getD] at hg); (try simp only [List.length_map]); first | done | omega | rfl | (simp; done) | (simp; omega) | (simp [hg]; done) | (intro hq; simp [hg, hq]; done) | (intro hq; simp [hg, hq]; omega)))
      refine andThen_normal ?_
      refine Sim.reg (orcs := []) (keys := []) (τ := [(0, 0), (1, 1), (2, 2)]) (nx := 395)
        (sl := []) (l := [(0, .box [.row 1 (((o ++ [({ kind := 1, n := 0, attrs := [], elems := a } : DStep)]) ++ [({ kind := 2, n := c, attrs := [], elems := [] } : DStep)]).length), .t (.sc (.slice none 0 0)), .t (.sc (.int .i64 0))]), (1, .row 4 false (List.map dstepT ((o ++ [({ kind := 1, n := 0, attrs := [], elems := a } : DStep)]) ++ [({ kind := 2, n := c, attrs := [], elems := [] } : DStep)]))), (2, .row 3 true (List.map elemT a))])
        (C := []) (by kernel_rfl) ?_ ?_
      · -- region 4
        trivial
      refine Fin.le (Le.nilBox (b := 0) (i := 1) (k := 3) (id := 395) rfl rfl rfl rfl) ?_
      refine Fin.mk2 (.inr rfl) (τ := [(0, 0), (1, 1), (2, 2), (395, 3)]) (keys := []) (nx := 396) (sl := []) (l := [(0, .box [.row 1 (((o ++ [({ kind := 1, n := 0, attrs := [], elems := a } : DStep)]) ++ [({ kind := 2, n := c, attrs := [], elems := [] } : DStep)]).length), .row 3 0, .t (.sc (.int .i64 0))]), (1, .row 4 false (List.map dstepT ((o ++ [({ kind := 1, n := 0, attrs := [], elems := a } : DStep)]) ++ [({ kind := 2, n := c, attrs := [], elems := [] } : DStep)]))), (2, .row 3 true (List.map elemT a)), (3, .row 3 false (List.map elemT []))]) (res' := .tup []) (by kernel_rfl) ?_ (by kernel_rfl) ?_
      · -- end 1, objects
        have e1 : ((flushD ⟨o, a, c⟩).length : Nat) = ((o ++ [({ kind := 1, n := 0, attrs := [], elems := a } : DStep)]) ++ [({ kind := 2, n := c, attrs := [], elems := [] } : DStep)]).length := by
          unfold flushD; simp only; (repeat (first | rw [if_pos (by omega)] | rw [if_neg (by omega)])); try simp
        have e2 : ((flushD ⟨o, a, c⟩)) = ((o ++ [({ kind := 1, n := 0, attrs := [], elems := a } : DStep)]) ++ [({ kind := 2, n := c, attrs := [], elems := [] } : DStep)]) := by
          unfold flushD; simp only; (repeat (first | rw [if_pos (by omega)] | rw [if_neg (by omega)])); try simp
        show ([(0, .box [.row 1 (((o ++ [({ kind := 1, n := 0, attrs := [], elems := a } : DStep)]) ++ [({ kind := 2, n := c, attrs := [], elems := [] } : DStep)]).length), .row 3 0, .t (.sc (.int .i64 0))]), (1, .row 4 false (List.map dstepT ((o ++ [({ kind := 1, n := 0, attrs := [], elems := a } : DStep)]) ++ [({ kind := 2, n := c, attrs := [], elems := [] } : DStep)]))), (2, .row 3 true (List.map elemT a)), (3, .row 3 false (List.map elemT []))] : List (Nat × Ob)) = [(0, .box [.row 1 ((flushD ⟨o, a, c⟩).length), .row 3 0, .t (.sc (.int .i64 0))]), (1, .row 4 false (List.map dstepT (flushD ⟨o, a, c⟩))), (2, .row 3 true (List.map elemT a)), (3, .row 3 false (List.map elemT []))]
        rw [e1, e2]
        try rfl
      · -- end 1, result
        first | done | rfl
    · (try simp only [decide_eq_true_eq, decide_eq_false_iff_not, Int.not_lt, Int.not_le, gt_iff_lt] at h2)
      refine Sim.skip ?_
      refine andThen_normal ?_
      refine Sim.reg (orcs := []) (keys := []) (τ := [(0, 0), (1, 1), (2, 2)]) (nx := 275)
        (sl := []) (l := [(0, .box [.row 1 ((o ++ [({ kind := 1, n := 0, attrs := [], elems := a } : DStep)]).length), .t (.sc (.slice none 0 0)), .t (.sc (.int .i64 0))]), (1, .row 4 false (List.map dstepT (o ++ [({ kind := 1, n := 0, attrs := [], elems := a } : DStep)]))), (2, .row 3 true (List.map elemT a))])
        (C := []) (by kernel_rfl) ?_ ?_
      · -- region 4
        trivial
      refine Fin.le (Le.nilBox (b := 0) (i := 1) (k := 3) (id := 275) rfl rfl rfl rfl) ?_
      refine Fin.mk2 (.inr rfl) (τ := [(0, 0), (1, 1), (2, 2), (275, 3)]) (keys := []) (nx := 276) (sl := []) (l := [(0, .box [.row 1 ((o ++ [({ kind := 1, n := 0, attrs := [], elems := a } : DStep)]).length), .row 3 0, .t (.sc (.int .i64 0))]), (1, .row 4 false (List.map dstepT (o ++ [({ kind := 1, n := 0, attrs := [], elems := a } : DStep)]))), (2, .row 3 true (List.map elemT a)), (3, .row 3 false (List.map elemT []))]) (res' := .tup []) (by kernel_rfl) ?_ (by kernel_rfl) ?_
      · -- end 2, objects
        have e3 : ((flushD ⟨o, a, c⟩).length : Nat) = (o ++ [({ kind := 1, n := 0, attrs := [], elems := a } : DStep)]).length := by
          unfold flushD; simp only; (repeat (first | rw [if_pos (by omega)] | rw [if_neg (by omega)])); try simp
        have e4 : ((flushD ⟨o, a, c⟩)) = (o ++ [({ kind := 1, n := 0, attrs := [], elems := a } : DStep)]) := by
          unfold flushD; simp only; (repeat (first | rw [if_pos (by omega)] | rw [if_neg (by omega)])); try simp
        show ([(0, .box [.row 1 ((o ++ [({ kind := 1, n := 0, attrs := [], elems := a } : DStep)]).length), .row 3 0, .t (.sc (.int .i64 0))]), (1, .row 4 false (List.map dstepT (o ++ [({ kind := 1, n := 0, attrs := [], elems := a } : DStep)]))), (2, .row 3 true (List.map elemT a)), (3, .row 3 false (List.map elemT []))] : List (Nat × Ob)) = [(0, .box [.row 1 ((flushD ⟨o, a, c⟩).length), .row 3 0, .t (.sc (.int .i64 0))]), (1, .row 4 false (List.map dstepT (flushD ⟨o, a, c⟩))), (2, .row 3 true (List.map elemT a)), (3, .row 3 false (List.map elemT []))]
        rw [e3, e4]
        try rfl
      · -- end 2, result
        first | done | rfl
  · (try simp only [decide_eq_true_eq, decide_eq_false_iff_not, Int.not_lt, Int.not_le, gt_iff_lt] at h0)
    refine Sim.skip ?_
    refine andThen_normal ?_
    refine Sim.seq ?_
    refine Sim.seq ?_
    refine Sim.reg (orcs := []) (keys := [0, 26]) (τ := [(0, 0), (1, 1), (2, 2)]) (nx := 91)
      (sl := [(0, .ptr 0 0), (26, .t (.sc (.bool (decide (c > 0)))))]) (l := [(0, .box [.row 1 o.length, .row 2 a.length, .t (.sc (.int .i64 c))]), (1, .row 4 false (List.map dstepT o)), (2, .row 3 false (List.map elemT a))])
      (C := []) (by kernel_rfl) ?_ ?_
    · -- region 2
      trivial
    refine andThen_normal ?_
    refine Sim.cond (b := decide (c > 0)) (by kernel_rfl) (fun h2 => ?_) (fun h2 => ?_)
    · (try simp only [decide_eq_true_eq, decide_eq_false_iff_not, Int.not_lt, Int.not_le, gt_iff_lt] at h2)
      refine Sim.regD (by kernel_rfl) (orcs := [(9, ⟨some (.t (.agg [.sc (.int .i64 2), .sc (.int .i64 c), .lst 2 (List.map attrT []), .lst 3 (List.map elemT [])])), none, none, none⟩), (11, ⟨some (.row 1 ((o ++ [({ kind := 2, n := c, attrs := [], elems := [] } : DStep)]).length)), some ([(1, .row 4 false (List.map dstepT (o ++ [({ kind := 2, n := c, attrs := [], elems := [] } : DStep)])))]), none, none⟩)]) (keys := [0]) (τ := [(0, 0), (1, 1), (2, 2)]) (nx := 211)
        (sl := [(0, .ptr 0 0)]) (l := [(0, .box [.row 1 ((o ++ [({ kind := 2, n := c, attrs := [], elems := [] } : DStep)]).length), .row 2 a.length, .t (.sc (.int .i64 c))]), (1, .row 4 false (List.map dstepT (o ++ [({ kind := 2, n := c, attrs := [], elems := [] } : DStep)]))), (2, .row 3 false (List.map elemT a))])
        (C := [Weak (.t (.agg [.sc (.int .i64 2), .sc (.int .i64 c), .sc (.slice none 0 0), .sc (.slice none 0 0)])) (.t (.agg [.sc (.int .i64 2), .sc (.int .i64 c), .lst 2 (List.map attrT []), .lst 3 (List.map elemT [])])), 1 = (List.map dstepT [({ kind := 2, n := c, attrs := [], elems := [] } : DStep)]).length, (o.length : Nat) = (List.map dstepT o).length, (o.length : Nat) + (List.map dstepT [({ kind := 2, n := c, attrs := [], elems := [] } : DStep)]).length ≤ 1099511627776, Weak (.row 1 (o.length + (List.map dstepT [({ kind := 2, n := c, attrs := [], elems := [] } : DStep)]).length)) (.row 1 ((o ++ [({ kind := 2, n := c, attrs := [], elems := [] } : DStep)]).length)), ([(1, .row 4 false (List.map dstepT (o ++ [({ kind := 2, n := c, attrs := [], elems := [] } : DStep)])))] : List (Nat × Ob)) = [(1, .row 4 false (List.map dstepT o ++ List.map dstepT [({ kind := 2, n := c, attrs := [], elems := [] } : DStep)]))]]) (by kernel_rfl) ?_ ?_
      · -- region 3
        refine ⟨(Weak.agg ⟨.inl rfl, ⟨.inl rfl, ⟨tw_nil (by decide), ⟨tw_nil (by decide), trivial⟩⟩⟩⟩), ?_, ?_, ?_, (Weak.of_eq (by simp)), (row_append rfl), trivial⟩
        all_goals (first | omega | with_reducible exact fun h => h | (intro hg hq; rw [hg, hq]; rfl) | (intro hq; rw [hq]; done) | (intro hq; rw [hq]; rfl) | ((try intro hg); (try simp [-List.getD_eq_getElem?_getD] at hg); (try simp only [List.length_map]); first | done | omega | rfl | (simp; done) | (simp; omega) | (simp [hg]; done) | (intro hq; simp [hg, hq]; done) | (intro hq; simp [hg, hq]; omega)))
      refine andThen_normal ?_
      refine Sim.reg (orcs := []) (keys := []) (τ := [(0, 0), (1, 1), (2, 2)]) (nx := 275)
        (sl := []) (l := [(0, .box [.row 1 ((o ++ [({ kind := 2, n := c, attrs := [], elems := [] } : DStep)]).length), .t (.sc (.slice none 0 0)), .t (.sc (.int .i64 0))]), (1, .row 4 false (List.map dstepT (o ++ [({ kind := 2, n := c, attrs := [], elems := [] } : DStep)]))), (2, .row 3 false (List.map elemT a))])
        (C := []) (by kernel_rfl) ?_ ?_
      · -- region 4
        trivial
      refine Fin.le (Le.nilBox (b := 0) (i := 1) (k := 3) (id := 275) rfl rfl rfl rfl) ?_
      refine Fin.le (Le.fz (id := 2) (k := 3) (xs := List.map elemT a) rfl) ?_
      refine Fin.mk2 (.inr rfl) (τ := [(0, 0), (1, 1), (2, 2), (275, 3)]) (keys := []) (nx := 276) (sl := []) (l := [(0, .box [.row 1 ((o ++ [({ kind := 2, n := c, attrs := [], elems := [] } : DStep)]).length), .row 3 0, .t (.sc (.int .i64 0))]), (1, .row 4 false (List.map dstepT (o ++ [({ kind := 2, n := c, attrs := [], elems := [] } : DStep)]))), (2, .row 3 true (List.map elemT a)), (3, .row 3 false (List.map elemT []))]) (res' := .tup []) (by kernel_rfl) ?_ (by kernel_rfl) ?_
      · -- end 3, objects
        have e5 : ((flushD ⟨o, a, c⟩).length : Nat) = (o ++ [({ kind := 2, n := c, attrs := [], elems := [] } : DStep)]).length := by
          unfold flushD; simp only; (repeat (first | rw [if_pos (by omega)] | rw [if_neg (by omega)])); try simp
        have e6 : ((flushD ⟨o, a, c⟩)) = (o ++ [({ kind := 2, n := c, attrs := [], elems := [] } : DStep)]) := by
          unfold flushD; simp only; (repeat (first | rw [if_pos (by omega)] | rw [if_neg (by omega)])); try simp
        show ([(0, .box [.row 1 ((o ++ [({ kind := 2, n := c, attrs := [], elems := [] } : DStep)]).length), .row 3 0, .t (.sc (.int .i64 0))]), (1, .row 4 false (List.map dstepT (o ++ [({ kind := 2, n := c, attrs := [], elems := [] } : DStep)]))), (2, .row 3 true (List.map elemT a)), (3, .row 3 false (List.map elemT []))] : List (Nat × Ob)) = [(0, .box [.row 1 ((flushD ⟨o, a, c⟩).length), .row 3 0, .t (.sc (.int .i64 0))]), (1, .row 4 false (List.map dstepT (flushD ⟨o, a, c⟩))), (2, .row 3 true (List.map elemT a)), (3, .row 3 false (List.map elemT []))]
        rw [e5, e6]
        try rfl
      · -- end 3, result
        first | done | rfl
    · (try simp only [decide_eq_true_eq, decide_eq_false_iff_not, Int.not_lt, Int.not_le, gt_iff_lt] at h2)
      refine Sim.skip ?_
      refine andThen_normal ?_
      refine Sim.reg (orcs := []) (keys := []) (τ := [(0, 0), (1, 1), (2, 2)]) (nx := 155)
        (sl := []) (l := [(0, .box [.row 1 o.length, .t (.sc (.slice none 0 0)), .t (.sc (.int .i64 0))]), (1, .row 4 false (List.map dstepT o)), (2, .row 3 false (List.map elemT a))])
        (C := []) (by kernel_rfl) ?_ ?_
      · -- region 4
        trivial
      refine Fin.le (Le.nilBox (b := 0) (i := 1) (k := 3) (id := 155) rfl rfl rfl rfl) ?_
      refine Fin.le (Le.fz (id := 2) (k := 3) (xs := List.map elemT a) rfl) ?_
      refine Fin.mk2 (.inr rfl) (τ := [(0, 0), (1, 1), (2, 2), (155, 3)]) (keys := []) (nx := 156) (sl := []) (l := [(0, .box [.row 1 o.length, .row 3 0, .t (.sc (.int .i64 0))]), (1, .row 4 false (List.map dstepT o)), (2, .row 3 true (List.map elemT a)), (3, .row 3 false (List.map elemT []))]) (res' := .tup []) (by kernel_rfl) ?_ (by kernel_rfl) ?_
      · -- end 4, objects
        have e7 : ((flushD ⟨o, a, c⟩).length : Nat) = o.length := by
          unfold flushD; simp only; (repeat (first | rw [if_pos (by omega)] | rw [if_neg (by omega)])); try simp
        have e8 : ((flushD ⟨o, a, c⟩)) = o := by
          unfold flushD; simp only; (repeat (first | rw [if_pos (by omega)] | rw [if_neg (by omega)])); try simp
        show ([(0, .box [.row 1 o.length, .row 3 0, .t (.sc (.int .i64 0))]), (1, .row 4 false (List.map dstepT o)), (2, .row 3 true (List.map elemT a)), (3, .row 3 false (List.map elemT []))] : List (Nat × Ob)) = [(0, .box [.row 1 ((flushD ⟨o, a, c⟩).length), .row 3 0, .t (.sc (.int .i64 0))]), (1, .row 4 false (List.map dstepT (flushD ⟨o, a, c⟩))), (2, .row 3 true (List.map elemT a)), (3, .row 3 false (List.map elemT []))]
        rw [e7, e8]
        try rfl
      · -- end 4, result
        first | done | rfl

theorem fc_dElems (o : List DStep) (a : List Elem) (c : Int) (e : List Elem) (hs : AN 400000000000 e) (ho : a.length + e.length ≤ 100000000000) : FC Try.prog 104 [.ptr 0 0, .t (.lst 3 (List.map elemT e))] (app emp [(0, .box [.row 1 o.length, .row 2 a.length, .t (.sc (.int .i64 c))]), (1, .row 4 false (List.map dstepT o)), (2, .row 3 false (List.map elemT a))]) (.tup []) (app emp [(0, .box [.row 1 o.length, .row 2 ((a ++ e).length), .t (.sc (.int .i64 c))]), (1, .row 4 false (List.map dstepT o)), (2, .row 3 false (List.map elemT (a ++ e)))]) := by
  refine FC.of_sim (fn := Try.f104) (nx := 3) (by kernel_rfl) rfl (by kernel_rfl) rfl ?_
  show Sim _ _ _ _ ⟨[(0, .ptr 0 0), (1, .t (.lst 3 (List.map elemT e)))], app emp [(0, .box [.row 1 o.length, .row 2 a.length, .t (.sc (.int .i64 c))]), (1, .row 4 false (List.map dstepT o)), (2, .row 3 false (List.map elemT a))], 3⟩ _
  refine Sim.len (t := 1) (k := 3) rfl (fun hl1 => ?_)
  rw [List.length_map] at hl1
  refine Sim.regD (by kernel_rfl) (orcs := [(6, ⟨none, none, none, some (⟨1, [], .t (.lst 3 (List.map elemT e)), []⟩)⟩), (7, ⟨some (.row 2 ((a ++ e).length)), some ([(2, .row 3 false (List.map elemT (a ++ e)))]), none, none⟩)]) (keys := []) (τ := [(0, 0), (1, 1), (2, 2)]) (nx := 91)
    (sl := []) (l := [(0, .box [.row 1 o.length, .row 2 ((a ++ e).length), .t (.sc (.int .i64 c))]), (1, .row 4 false (List.map dstepT o)), (2, .row 3 false (List.map elemT (a ++ e)))])
    (C := [callable Try.prog 137 = true, FC Try.prog 137 [.t (.lst 3 (List.map elemT e))] emp (.t (.lst 3 (List.map elemT e))) (app emp []), (a.length : Nat) = (List.map elemT a).length, (a.length : Nat) + (List.map elemT e).length ≤ 1099511627776, Weak (.row 2 (a.length + (List.map elemT e).length)) (.row 2 ((a ++ e).length)), ([(2, .row 3 false (List.map elemT (a ++ e)))] : List (Nat × Ob)) = [(2, .row 3 false (List.map elemT a ++ List.map elemT e))]]) (by kernel_rfl) ?_ ?_
  · -- region 0
    refine ⟨(by kernel_rfl), (fc_copy e (by omega) (by assumption)), ?_, ?_, (Weak.of_eq (by simp)), (row_append rfl), trivial⟩
    all_goals (first | omega | with_reducible exact fun h => h | (intro hg hq; rw [hg, hq]; rfl) | (intro hq; rw [hq]; done) | (intro hq; rw [hq]; rfl) | ((try intro hg); (try simp [-List.getD_eq_getElem?_getD] at hg); (try simp only [List.length_map]); first | done | omega | rfl | (simp; done) | (simp; omega) | (simp [hg]; done) | (intro hq; simp [hg, hq]; done) | (intro hq; simp [hg, hq]; omega)))
  refine Fin.mk2 (.inr rfl) (τ := [(0, 0), (1, 1), (2, 2)]) (keys := []) (nx := 91) (sl := []) (l := [(0, .box [.row 1 o.length, .row 2 ((a ++ e).length), .t (.sc (.int .i64 c))]), (1, .row 4 false (List.map dstepT o)), (2, .row 3 false (List.map elemT (a ++ e)))]) (res' := .tup []) (by kernel_rfl) ?_ (by kernel_rfl) ?_
  · -- end 1, objects
    first | done | rfl
  · -- end 1, result
    first | done | rfl

theorem fc_dKeep (o : List DStep) (a : List Elem) (c : Int) (n : Int) (l : List Attr) (ho : o.length ≤ 100000000000) (hl : l.length ≤ 400000000000) (hn : 1 ≤ n ∧ n ≤ 2147483647) (hk : ∀ s ∈ flushD ⟨o, a, c⟩, 0 ≤ s.n ∧ s.n ≤ 10000000000) : FC Try.prog 103 [.ptr 0 0, .t (.sc (.int .i64 n)), .t (.lst 2 (List.map attrT l))] (app emp [(0, .box [.row 1 o.length, .row 2 a.length, .t (.sc (.int .i64 c))]), (1, .row 4 false (List.map dstepT o)), (2, .row 3 false (List.map elemT a))]) (.tup []) (app emp [(0, .box [.row 1 ((keepD (flushD ⟨o, a, c⟩) n l).length), .row 3 0, .t (.sc (.int .i64 0))]), (1, .row 4 false (List.map dstepT (keepD (flushD ⟨o, a, c⟩) n l))), (2, .row 3 true (List.map elemT a)), (3, .row 3 false (List.map elemT []))]) := by
  refine FC.of_sim (fn := Try.f103) (nx := 3) (by kernel_rfl) rfl (by kernel_rfl) rfl ?_
  show Sim _ _ _ _ ⟨[(0, .ptr 0 0), (1, .t (.sc (.int .i64 n))), (2, .t (.lst 2 (List.map attrT l)))], app emp [(0, .box [.row 1 o.length, .row 2 a.length, .t (.sc (.int .i64 c))]), (1, .row 4 false (List.map dstepT o)), (2, .row 3 false (List.map elemT a))], 3⟩ _
  refine Sim.len (t := 2) (k := 2) rfl (fun hl2 => ?_)
  rw [List.length_map] at hl2
  have hfl := flushD_len ⟨o, a, c⟩
  simp only at hfl
  refine Sim.seq ?_
  refine Sim.seq ?_
  refine Sim.reg (orcs := []) (keys := [0, 1, 2, 8]) (τ := [(0, 0), (1, 1), (2, 2)]) (nx := 19)
    (sl := [(0, .ptr 0 0), (1, .t (.sc (.int .i64 n))), (2, .t (.lst 2 (List.map attrT l))), (8, .t (.sc (.bool (n == 0))))]) (l := [(0, .box [.row 1 o.length, .row 2 a.length, .t (.sc (.int .i64 c))]), (1, .row 4 false (List.map dstepT o)), (2, .row 3 false (List.map elemT a))])
    (C := []) (by kernel_rfl) ?_ ?_
  · -- region 0
    trivial
  refine andThen_normal ?_
  refine Sim.cond (b := (n == 0)) (by kernel_rfl) (fun h0 => ?_) (fun h0 => ?_)
  · (try simp only [beq_iff_eq, beq_eq_false_iff_ne, ne_eq] at h0)
    exfalso
    omega
  · (try simp only [beq_iff_eq, beq_eq_false_iff_ne, ne_eq] at h0)
    refine Sim.skip ?_
    refine andThen_normal ?_
    refine Sim.seq ?_
    refine Sim.reg (orcs := [(1, ⟨none, none, none, some (⟨2, [0, 1, 2], .tup [], [(0, .box [.row 1 ((flushD ⟨o, a, c⟩).length), .row 27 0, .t (.sc (.int .i64 0))]), (1, .row 4 false (List.map dstepT (flushD ⟨o, a, c⟩))), (2, .row 3 true (List.map elemT a)), (27, .row 3 false (List.map elemT []))]⟩)⟩)]) (keys := [0, 1, 2]) (τ := [(0, 0), (1, 1), (2, 2), (27, 27)]) (nx := 35)
      (sl := [(0, .ptr 0 0), (1, .t (.sc (.int .i64 n))), (2, .t (.lst 2 (List.map attrT l)))]) (l := [(0, .box [.row 1 ((flushD ⟨o, a, c⟩).length), .row 27 0, .t (.sc (.int .i64 0))]), (1, .row 4 false (List.map dstepT (flushD ⟨o, a, c⟩))), (2, .row 3 true (List.map elemT a)), (27, .row 3 false (List.map elemT []))])
      (C := [callable Try.prog 135 = true, FC Try.prog 135 [.ptr 0 0] (only (only (app emp [(0, .box [.row 1 o.length, .row 2 a.length, .t (.sc (.int .i64 c))]), (1, .row 4 false (List.map dstepT o)), (2, .row 3 false (List.map elemT a))]) [0, 0, 1, 2]) [0, 1, 2]) (.tup []) (app (only (only (app emp [(0, .box [.row 1 o.length, .row 2 a.length, .t (.sc (.int .i64 c))]), (1, .row 4 false (List.map dstepT o)), (2, .row 3 false (List.map elemT a))]) [0, 0, 1, 2]) [0, 1, 2]) [(0, .box [.row 1 ((flushD ⟨o, a, c⟩).length), .row 27 0, .t (.sc (.int .i64 0))]), (1, .row 4 false (List.map dstepT (flushD ⟨o, a, c⟩))), (2, .row 3 true (List.map elemT a)), (27, .row 3 false (List.map elemT []))])]) (by kernel_rfl) ?_ ?_
    · -- region 1
      exact ⟨(by kernel_rfl), (FC.at (FC.ren (fc_dFlush o a c (by omega)) [(0, 0), (1, 1), (2, 2)] [(0, 0), (1, 1), (2, 2), (3, 27)] (l0' := [(0, .box [.row 1 o.length, .row 2 a.length, .t (.sc (.int .i64 c))]), (1, .row 4 false (List.map dstepT o)), (2, .row 3 false (List.map elemT a))]) (args' := [.ptr 0 0]) (res' := .tup []) (l1' := [(0, .box [.row 1 ((flushD ⟨o, a, c⟩).length), .row 27 0, .t (.sc (.int .i64 0))]), (1, .row 4 false (List.map dstepT (flushD ⟨o, a, c⟩))), (2, .row 3 true (List.map elemT a)), (27, .row 3 false (List.map elemT []))]) (by kernel_rfl) (by kernel_rfl) (by kernel_rfl) (by kernel_rfl) (by kernel_rfl) (by kernel_rfl)) (fun i => by by_cases e0 : i = 0; (subst e0; rfl); by_cases e1 : i = 1; (subst e1; rfl); by_cases e2 : i = 2; (subst e2; rfl); by_cases e3 : i = 27; (subst e3; rfl); simp only [only, app, upd, emp, hasId, cond_false, beq_ne e0, beq_ne (Ne.symm e0), beq_ne e1, beq_ne (Ne.symm e1), beq_ne e2, beq_ne (Ne.symm e2), beq_ne e3, beq_ne (Ne.symm e3)]) (fun i => by by_cases e0 : i = 0; (subst e0; rfl); by_cases e1 : i = 1; (subst e1; rfl); by_cases e2 : i = 2; (subst e2; rfl); by_cases e3 : i = 27; (subst e3; rfl); simp only [only, app, upd, emp, hasId, cond_false, beq_ne e0, beq_ne (Ne.symm e0), beq_ne e1, beq_ne (Ne.symm e1), beq_ne e2, beq_ne (Ne.symm e2), beq_ne e3, beq_ne (Ne.symm e3)])), trivial⟩
    refine andThen_normal ?_
    refine Sim.seq ?_
    refine Sim.seq ?_
    refine Sim.reg (orcs := [(5, ⟨some (.t (.sc (.int .i64 (((flushD ⟨o, a, c⟩).length : Int) - 1)))), none, none, none⟩)]) (keys := [0, 1, 2, 6]) (τ := [(0, 0), (1, 1), (2, 2), (27, 27)]) (nx := 91)
      (sl := [(0, .ptr 0 0), (1, .t (.sc (.int .i64 n))), (2, .t (.lst 2 (List.map attrT l))), (6, .t (.sc (.int .i64 (((flushD ⟨o, a, c⟩).length : Int) - 1))))]) (l := [(0, .box [.row 1 ((flushD ⟨o, a, c⟩).length), .row 27 0, .t (.sc (.int .i64 0))]), (1, .row 4 false (List.map dstepT (flushD ⟨o, a, c⟩))), (2, .row 3 true (List.map elemT a)), (27, .row 3 false (List.map elemT []))])
      (C := [Weak (.t (.sc (.int .i64 (IntKind.i64.wrap (((flushD ⟨o, a, c⟩).length : Int) - 1))))) (.t (.sc (.int .i64 (((flushD ⟨o, a, c⟩).length : Int) - 1))))]) (by kernel_rfl) ?_ ?_
    · -- region 2
      refine ⟨(Weak.of_eq (nw ?_)), trivial⟩
      all_goals omega
    refine andThen_normal ?_
    refine Sim.seq ?_
    have hlast := fun h : 0 < (flushD ⟨o, a, c⟩).length => hk _ (lastD_mem h)
    refine Sim.reg (orcs := [(8, ⟨some (.eptr 1 ((flushD ⟨o, a, c⟩).length) (((flushD ⟨o, a, c⟩).length) - 1) 0), none, none, none⟩), (10, ⟨none, none, some (dstepT ((flushD ⟨o, a, c⟩).getD (((flushD ⟨o, a, c⟩).length) - 1) default)), none⟩), (19, ⟨some (.eptr 1 ((flushD ⟨o, a, c⟩).length) (((flushD ⟨o, a, c⟩).length) - 1) 0), none, none, none⟩), (21, ⟨none, none, some (dstepT ((flushD ⟨o, a, c⟩).getD (((flushD ⟨o, a, c⟩).length) - 1) default)), none⟩), (23, ⟨none, none, none, some (⟨0, [], .t (.sc (.bool (sameL ((((flushD ⟨o, a, c⟩).getD (((flushD ⟨o, a, c⟩).length) - 1) default)).attrs) l))), []⟩)⟩)]) (keys := [0, 1, 2, 6, 41]) (τ := [(0, 0), (1, 1), (2, 2), (27, 27)]) (nx := 291)
      (sl := [(0, .ptr 0 0), (1, .t (.sc (.int .i64 n))), (2, .t (.lst 2 (List.map attrT l))), (6, .t (.sc (.int .i64 (((flushD ⟨o, a, c⟩).length : Int) - 1)))), (41, .t (.sc (.bool ((decide ((((flushD ⟨o, a, c⟩).length : Int) - 1) ≥ 0) && (((((flushD ⟨o, a, c⟩).getD (((flushD ⟨o, a, c⟩).length) - 1) default)).kind) == 0)) && (sameL ((((flushD ⟨o, a, c⟩).getD (((flushD ⟨o, a, c⟩).length) - 1) default)).attrs) l)))))]) (l := [(0, .box [.row 1 ((flushD ⟨o, a, c⟩).length), .row 27 0, .t (.sc (.int .i64 0))]), (1, .row 4 false (List.map dstepT (flushD ⟨o, a, c⟩))), (2, .row 3 true (List.map elemT a)), (27, .row 3 false (List.map elemT []))])
      (C := [(decide ((((flushD ⟨o, a, c⟩).length : Int) - 1) ≥ 0)) = true → (decide ((((flushD ⟨o, a, c⟩).length : Int) - 1) ≥ 0)) = true, (decide ((((flushD ⟨o, a, c⟩).length : Int) - 1) ≥ 0)) = true → (decide ((((flushD ⟨o, a, c⟩).length : Int) - 1) ≥ 0)) = true, (decide ((((flushD ⟨o, a, c⟩).length : Int) - 1) ≥ 0)) = true → (decide ((((flushD ⟨o, a, c⟩).length : Int) - 1) ≥ 0)) = true, (decide ((((flushD ⟨o, a, c⟩).length : Int) - 1) ≥ 0)) = true → (decide ((((flushD ⟨o, a, c⟩).length : Int) - 1) ≥ 0)) = true, (decide ((((flushD ⟨o, a, c⟩).length : Int) - 1) ≥ 0)) = true → (decide ((((flushD ⟨o, a, c⟩).length : Int) - 1) ≥ 0)) = true, (decide ((((flushD ⟨o, a, c⟩).length : Int) - 1) ≥ 0)) = true → (((flushD ⟨o, a, c⟩).length) : Nat) = (List.map dstepT (flushD ⟨o, a, c⟩)).length, (decide ((((flushD ⟨o, a, c⟩).length : Int) - 1) ≥ 0)) = true → (0:Int) ≤ (((flushD ⟨o, a, c⟩).length : Int) - 1), (decide ((((flushD ⟨o, a, c⟩).length : Int) - 1) ≥ 0)) = true → (((flushD ⟨o, a, c⟩).length : Int) - 1) < (((flushD ⟨o, a, c⟩).length : Nat) : Int), (decide ((((flushD ⟨o, a, c⟩).length : Int) - 1) ≥ 0)) = true → Weak (.eptr 1 ((flushD ⟨o, a, c⟩).length) (Int.toNat (((flushD ⟨o, a, c⟩).length : Int) - 1)) 0) (.eptr 1 ((flushD ⟨o, a, c⟩).length) (((flushD ⟨o, a, c⟩).length) - 1) 0), (decide ((((flushD ⟨o, a, c⟩).length : Int) - 1) ≥ 0)) = true → (decide ((((flushD ⟨o, a, c⟩).length : Int) - 1) ≥ 0)) = true, (decide ((((flushD ⟨o, a, c⟩).length : Int) - 1) ≥ 0)) = true → (decide ((((flushD ⟨o, a, c⟩).length : Int) - 1) ≥ 0)) = true, (decide ((((flushD ⟨o, a, c⟩).length : Int) - 1) ≥ 0)) = true → (((flushD ⟨o, a, c⟩).length) : Nat) = (List.map dstepT (flushD ⟨o, a, c⟩)).length, (decide ((((flushD ⟨o, a, c⟩).length : Int) - 1) ≥ 0)) = true → (List.map dstepT (flushD ⟨o, a, c⟩))[(((flushD ⟨o, a, c⟩).length) - 1)]? = some (dstepT ((flushD ⟨o, a, c⟩).getD (((flushD ⟨o, a, c⟩).length) - 1) default)), (decide ((((flushD ⟨o, a, c⟩).length : Int) - 1) ≥ 0)) = true → (decide ((((flushD ⟨o, a, c⟩).length : Int) - 1) ≥ 0)) = true, (decide ((((flushD ⟨o, a, c⟩).length : Int) - 1) ≥ 0)) = true → (decide ((((flushD ⟨o, a, c⟩).length : Int) - 1) ≥ 0)) = true, (decide ((((flushD ⟨o, a, c⟩).length : Int) - 1) ≥ 0) && (((((flushD ⟨o, a, c⟩).getD (((flushD ⟨o, a, c⟩).length) - 1) default)).kind) == 0)) = true → (decide ((((flushD ⟨o, a, c⟩).length : Int) - 1) ≥ 0) && (((((flushD ⟨o, a, c⟩).getD (((flushD ⟨o, a, c⟩).length) - 1) default)).kind) == 0)) = true, (decide ((((flushD ⟨o, a, c⟩).length : Int) - 1) ≥ 0) && (((((flushD ⟨o, a, c⟩).getD (((flushD ⟨o, a, c⟩).length) - 1) default)).kind) == 0)) = true → (decide ((((flushD ⟨o, a, c⟩).length : Int) - 1) ≥ 0) && (((((flushD ⟨o, a, c⟩).getD (((flushD ⟨o, a, c⟩).length) - 1) default)).kind) == 0)) = true, (decide ((((flushD ⟨o, a, c⟩).length : Int) - 1) ≥ 0) && (((((flushD ⟨o, a, c⟩).getD (((flushD ⟨o, a, c⟩).length) - 1) default)).kind) == 0)) = true → (decide ((((flushD ⟨o, a, c⟩).length : Int) - 1) ≥ 0) && (((((flushD ⟨o, a, c⟩).getD (((flushD ⟨o, a, c⟩).length) - 1) default)).kind) == 0)) = true, (decide ((((flushD ⟨o, a, c⟩).length : Int) - 1) ≥ 0) && (((((flushD ⟨o, a, c⟩).getD (((flushD ⟨o, a, c⟩).length) - 1) default)).kind) == 0)) = true → (decide ((((flushD ⟨o, a, c⟩).length : Int) - 1) ≥ 0) && (((((flushD ⟨o, a, c⟩).getD (((flushD ⟨o, a, c⟩).length) - 1) default)).kind) == 0)) = true, (decide ((((flushD ⟨o, a, c⟩).length : Int) - 1) ≥ 0) && (((((flushD ⟨o, a, c⟩).getD (((flushD ⟨o, a, c⟩).length) - 1) default)).kind) == 0)) = true → (decide ((((flushD ⟨o, a, c⟩).length : Int) - 1) ≥ 0) && (((((flushD ⟨o, a, c⟩).getD (((flushD ⟨o, a, c⟩).length) - 1) default)).kind) == 0)) = true, (decide ((((flushD ⟨o, a, c⟩).length : Int) - 1) ≥ 0) && (((((flushD ⟨o, a, c⟩).getD (((flushD ⟨o, a, c⟩).length) - 1) default)).kind) == 0)) = true → (((flushD ⟨o, a, c⟩).length) : Nat) = (List.map dstepT (flushD ⟨o, a, c⟩)).length, (decide ((((flushD ⟨o, a, c⟩).length : Int) - 1) ≥ 0) && (((((flushD ⟨o, a, c⟩).getD (((flushD ⟨o, a, c⟩).length) - 1) default)).kind) == 0)) = true → (0:Int) ≤ (((flushD ⟨o, a, c⟩).length : Int) - 1), (decide ((((flushD ⟨o, a, c⟩).length : Int) - 1) ≥ 0) && (((((flushD ⟨o, a, c⟩).getD (((flushD ⟨o, a, c⟩).length) - 1) default)).kind) == 0)) = true → (((flushD ⟨o, a, c⟩).length : Int) - 1) < (((flushD ⟨o, a, c⟩).length : Nat) : Int), (decide ((((flushD ⟨o, a, c⟩).length : Int) - 1) ≥ 0) && (((((flushD ⟨o, a, c⟩).getD (((flushD ⟨o, a, c⟩).length) - 1) default)).kind) == 0)) = true → Weak (.eptr 1 ((flushD ⟨o, a, c⟩).length) (Int.toNat (((flushD ⟨o, a, c⟩).length : Int) - 1)) 0) (.eptr 1 ((flushD ⟨o, a, c⟩).length) (((flushD ⟨o, a, c⟩).length) - 1) 0), (decide ((((flushD ⟨o, a, c⟩).length : Int) - 1) ≥ 0) && (((((flushD ⟨o, a, c⟩).getD (((flushD ⟨o, a, c⟩).length) - 1) default)).kind) == 0)) = true → (decide ((((flushD ⟨o, a, c⟩).length : Int) - 1) ≥ 0) && (((((flushD ⟨o, a, c⟩).getD (((flushD ⟨o, a, c⟩).length) - 1) default)).kind) == 0)) = true, (decide ((((flushD ⟨o, a, c⟩).length : Int) - 1) ≥ 0) && (((((flushD ⟨o, a, c⟩).getD (((flushD ⟨o, a, c⟩).length) - 1) default)).kind) == 0)) = true → (decide ((((flushD ⟨o, a, c⟩).length : Int) - 1) ≥ 0) && (((((flushD ⟨o, a, c⟩).getD (((flushD ⟨o, a, c⟩).length) - 1) default)).kind) == 0)) = true, (decide ((((flushD ⟨o, a, c⟩).length : Int) - 1) ≥ 0) && (((((flushD ⟨o, a, c⟩).getD (((flushD ⟨o, a, c⟩).length) - 1) default)).kind) == 0)) = true → (((flushD ⟨o, a, c⟩).length) : Nat) = (List.map dstepT (flushD ⟨o, a, c⟩)).length, (decide ((((flushD ⟨o, a, c⟩).length : Int) - 1) ≥ 0) && (((((flushD ⟨o, a, c⟩).getD (((flushD ⟨o, a, c⟩).length) - 1) default)).kind) == 0)) = true → (List.map dstepT (flushD ⟨o, a, c⟩))[(((flushD ⟨o, a, c⟩).length) - 1)]? = some (dstepT ((flushD ⟨o, a, c⟩).getD (((flushD ⟨o, a, c⟩).length) - 1) default)), (decide ((((flushD ⟨o, a, c⟩).length : Int) - 1) ≥ 0) && (((((flushD ⟨o, a, c⟩).getD (((flushD ⟨o, a, c⟩).length) - 1) default)).kind) == 0)) = true → (decide ((((flushD ⟨o, a, c⟩).length : Int) - 1) ≥ 0) && (((((flushD ⟨o, a, c⟩).getD (((flushD ⟨o, a, c⟩).length) - 1) default)).kind) == 0)) = true, (decide ((((flushD ⟨o, a, c⟩).length : Int) - 1) ≥ 0) && (((((flushD ⟨o, a, c⟩).getD (((flushD ⟨o, a, c⟩).length) - 1) default)).kind) == 0)) = true → (decide ((((flushD ⟨o, a, c⟩).length : Int) - 1) ≥ 0) && (((((flushD ⟨o, a, c⟩).getD (((flushD ⟨o, a, c⟩).length) - 1) default)).kind) == 0)) = true, (decide ((((flushD ⟨o, a, c⟩).length : Int) - 1) ≥ 0) && (((((flushD ⟨o, a, c⟩).getD (((flushD ⟨o, a, c⟩).length) - 1) default)).kind) == 0)) = true → callable Try.prog 136 = true, (decide ((((flushD ⟨o, a, c⟩).length : Int) - 1) ≥ 0) && (((((flushD ⟨o, a, c⟩).getD (((flushD ⟨o, a, c⟩).length) - 1) default)).kind) == 0)) = true → FC Try.prog 136 [.t (.lst 2 (List.map attrT ((((flushD ⟨o, a, c⟩).getD (((flushD ⟨o, a, c⟩).length) - 1) default)).attrs))), .t (.lst 2 (List.map attrT l))] emp (.t (.sc (.bool (sameL ((((flushD ⟨o, a, c⟩).getD (((flushD ⟨o, a, c⟩).length) - 1) default)).attrs) l)))) emp, (decide ((((flushD ⟨o, a, c⟩).length : Int) - 1) ≥ 0) && (((((flushD ⟨o, a, c⟩).getD (((flushD ⟨o, a, c⟩).length) - 1) default)).kind) == 0)) = true → (decide ((((flushD ⟨o, a, c⟩).length : Int) - 1) ≥ 0) && (((((flushD ⟨o, a, c⟩).getD (((flushD ⟨o, a, c⟩).length) - 1) default)).kind) == 0)) = true]) (by kernel_rfl) ?_ ?_
    · -- region 3
      refine ⟨?_, ?_, ?_, ?_, ?_, ?_, ?_, ?_, (fun hg => (Weak.of_eq (eptr_eq ?_))), ?_, ?_, ?_, (fun hg => (elt_nat ?_)), ?_, ?_, ?_, ?_, ?_, ?_, ?_, ?_, ?_, ?_, (fun hg => (Weak.of_eq (eptr_eq ?_))), ?_, ?_, ?_, (fun hg => (elt_nat ?_)), ?_, ?_, (fun hg => by (try simp only [decide_eq_true_eq, decide_eq_false_iff_not, Int.not_lt, Int.not_le, ge_iff_le, Bool.and_eq_true, Bool.and_eq_false_iff, Bool.not_eq_true', Bool.not_eq_false', beq_iff_eq, beq_eq_false_iff_ne, ne_eq] at hg); exact (by kernel_rfl)), (fun hg => by (try simp only [decide_eq_true_eq, decide_eq_false_iff_not, Int.not_lt, Int.not_le, ge_iff_le, Bool.and_eq_true, Bool.and_eq_false_iff, Bool.not_eq_true', Bool.not_eq_false', beq_iff_eq, beq_eq_false_iff_ne, ne_eq] at hg); exact (fc_attrSame ((((flushD ⟨o, a, c⟩).getD (((flushD ⟨o, a, c⟩).length) - 1) default)).attrs) l)), ?_, trivial⟩
      all_goals (first | omega | with_reducible exact fun h => h | (intro hg hq; rw [hg, hq]; rfl) | (intro hq; rw [hq]; done) | (intro hq; rw [hq]; rfl) | ((try intro hg); (try simp [-List.getD_eq_getElem?_getD] at hg); (try simp only [List.length_map]); first | done | omega | rfl | (simp; done) | (simp; omega) | (simp [hg]; done) | (intro hq; simp [hg, hq]; done) | (intro hq; simp [hg, hq]; omega)))
    refine andThen_normal ?_
    refine Sim.cond (b := ((decide ((((flushD ⟨o, a, c⟩).length : Int) - 1) ≥ 0) && (((((flushD ⟨o, a, c⟩).getD (((flushD ⟨o, a, c⟩).length) - 1) default)).kind) == 0)) && (sameL ((((flushD ⟨o, a, c⟩).getD (((flushD ⟨o, a, c⟩).length) - 1) default)).attrs) l))) (by kernel_rfl) (fun h3 => ?_) (fun h3 => ?_)
    · (try simp only [decide_eq_true_eq, decide_eq_false_iff_not, Int.not_lt, Int.not_le, ge_iff_le, Bool.and_eq_true, Bool.and_eq_false_iff, Bool.not_eq_true', Bool.not_eq_false', beq_iff_eq, beq_eq_false_iff_ne, ne_eq] at h3)
      refine Sim.seq ?_
      refine Sim.reg (orcs := [(5, ⟨some (.eptr 1 ((flushD ⟨o, a, c⟩).length) (((flushD ⟨o, a, c⟩).length) - 1) 0), none, none, none⟩), (7, ⟨none, none, some (dstepT ((flushD ⟨o, a, c⟩).getD (((flushD ⟨o, a, c⟩).length) - 1) default)), none⟩), (9, ⟨some (.t (.sc (.int .i64 (((((flushD ⟨o, a, c⟩).getD (((flushD ⟨o, a, c⟩).length) - 1) default)).n) + n)))), none, none, none⟩), (10, ⟨some (.eptr 1 ((flushD ⟨o, a, c⟩).length) (((flushD ⟨o, a, c⟩).length) - 1) 0), none, none, none⟩), (12, ⟨none, some ([(1, .row 4 false (List.map dstepT ((flushD ⟨o, a, c⟩).set (((flushD ⟨o, a, c⟩).length) - 1) ({ kind := (((flushD ⟨o, a, c⟩).getD (((flushD ⟨o, a, c⟩).length) - 1) default)).kind, n := (((((flushD ⟨o, a, c⟩).getD (((flushD ⟨o, a, c⟩).length) - 1) default)).n) + n), attrs := (((flushD ⟨o, a, c⟩).getD (((flushD ⟨o, a, c⟩).length) - 1) default)).attrs, elems := (((flushD ⟨o, a, c⟩).getD (((flushD ⟨o, a, c⟩).length) - 1) default)).elems } : DStep))))]), some (dstepT ((flushD ⟨o, a, c⟩).getD (((flushD ⟨o, a, c⟩).length) - 1) default)), none⟩)]) (keys := []) (τ := [(0, 0), (1, 1), (2, 2), (27, 27)]) (nx := 395)
        (sl := []) (l := [(0, .box [.row 1 ((flushD ⟨o, a, c⟩).length), .row 27 0, .t (.sc (.int .i64 0))]), (1, .row 4 false (List.map dstepT ((flushD ⟨o, a, c⟩).set (((flushD ⟨o, a, c⟩).length) - 1) ({ kind := (((flushD ⟨o, a, c⟩).getD (((flushD ⟨o, a, c⟩).length) - 1) default)).kind, n := (((((flushD ⟨o, a, c⟩).getD (((flushD ⟨o, a, c⟩).length) - 1) default)).n) + n), attrs := (((flushD ⟨o, a, c⟩).getD (((flushD ⟨o, a, c⟩).length) - 1) default)).attrs, elems := (((flushD ⟨o, a, c⟩).getD (((flushD ⟨o, a, c⟩).length) - 1) default)).elems } : DStep)))), (2, .row 3 true (List.map elemT a)), (27, .row 3 false (List.map elemT []))])
        (C := [(((flushD ⟨o, a, c⟩).length) : Nat) = (List.map dstepT (flushD ⟨o, a, c⟩)).length, (0:Int) ≤ (((flushD ⟨o, a, c⟩).length : Int) - 1), (((flushD ⟨o, a, c⟩).length : Int) - 1) < (((flushD ⟨o, a, c⟩).length : Nat) : Int), Weak (.eptr 1 ((flushD ⟨o, a, c⟩).length) (Int.toNat (((flushD ⟨o, a, c⟩).length : Int) - 1)) 0) (.eptr 1 ((flushD ⟨o, a, c⟩).length) (((flushD ⟨o, a, c⟩).length) - 1) 0), (((flushD ⟨o, a, c⟩).length) : Nat) = (List.map dstepT (flushD ⟨o, a, c⟩)).length, (List.map dstepT (flushD ⟨o, a, c⟩))[(((flushD ⟨o, a, c⟩).length) - 1)]? = some (dstepT ((flushD ⟨o, a, c⟩).getD (((flushD ⟨o, a, c⟩).length) - 1) default)), Weak (.t (.sc (.int .i64 (IntKind.i64.wrap (((((flushD ⟨o, a, c⟩).getD (((flushD ⟨o, a, c⟩).length) - 1) default)).n) + n))))) (.t (.sc (.int .i64 (((((flushD ⟨o, a, c⟩).getD (((flushD ⟨o, a, c⟩).length) - 1) default)).n) + n)))), (((flushD ⟨o, a, c⟩).length) : Nat) = (List.map dstepT (flushD ⟨o, a, c⟩)).length, (0:Int) ≤ (((flushD ⟨o, a, c⟩).length : Int) - 1), (((flushD ⟨o, a, c⟩).length : Int) - 1) < (((flushD ⟨o, a, c⟩).length : Nat) : Int), Weak (.eptr 1 ((flushD ⟨o, a, c⟩).length) (Int.toNat (((flushD ⟨o, a, c⟩).length : Int) - 1)) 0) (.eptr 1 ((flushD ⟨o, a, c⟩).length) (((flushD ⟨o, a, c⟩).length) - 1) 0), (((flushD ⟨o, a, c⟩).length) : Nat) = (List.map dstepT (flushD ⟨o, a, c⟩)).length, (List.map dstepT (flushD ⟨o, a, c⟩))[(((flushD ⟨o, a, c⟩).length) - 1)]? = some (dstepT ((flushD ⟨o, a, c⟩).getD (((flushD ⟨o, a, c⟩).length) - 1) default)), ([(1, .row 4 false (List.map dstepT ((flushD ⟨o, a, c⟩).set (((flushD ⟨o, a, c⟩).length) - 1) ({ kind := (((flushD ⟨o, a, c⟩).getD (((flushD ⟨o, a, c⟩).length) - 1) default)).kind, n := (((((flushD ⟨o, a, c⟩).getD (((flushD ⟨o, a, c⟩).length) - 1) default)).n) + n), attrs := (((flushD ⟨o, a, c⟩).getD (((flushD ⟨o, a, c⟩).length) - 1) default)).attrs, elems := (((flushD ⟨o, a, c⟩).getD (((flushD ⟨o, a, c⟩).length) - 1) default)).elems } : DStep))))] : List (Nat × Ob)) = [(1, .row 4 false ((List.map dstepT (flushD ⟨o, a, c⟩)).set (((flushD ⟨o, a, c⟩).length) - 1) (.agg [.sc (.int .i64 ((((flushD ⟨o, a, c⟩).getD (((flushD ⟨o, a, c⟩).length) - 1) default)).kind)), .sc (.int .i64 (((((flushD ⟨o, a, c⟩).getD (((flushD ⟨o, a, c⟩).length) - 1) default)).n) + n)), .lst 2 (List.map attrT ((((flushD ⟨o, a, c⟩).getD (((flushD ⟨o, a, c⟩).length) - 1) default)).attrs)), .lst 3 (List.map elemT ((((flushD ⟨o, a, c⟩).getD (((flushD ⟨o, a, c⟩).length) - 1) default)).elems))])))]]) (by kernel_rfl) ?_ ?_
      · -- region 4
        refine ⟨?_, ?_, ?_, (Weak.of_eq (eptr_eq ?_)), ?_, (elt_nat ?_), (Weak.of_eq (nw ?_)), ?_, ?_, ?_, (Weak.of_eq (eptr_eq ?_)), ?_, (elt_nat ?_), (row_set rfl), trivial⟩
        all_goals (first | omega | with_reducible exact fun h => h | (intro hg hq; rw [hg, hq]; rfl) | (intro hq; rw [hq]; done) | (intro hq; rw [hq]; rfl) | ((try intro hg); (try simp [-List.getD_eq_getElem?_getD] at hg); (try simp only [List.length_map]); first | done | omega | rfl | (simp; done) | (simp; omega) | (simp [hg]; done) | (intro hq; simp [hg, hq]; done) | (intro hq; simp [hg, hq]; omega)))
      refine andThen_normal ?_
      refine Sim.ret ?_
      refine andThen_ret ?_
      refine Fin.mk2 (.inl rfl) (τ := [(0, 0), (1, 1), (2, 2), (27, 3)]) (keys := []) (nx := 395) (sl := []) (l := [(0, .box [.row 1 ((flushD ⟨o, a, c⟩).length), .row 3 0, .t (.sc (.int .i64 0))]), (1, .row 4 false (List.map dstepT ((flushD ⟨o, a, c⟩).set (((flushD ⟨o, a, c⟩).length) - 1) ({ kind := (((flushD ⟨o, a, c⟩).getD (((flushD ⟨o, a, c⟩).length) - 1) default)).kind, n := (((((flushD ⟨o, a, c⟩).getD (((flushD ⟨o, a, c⟩).length) - 1) default)).n) + n), attrs := (((flushD ⟨o, a, c⟩).getD (((flushD ⟨o, a, c⟩).length) - 1) default)).attrs, elems := (((flushD ⟨o, a, c⟩).getD (((flushD ⟨o, a, c⟩).length) - 1) default)).elems } : DStep)))), (2, .row 3 true (List.map elemT a)), (3, .row 3 false (List.map elemT []))]) (res' := .tup []) (by kernel_rfl) ?_ (by kernel_rfl) ?_
      · -- end 1, objects
        have e1 : ((keepD (flushD ⟨o, a, c⟩) n l).length : Nat) = (flushD ⟨o, a, c⟩).length := by
          unfold keepD; ((repeat' split) <;> first | rfl | omega | (simp_all; done) | (simp_all; omega))
        have e2 : ((keepD (flushD ⟨o, a, c⟩) n l)) = ((flushD ⟨o, a, c⟩).set (((flushD ⟨o, a, c⟩).length) - 1) ({ kind := (((flushD ⟨o, a, c⟩).getD (((flushD ⟨o, a, c⟩).length) - 1) default)).kind, n := (((((flushD ⟨o, a, c⟩).getD (((flushD ⟨o, a, c⟩).length) - 1) default)).n) + n), attrs := (((flushD ⟨o, a, c⟩).getD (((flushD ⟨o, a, c⟩).length) - 1) default)).attrs, elems := (((flushD ⟨o, a, c⟩).getD (((flushD ⟨o, a, c⟩).length) - 1) default)).elems } : DStep)) := by
          unfold keepD; ((repeat' split) <;> first | rfl | omega | (simp_all; done) | (simp_all; omega))
        show ([(0, .box [.row 1 ((flushD ⟨o, a, c⟩).length), .row 3 0, .t (.sc (.int .i64 0))]), (1, .row 4 false (List.map dstepT ((flushD ⟨o, a, c⟩).set (((flushD ⟨o, a, c⟩).length) - 1) ({ kind := (((flushD ⟨o, a, c⟩).getD (((flushD ⟨o, a, c⟩).length) - 1) default)).kind, n := (((((flushD ⟨o, a, c⟩).getD (((flushD ⟨o, a, c⟩).length) - 1) default)).n) + n), attrs := (((flushD ⟨o, a, c⟩).getD (((flushD ⟨o, a, c⟩).length) - 1) default)).attrs, elems := (((flushD ⟨o, a, c⟩).getD (((flushD ⟨o, a, c⟩).length) - 1) default)).elems } : DStep)))), (2, .row 3 true (List.map elemT a)), (3, .row 3 false (List.map elemT []))] : List (Nat × Ob)) = [(0, .box [.row 1 ((keepD (flushD ⟨o, a, c⟩) n l).length), .row 3 0, .t (.sc (.int .i64 0))]), (1, .row 4 false (List.map dstepT (keepD (flushD ⟨o, a, c⟩) n l))), (2, .row 3 true (List.map elemT a)), (3, .row 3 false (List.map elemT []))]
        rw [e1, e2]
        try rfl
      · -- end 1, result
        first | done | rfl
    · (try simp only [decide_eq_true_eq, decide_eq_false_iff_not, Int.not_lt, Int.not_le, ge_iff_le, Bool.and_eq_true, Bool.and_eq_false_iff, Bool.not_eq_true', Bool.not_eq_false', beq_iff_eq, beq_eq_false_iff_ne, ne_eq] at h3)
      refine Sim.skip ?_
      refine andThen_normal ?_
      refine Sim.regD (by kernel_rfl) (orcs := [(7, ⟨some (.row 347 l.length), none, none, none⟩), (8, ⟨some (.agg [.t (.sc (.int .i64 0)), .t (.sc (.int .i64 n)), .row 347 l.length, .t (.lst 3 (List.map elemT []))]), none, none, none⟩), (10, ⟨some (.row 1 (((flushD ⟨o, a, c⟩) ++ [({ kind := 0, n := n, attrs := l, elems := [] } : DStep)]).length)), some ([(1, .row 4 false (List.map dstepT ((flushD ⟨o, a, c⟩) ++ [({ kind := 0, n := n, attrs := l, elems := [] } : DStep)])))]), none, none⟩)]) (keys := []) (τ := [(0, 0), (1, 1), (2, 2), (27, 27)]) (nx := 403)
        (sl := []) (l := [(0, .box [.row 1 (((flushD ⟨o, a, c⟩) ++ [({ kind := 0, n := n, attrs := l, elems := [] } : DStep)]).length), .row 27 0, .t (.sc (.int .i64 0))]), (1, .row 4 false (List.map dstepT ((flushD ⟨o, a, c⟩) ++ [({ kind := 0, n := n, attrs := l, elems := [] } : DStep)]))), (2, .row 3 true (List.map elemT a)), (27, .row 3 false (List.map elemT []))])
        (C := [((List.map attrT l).length : Nat) ≤ 1099511627776, Weak (.row 347 ((List.map attrT l).length)) (.row 347 l.length), Weak (.agg [.t (.sc (.int .i64 0)), .t (.sc (.int .i64 n)), .row 347 l.length, .t (.sc (.slice none 0 0))]) (.agg [.t (.sc (.int .i64 0)), .t (.sc (.int .i64 n)), .row 347 l.length, .t (.lst 3 (List.map elemT []))]), (l.length : Nat) = (List.map attrT l).length, 1 = (List.map dstepT [({ kind := 0, n := n, attrs := l, elems := [] } : DStep)]).length, (((flushD ⟨o, a, c⟩).length) : Nat) = (List.map dstepT (flushD ⟨o, a, c⟩)).length, (((flushD ⟨o, a, c⟩).length) : Nat) + (List.map dstepT [({ kind := 0, n := n, attrs := l, elems := [] } : DStep)]).length ≤ 1099511627776, Weak (.row 1 ((flushD ⟨o, a, c⟩).length + (List.map dstepT [({ kind := 0, n := n, attrs := l, elems := [] } : DStep)]).length)) (.row 1 (((flushD ⟨o, a, c⟩) ++ [({ kind := 0, n := n, attrs := l, elems := [] } : DStep)]).length)), ([(1, .row 4 false (List.map dstepT ((flushD ⟨o, a, c⟩) ++ [({ kind := 0, n := n, attrs := l, elems := [] } : DStep)])))] : List (Nat × Ob)) = [(1, .row 4 false (List.map dstepT (flushD ⟨o, a, c⟩) ++ List.map dstepT [({ kind := 0, n := n, attrs := l, elems := [] } : DStep)]))]]) (by kernel_rfl) ?_ ?_
      · -- region 5
        refine ⟨?_, (Weak.of_eq (by rw [List.length_map])), (Weak.aggv ⟨.inl rfl, ⟨.inl rfl, ⟨.inl rfl, ⟨aw_nil (by decide), trivial⟩⟩⟩⟩), ?_, ?_, ?_, ?_, (Weak.of_eq (by simp)), (row_append rfl), trivial⟩
        all_goals (first | omega | with_reducible exact fun h => h | (intro hg hq; rw [hg, hq]; rfl) | (intro hq; rw [hq]; done) | (intro hq; rw [hq]; rfl) | ((try intro hg); (try simp [-List.getD_eq_getElem?_getD] at hg); (try simp only [List.length_map]); first | done | omega | rfl | (simp; done) | (simp; omega) | (simp [hg]; done) | (intro hq; simp [hg, hq]; done) | (intro hq; simp [hg, hq]; omega)))
      refine Fin.mk2 (.inr rfl) (τ := [(0, 0), (1, 1), (2, 2), (27, 3)]) (keys := []) (nx := 403) (sl := []) (l := [(0, .box [.row 1 (((flushD ⟨o, a, c⟩) ++ [({ kind := 0, n := n, attrs := l, elems := [] } : DStep)]).length), .row 3 0, .t (.sc (.int .i64 0))]), (1, .row 4 false (List.map dstepT ((flushD ⟨o, a, c⟩) ++ [({ kind := 0, n := n, attrs := l, elems := [] } : DStep)]))), (2, .row 3 true (List.map elemT a)), (3, .row 3 false (List.map elemT []))]) (res' := .tup []) (by kernel_rfl) ?_ (by kernel_rfl) ?_
      · -- end 2, objects
        have e3 : ((keepD (flushD ⟨o, a, c⟩) n l).length : Nat) = ((flushD ⟨o, a, c⟩) ++ [({ kind := 0, n := n, attrs := l, elems := [] } : DStep)]).length := by
          unfold keepD; ((repeat' split) <;> first | rfl | omega | (simp_all; done) | (simp_all; omega))
        have e4 : ((keepD (flushD ⟨o, a, c⟩) n l)) = ((flushD ⟨o, a, c⟩) ++ [({ kind := 0, n := n, attrs := l, elems := [] } : DStep)]) := by
          unfold keepD; ((repeat' split) <;> first | rfl | omega | (simp_all; done) | (simp_all; omega))
        show ([(0, .box [.row 1 (((flushD ⟨o, a, c⟩) ++ [({ kind := 0, n := n, attrs := l, elems := [] } : DStep)]).length), .row 3 0, .t (.sc (.int .i64 0))]), (1, .row 4 false (List.map dstepT ((flushD ⟨o, a, c⟩) ++ [({ kind := 0, n := n, attrs := l, elems := [] } : DStep)]))), (2, .row 3 true (List.map elemT a)), (3, .row 3 false (List.map elemT []))] : List (Nat × Ob)) = [(0, .box [.row 1 ((keepD (flushD ⟨o, a, c⟩) n l).length), .row 3 0, .t (.sc (.int .i64 0))]), (1, .row 4 false (List.map dstepT (keepD (flushD ⟨o, a, c⟩) n l))), (2, .row 3 true (List.map elemT a)), (3, .row 3 false (List.map elemT []))]
        rw [e3, e4]
        try rfl
      · -- end 2, result
        first | done | rfl

theorem fc_dDone (o : List DStep) (a : List Elem) (c : Int) (ho : o.length ≤ 100000000000) (hc : checkD (flushD ⟨o, a, c⟩) = 0) (hd : DN 400000000000 (flushD ⟨o, a, c⟩)) : FC Try.prog 105 [.ptr 0 0] (app emp [(0, .box [.row 1 o.length, .row 2 a.length, .t (.sc (.int .i64 c))]), (1, .row 4 false (List.map dstepT o)), (2, .row 3 false (List.map elemT a))]) (.tup [.row 1 ((flushD ⟨o, a, c⟩).length), .t (.sc (.int .i64 0))]) (app emp [(0, .box [.row 1 ((flushD ⟨o, a, c⟩).length), .row 3 0, .t (.sc (.int .i64 0))]), (1, .row 4 false (List.map dstepT (flushD ⟨o, a, c⟩))), (2, .row 3 true (List.map elemT a)), (3, .row 3 false (List.map elemT []))]) := by
  refine FC.of_sim (fn := Try.f105) (nx := 3) (by kernel_rfl) rfl (by kernel_rfl) rfl ?_
  show Sim _ _ _ _ ⟨[(0, .ptr 0 0)], app emp [(0, .box [.row 1 o.length, .row 2 a.length, .t (.sc (.int .i64 c))]), (1, .row 4 false (List.map dstepT o)), (2, .row 3 false (List.map elemT a))], 3⟩ _
  refine Sim.seq ?_
  refine Sim.reg (orcs := []) (keys := [0]) (τ := [(0, 0), (1, 1), (2, 2)]) (nx := 19)
    (sl := [(0, .ptr 0 0)]) (l := [(0, .box [.row 1 o.length, .row 2 a.length, .t (.sc (.int .i64 c))]), (1, .row 4 false (List.map dstepT o)), (2, .row 3 false (List.map elemT a))])
    (C := []) (by kernel_rfl) ?_ ?_
  · -- region 0
    trivial
  refine andThen_normal ?_
  refine Sim.seq ?_
  refine Sim.reg (orcs := [(1, ⟨none, none, none, some (⟨2, [0, 1, 2], .tup [], [(0, .box [.row 1 ((flushD ⟨o, a, c⟩).length), .row 27 0, .t (.sc (.int .i64 0))]), (1, .row 4 false (List.map dstepT (flushD ⟨o, a, c⟩))), (2, .row 3 true (List.map elemT a)), (27, .row 3 false (List.map elemT []))]⟩)⟩)]) (keys := [0]) (τ := [(0, 0), (1, 1), (2, 2), (27, 27)]) (nx := 35)
    (sl := [(0, .ptr 0 0)]) (l := [(0, .box [.row 1 ((flushD ⟨o, a, c⟩).length), .row 27 0, .t (.sc (.int .i64 0))]), (1, .row 4 false (List.map dstepT (flushD ⟨o, a, c⟩))), (2, .row 3 true (List.map elemT a)), (27, .row 3 false (List.map elemT []))])
    (C := [callable Try.prog 135 = true, FC Try.prog 135 [.ptr 0 0] (only (only (app emp [(0, .box [.row 1 o.length, .row 2 a.length, .t (.sc (.int .i64 c))]), (1, .row 4 false (List.map dstepT o)), (2, .row 3 false (List.map elemT a))]) [0, 0, 1, 2]) [0, 1, 2]) (.tup []) (app (only (only (app emp [(0, .box [.row 1 o.length, .row 2 a.length, .t (.sc (.int .i64 c))]), (1, .row 4 false (List.map dstepT o)), (2, .row 3 false (List.map elemT a))]) [0, 0, 1, 2]) [0, 1, 2]) [(0, .box [.row 1 ((flushD ⟨o, a, c⟩).length), .row 27 0, .t (.sc (.int .i64 0))]), (1, .row 4 false (List.map dstepT (flushD ⟨o, a, c⟩))), (2, .row 3 true (List.map elemT a)), (27, .row 3 false (List.map elemT []))])]) (by kernel_rfl) ?_ ?_
  · -- region 1
    exact ⟨(by kernel_rfl), (FC.at (FC.ren (fc_dFlush o a c (by omega)) [(0, 0), (1, 1), (2, 2)] [(0, 0), (1, 1), (2, 2), (3, 27)] (l0' := [(0, .box [.row 1 o.length, .row 2 a.length, .t (.sc (.int .i64 c))]), (1, .row 4 false (List.map dstepT o)), (2, .row 3 false (List.map elemT a))]) (args' := [.ptr 0 0]) (res' := .tup []) (l1' := [(0, .box [.row 1 ((flushD ⟨o, a, c⟩).length), .row 27 0, .t (.sc (.int .i64 0))]), (1, .row 4 false (List.map dstepT (flushD ⟨o, a, c⟩))), (2, .row 3 true (List.map elemT a)), (27, .row 3 false (List.map elemT []))]) (by kernel_rfl) (by kernel_rfl) (by kernel_rfl) (by kernel_rfl) (by kernel_rfl) (by kernel_rfl)) (fun i => by by_cases e0 : i = 0; (subst e0; rfl); by_cases e1 : i = 1; (subst e1; rfl); by_cases e2 : i = 2; (subst e2; rfl); by_cases e3 : i = 27; (subst e3; rfl); simp only [only, app, upd, emp, hasId, cond_false, beq_ne e0, beq_ne (Ne.symm e0), beq_ne e1, beq_ne (Ne.symm e1), beq_ne e2, beq_ne (Ne.symm e2), beq_ne e3, beq_ne (Ne.symm e3)]) (fun i => by by_cases e0 : i = 0; (subst e0; rfl); by_cases e1 : i = 1; (subst e1; rfl); by_cases e2 : i = 2; (subst e2; rfl); by_cases e3 : i = 27; (subst e3; rfl); simp only [only, app, upd, emp, hasId, cond_false, beq_ne e0, beq_ne (Ne.symm e0), beq_ne e1, beq_ne (Ne.symm e1), beq_ne e2, beq_ne (Ne.symm e2), beq_ne e3, beq_ne (Ne.symm e3)])), trivial⟩
  refine andThen_normal ?_
  refine Sim.seq ?_
  refine Sim.seq ?_
  refine Sim.reg (orcs := [(4, ⟨none, none, none, some (⟨0, [], .t (.sc (.int .i64 (checkD (flushD ⟨o, a, c⟩)))), []⟩)⟩)]) (keys := [0, 11]) (τ := [(0, 0), (1, 1), (2, 2), (27, 27)]) (nx := 83)
    (sl := [(0, .ptr 0 0), (11, .t (.sc (.bool ((checkD (flushD ⟨o, a, c⟩)) != 0))))]) (l := [(0, .box [.row 1 ((flushD ⟨o, a, c⟩).length), .row 27 0, .t (.sc (.int .i64 0))]), (1, .row 4 false (List.map dstepT (flushD ⟨o, a, c⟩))), (2, .row 3 true (List.map elemT a)), (27, .row 3 false (List.map elemT []))])
    (C := [callable Try.prog 109 = true, (((flushD ⟨o, a, c⟩).length) : Nat) = (List.map dstepT (flushD ⟨o, a, c⟩)).length, FC Try.prog 109 [.t (.lst 4 (List.map dstepT (flushD ⟨o, a, c⟩)))] emp (.t (.sc (.int .i64 (checkD (flushD ⟨o, a, c⟩))))) emp]) (by kernel_rfl) ?_ ?_
  · -- region 2
    refine ⟨(by kernel_rfl), ?_, (fc_dCheck (flushD ⟨o, a, c⟩) (by assumption)), trivial⟩
    all_goals (first | omega | with_reducible exact fun h => h | (intro hg hq; rw [hg, hq]; rfl) | (intro hq; rw [hq]; done) | (intro hq; rw [hq]; rfl) | ((try intro hg); (try simp [-List.getD_eq_getElem?_getD] at hg); (try simp only [List.length_map]); first | done | omega | rfl | (simp; done) | (simp; omega) | (simp [hg]; done) | (intro hq; simp [hg, hq]; done) | (intro hq; simp [hg, hq]; omega)))
  refine andThen_normal ?_
  refine Sim.cond (b := ((checkD (flushD ⟨o, a, c⟩)) != 0)) (by kernel_rfl) (fun h2 => ?_) (fun h2 => ?_)
  · (try simp only [bne_iff_ne, bne_eq_false_iff_eq, ne_eq] at h2)
    exfalso
    omega
  · (try simp only [bne_iff_ne, bne_eq_false_iff_eq, ne_eq] at h2)
    refine Sim.skip ?_
    refine andThen_normal ?_
    refine Sim.seq ?_
    refine Sim.reg (orcs := []) (keys := [2, 3]) (τ := [(0, 0), (1, 1), (2, 2), (27, 27)]) (nx := 131)
      (sl := [(2, .row 1 ((flushD ⟨o, a, c⟩).length)), (3, .t (.sc (.int .i64 0)))]) (l := [(0, .box [.row 1 ((flushD ⟨o, a, c⟩).length), .row 27 0, .t (.sc (.int .i64 0))]), (1, .row 4 false (List.map dstepT (flushD ⟨o, a, c⟩))), (2, .row 3 true (List.map elemT a)), (27, .row 3 false (List.map elemT []))])
      (C := []) (by kernel_rfl) ?_ ?_
    · -- region 4
      trivial
    refine andThen_normal ?_
    refine Sim.ret ?_
    refine Fin.mk2 (.inl rfl) (τ := [(0, 0), (1, 1), (2, 2), (27, 3)]) (keys := [2, 3]) (nx := 131) (sl := [(2, .row 1 ((flushD ⟨o, a, c⟩).length)), (3, .t (.sc (.int .i64 0)))]) (l := [(0, .box [.row 1 ((flushD ⟨o, a, c⟩).length), .row 3 0, .t (.sc (.int .i64 0))]), (1, .row 4 false (List.map dstepT (flushD ⟨o, a, c⟩))), (2, .row 3 true (List.map elemT a)), (3, .row 3 false (List.map elemT []))]) (res' := .tup [.row 1 ((flushD ⟨o, a, c⟩).length), .t (.sc (.int .i64 0))]) (by kernel_rfl) ?_ (by kernel_rfl) ?_
    · -- end 1, objects
      first | done | rfl
    · -- end 1, result
      first | done | rfl
end Go.Ch
