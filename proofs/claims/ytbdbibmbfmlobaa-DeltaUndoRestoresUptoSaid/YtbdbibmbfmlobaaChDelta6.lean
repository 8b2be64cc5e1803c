import Derived.Test.YtbdbibmbfmlobaaChDelta5
import Derived.Test.YtbdbibmbfmlobaaDeltaAct
set_option linter.unusedVariables false
set_option linter.unusedSimpArgs false
set_option maxRecDepth 100000
set_option maxHeartbeats 4000000
open Go Go.Proofs Go.Ab
namespace Go.Ch
theorem fc_deltaOf (x : Act) (h1 : x.ins.length = x.cut.length + 1) (h2 : x.set.length = x.cut.length) (hu : ∀ u ∈ actR x 0, UnitOk u) (hs : (actR x 0).length ≤ 8589934592) : FC Try.prog 101 [.t (actT x)] (app emp []) (.t (.lst 4 (List.map dstepT (doneD (actR x 0))))) (app emp []) := by
  refine FC.of_sim (fn := Try.f101) (nx := 0) (by kernel_rfl) rfl (by kernel_rfl) rfl ?_
  show Sim _ _ _ _ ⟨[(0, .t (actT x))], app emp [], 0⟩ _
  have hst0 := DI.start hu hs
  have hcl := actR_cut x _ 0 rfl
  refine Sim.seq ?_
  refine Sim.reg (orcs := []) (keys := [1]) (τ := [(0, 0)]) (nx := 16)
    (sl := [(1, .ptr 0 0)]) (l := [(0, .box [.t (.lst 1 (List.map elemsT x.ins)), .t (.lst 1 (List.map boolT x.cut)), .t (.lst 1 (List.map attrsT x.set))])])
    (C := []) (by kernel_rfl) ?_ ?_
  · -- region 0
    trivial
  refine andThen_normal ?_
  refine Sim.seq ?_
  refine Sim.reg (orcs := []) (keys := [1, 3]) (τ := [(0, 0)]) (nx := 24)
    (sl := [(1, .ptr 0 0), (3, .t (.sc (.slice none 0 0)))]) (l := [(0, .box [.t (.lst 1 (List.map elemsT x.ins)), .t (.lst 1 (List.map boolT x.cut)), .t (.lst 1 (List.map attrsT x.set))])])
    (C := []) (by kernel_rfl) ?_ ?_
  · -- region 1
    trivial
  refine andThen_normal ?_
  refine Sim.seq ?_
  refine Sim.reg (orcs := []) (keys := [1, 3, 4]) (τ := [(0, 0)]) (nx := 32)
    (sl := [(1, .ptr 0 0), (3, .t (.sc (.slice none 0 0))), (4, .t (.sc (.slice none 0 0)))]) (l := [(0, .box [.t (.lst 1 (List.map elemsT x.ins)), .t (.lst 1 (List.map boolT x.cut)), .t (.lst 1 (List.map attrsT x.set))])])
    (C := []) (by kernel_rfl) ?_ ?_
  · -- region 2
    trivial
  refine andThen_normal ?_
  refine Sim.seq ?_
  refine Sim.reg (orcs := []) (keys := [1, 3, 4, 5]) (τ := [(0, 0)]) (nx := 40)
    (sl := [(1, .ptr 0 0), (3, .t (.sc (.slice none 0 0))), (4, .t (.sc (.slice none 0 0))), (5, .t (.sc (.int .i64 0)))]) (l := [(0, .box [.t (.lst 1 (List.map elemsT x.ins)), .t (.lst 1 (List.map boolT x.cut)), .t (.lst 1 (List.map attrsT x.set))])])
    (C := []) (by kernel_rfl) ?_ ?_
  · -- region 3
    trivial
  refine andThen_normal ?_
  refine Sim.seq ?_
  refine Sim.seq ?_
  refine Sim.reg (orcs := []) (keys := [1, 3, 4, 5, 6]) (τ := [(0, 0)]) (nx := 48)
    (sl := [(1, .ptr 0 0), (3, .t (.sc (.slice none 0 0))), (4, .t (.sc (.slice none 0 0))), (5, .t (.sc (.int .i64 0))), (6, .t (.sc (.int .i64 0)))]) (l := [(0, .box [.t (.lst 1 (List.map elemsT x.ins)), .t (.lst 1 (List.map boolT x.cut)), .t (.lst 1 (List.map attrsT x.set))])])
    (C := []) (by kernel_rfl) ?_ ?_
  · -- region 4
    trivial
  refine andThen_normal ?_
  refine Sim.block ?_
  refine Sim.weaken (Le.nilRow (t := 3) (k := 4) (id := 48) rfl rfl rfl) ?_
  refine Sim.weaken (Le.nilRow (t := 4) (k := 3) (id := 49) rfl rfl rfl) ?_
  refine Sim.weaken (Le.ren (τ := [(0, 0), (48, 48), (49, 49)]) (keys := [1, 3, 4, 5, 6]) (nx := 50) (sl := [(1, .ptr 0 0), (3, .row 48 0), (4, .row 49 0), (5, .t (.sc (.int .i64 0))), (6, .t (.sc (.int .i64 ((0 : Nat) : Int))))]) (l := [(0, .box [.t (.lst 1 (List.map elemsT x.ins)), .t (.lst 1 (List.map boolT x.cut)), .t (.lst 1 (List.map attrsT x.set))]), (48, .row 4 false (List.map dstepT [])), (49, .row 3 false (List.map elemT []))]) (by kernel_rfl)) ?_
  refine Sim.loop ?_
  refine loop_ind (α := Int × Nat × (List DStep) × (List Elem)) (fun (c, i, o, a) => ⟨[(1, .ptr 0 0), (3, .row 48 o.length), (4, .row 49 a.length), (5, .t (.sc (.int .i64 c))), (6, .t (.sc (.int .i64 (i : Int))))], app emp [(0, .box [.t (.lst 1 (List.map elemsT x.ins)), .t (.lst 1 (List.map boolT x.cut)), .t (.lst 1 (List.map attrsT x.set))]), (48, .row 4 false (List.map dstepT o)), (49, .row 3 false (List.map elemT a))], 50⟩) (fun (c, i, o, a) => i ≤ x.cut.length ∧ DI ⟨o, a, c⟩ (actR x i) (actR x 0).length (foldD ⟨[], [], 0⟩ (actR x 0))) (fun (c, i, o, a) => x.cut.length + 1 - i) ?_ (0, 0, [], []) ?_
  rotate_left
  · -- loop 5, start
    exact ⟨by omega, hst0⟩
  rintro ⟨c, i, o, a⟩ I5 ih5
  show LoopSim _ _ _ _ ⟨[(1, .ptr 0 0), (3, .row 48 o.length), (4, .row 49 a.length), (5, .t (.sc (.int .i64 c))), (6, .t (.sc (.int .i64 (i : Int))))], app emp [(0, .box [.t (.lst 1 (List.map elemsT x.ins)), .t (.lst 1 (List.map boolT x.cut)), .t (.lst 1 (List.map attrsT x.set))]), (48, .row 4 false (List.map dstepT o)), (49, .row 3 false (List.map elemT a))], 50⟩ _
  replace I5 : i ≤ x.cut.length ∧ DI ⟨o, a, c⟩ (actR x i) (actR x 0).length (foldD ⟨[], [], 0⟩ (actR x 0)) := I5
  have hb := I5.2.bd
  simp only at hb
  refine LoopSim.step ?_
  refine Sim.seq ?_
  refine Sim.seq ?_
  refine Sim.reg (orcs := [(3, ⟨some (.t (.sc (.int .i64 (x.cut.length : Int)))), none, none, none⟩)]) (keys := [1, 3, 4, 5, 6, 12]) (τ := [(0, 0), (48, 48), (49, 49)]) (nx := 90)
    (sl := [(1, .ptr 0 0), (3, .row 48 o.length), (4, .row 49 a.length), (5, .t (.sc (.int .i64 c))), (6, .t (.sc (.int .i64 (i : Int)))), (12, .t (.sc (.bool (decide ((i : Int) ≤ (x.cut.length : Int))))))]) (l := [(0, .box [.t (.lst 1 (List.map elemsT x.ins)), .t (.lst 1 (List.map boolT x.cut)), .t (.lst 1 (List.map attrsT x.set))]), (48, .row 4 false (List.map dstepT o)), (49, .row 3 false (List.map elemT a))])
    (C := [Weak (.t (.sc (.int .i64 ((List.map boolT x.cut).length : Int)))) (.t (.sc (.int .i64 (x.cut.length : Int))))]) (by kernel_rfl) ?_ ?_
  · -- region 5
    exact ⟨(Weak.of_eq len_map), trivial⟩
  refine andThen_normal ?_
  refine Sim.cond (b := decide ((i : Int) ≤ (x.cut.length : Int))) (by kernel_rfl) (fun h5 => ?_) (fun h5 => ?_)
  · (try simp only [decide_eq_true_eq, decide_eq_false_iff_not, Int.not_lt, Int.not_le] at h5)
    refine Sim.skip ?_
    refine andThen_normal ?_
    refine Sim.seq ?_
    refine Sim.block ?_
    refine Sim.seq ?_
    have hDe := (show DI ⟨o, a, c⟩ ((x.ins.getD i default).map .A ++ tailR x i) _ _ from actR_eq x i ▸ I5.2).elems
    have hb2 := hDe.bd
    simp only [List.length_append] at hb2
    have hn2 := hDe.fl.1
    refine Sim.reg (orcs := [(4, ⟨none, none, some (.lst 3 (List.map elemT (x.ins.getD i default))), none⟩), (6, ⟨some (.row 49 ((a ++ (x.ins.getD i default)).length)), some ([(49, .row 3 false (List.map elemT (a ++ (x.ins.getD i default))))]), none, none⟩)]) (keys := [1, 3, 4, 5, 6]) (τ := [(0, 0), (48, 48), (49, 49)]) (nx := 154)
      (sl := [(1, .ptr 0 0), (3, .row 48 o.length), (4, .row 49 ((a ++ (x.ins.getD i default)).length)), (5, .t (.sc (.int .i64 c))), (6, .t (.sc (.int .i64 (i : Int))))]) (l := [(0, .box [.t (.lst 1 (List.map elemsT x.ins)), .t (.lst 1 (List.map boolT x.cut)), .t (.lst 1 (List.map attrsT x.set))]), (48, .row 4 false (List.map dstepT o)), (49, .row 3 false (List.map elemT (a ++ (x.ins.getD i default))))])
      (C := [(0:Int) ≤ (i : Int), (List.map elemsT x.ins)[i]? = some (.lst 3 (List.map elemT (x.ins.getD i default))), (a.length : Nat) = (List.map elemT a).length, (a.length : Nat) + (List.map elemT (x.ins.getD i default)).length ≤ 1099511627776, Weak (.row 49 (a.length + (List.map elemT (x.ins.getD i default)).length)) (.row 49 ((a ++ (x.ins.getD i default)).length)), ([(49, .row 3 false (List.map elemT (a ++ (x.ins.getD i default))))] : List (Nat × Ob)) = [(49, .row 3 false (List.map elemT a ++ List.map elemT (x.ins.getD i default)))]]) (by kernel_rfl) ?_ ?_
    · -- region 7
      refine ⟨?_, (elt_nat ?_), ?_, ?_, (Weak.of_eq (by simp)), (row_append rfl), trivial⟩
      all_goals (first | omega | with_reducible exact fun h => h | (intro hg hq; rw [hg, hq]; rfl) | (intro hq; rw [hq]; done) | (intro hq; rw [hq]; rfl) | ((try intro hg); (try simp [-List.getD_eq_getElem?_getD] at hg); (try simp only [List.length_map]); first | done | omega | rfl | (simp; done) | (simp; omega) | (simp [hg]; done) | (intro hq; simp [hg, hq]; done) | (intro hq; simp [hg, hq]; omega)))
    refine andThen_normal ?_
    refine Sim.seq ?_
    refine Sim.seq ?_
    refine Sim.reg (orcs := [(3, ⟨some (.t (.sc (.int .i64 (x.cut.length : Int)))), none, none, none⟩), (9, ⟨none, none, some (.sc (.bool (x.cut.getD i default))), none⟩)]) (keys := [1, 3, 4, 5, 6, 33]) (τ := [(0, 0), (48, 48), (49, 49)]) (nx := 250)
      (sl := [(1, .ptr 0 0), (3, .row 48 o.length), (4, .row 49 ((a ++ (x.ins.getD i default)).length)), (5, .t (.sc (.int .i64 c))), (6, .t (.sc (.int .i64 (i : Int)))), (33, .t (.sc (.bool (decide ((i : Int) < (x.cut.length : Int)) && (x.cut.getD i default)))))]) (l := [(0, .box [.t (.lst 1 (List.map elemsT x.ins)), .t (.lst 1 (List.map boolT x.cut)), .t (.lst 1 (List.map attrsT x.set))]), (48, .row 4 false (List.map dstepT o)), (49, .row 3 false (List.map elemT (a ++ (x.ins.getD i default))))])
      (C := [Weak (.t (.sc (.int .i64 ((List.map boolT x.cut).length : Int)))) (.t (.sc (.int .i64 (x.cut.length : Int)))), (decide ((i : Int) < (x.cut.length : Int))) = true → (decide ((i : Int) < (x.cut.length : Int))) = true, (decide ((i : Int) < (x.cut.length : Int))) = true → (decide ((i : Int) < (x.cut.length : Int))) = true, (decide ((i : Int) < (x.cut.length : Int))) = true → (decide ((i : Int) < (x.cut.length : Int))) = true, (decide ((i : Int) < (x.cut.length : Int))) = true → (0:Int) ≤ (i : Int), (decide ((i : Int) < (x.cut.length : Int))) = true → (List.map boolT x.cut)[i]? = some (.sc (.bool (x.cut.getD i default))), (decide ((i : Int) < (x.cut.length : Int))) = true → (decide ((i : Int) < (x.cut.length : Int))) = true, (decide ((i : Int) < (x.cut.length : Int))) = true → (decide ((i : Int) < (x.cut.length : Int))) = true]) (by kernel_rfl) ?_ ?_
    · -- region 8
      refine ⟨(Weak.of_eq len_map), ?_, ?_, ?_, ?_, (fun hg => (elt_nat ?_)), ?_, ?_, trivial⟩
      all_goals (first | omega | with_reducible exact fun h => h | (intro hg hq; rw [hg, hq]; rfl) | (intro hq; rw [hq]; done) | (intro hq; rw [hq]; rfl) | ((try intro hg); (try simp [-List.getD_eq_getElem?_getD] at hg); (try simp only [List.length_map]); first | done | omega | rfl | (simp; done) | (simp; omega) | (simp [hg]; done) | (intro hq; simp [hg, hq]; done) | (intro hq; simp [hg, hq]; omega)))
    refine andThen_normal ?_
    refine Sim.cond (b := (decide ((i : Int) < (x.cut.length : Int)) && (x.cut.getD i default))) (by kernel_rfl) (fun h8 => ?_) (fun h8 => ?_)
    · (try simp only [decide_eq_true_eq, decide_eq_false_iff_not, Int.not_lt, Int.not_le, Bool.and_eq_true, Bool.and_eq_false_iff, Bool.not_eq_true', Bool.not_eq_false'] at h8)
      refine Sim.seq ?_
      refine Sim.reg (orcs := [(1, ⟨some (.t (.sc (.int .i64 (c + 1)))), none, none, none⟩)]) (keys := [1, 3, 4, 5, 6]) (τ := [(0, 0), (48, 48), (49, 49)]) (nx := 274)
        (sl := [(1, .ptr 0 0), (3, .row 48 o.length), (4, .row 49 ((a ++ (x.ins.getD i default)).length)), (5, .t (.sc (.int .i64 (c + 1)))), (6, .t (.sc (.int .i64 (i : Int))))]) (l := [(0, .box [.t (.lst 1 (List.map elemsT x.ins)), .t (.lst 1 (List.map boolT x.cut)), .t (.lst 1 (List.map attrsT x.set))]), (48, .row 4 false (List.map dstepT o)), (49, .row 3 false (List.map elemT (a ++ (x.ins.getD i default))))])
        (C := [Weak (.t (.sc (.int .i64 (IntKind.i64.wrap (c + 1))))) (.t (.sc (.int .i64 (c + 1))))]) (by kernel_rfl) ?_ ?_
      · -- region 9
        refine ⟨(Weak.of_eq (nw ?_)), trivial⟩
        all_goals omega
      refine andThen_normal ?_
      refine Sim.exit ?_
      refine andThen_exit ?_
      refine inBlk_same ?_
      refine andThen_normal ?_
      refine Sim.reg (orcs := [(1, ⟨some (.t (.sc (.int .i64 ((i : Int) + 1)))), none, none, none⟩)]) (keys := [1, 3, 4, 5, 6]) (τ := [(0, 0), (48, 48), (49, 49)]) (nx := 298)
        (sl := [(1, .ptr 0 0), (3, .row 48 o.length), (4, .row 49 ((a ++ (x.ins.getD i default)).length)), (5, .t (.sc (.int .i64 (c + 1)))), (6, .t (.sc (.int .i64 ((i : Int) + 1))))]) (l := [(0, .box [.t (.lst 1 (List.map elemsT x.ins)), .t (.lst 1 (List.map boolT x.cut)), .t (.lst 1 (List.map attrsT x.set))]), (48, .row 4 false (List.map dstepT o)), (49, .row 3 false (List.map elemT (a ++ (x.ins.getD i default))))])
        (C := [Weak (.t (.sc (.int .i64 (IntKind.i64.wrap ((i : Int) + 1))))) (.t (.sc (.int .i64 ((i : Int) + 1))))]) (by kernel_rfl) ?_ ?_
      · -- region 6
        refine ⟨(Weak.of_eq (nw ?_)), trivial⟩
        all_goals omega
      refine andThen_normal ?_
      refine LoopSim.weaken (Le.ren (τ := [(0, 0), (48, 48), (49, 49)]) (keys := [1, 3, 4, 5, 6]) (nx := 50) (sl := [(1, .ptr 0 0), (3, .row 48 o.length), (4, .row 49 ((a ++ (x.ins.getD i default)).length)), (5, .t (.sc (.int .i64 (c + 1)))), (6, .t (.sc (.int .i64 (((i + 1) : Nat) : Int))))]) (l := [(0, .box [.t (.lst 1 (List.map elemsT x.ins)), .t (.lst 1 (List.map boolT x.cut)), .t (.lst 1 (List.map attrsT x.set))]), (48, .row 4 false (List.map dstepT o)), (49, .row 3 false (List.map elemT (a ++ (x.ins.getD i default))))]) (by kernel_rfl)) ?_
      refine ih5 ((c + 1), (i + 1), o, (a ++ (x.ins.getD i default))) ?_ ?_
      · -- back 5.1, invariant
        rw [tailR_C (by omega) h8.2] at hDe
        exact ⟨by omega, hDe.cut1⟩
      · -- back 5.1, measure
        show (_:Nat) < _; (first | omega | with_reducible exact fun h => h | (intro hq; rw [hq]; done) | (intro hq; rw [hq]; rfl) | (simp only [List.length_map]; done) | (simp only [List.length_map]; omega) | (simp; omega) | (simp; done))
    · (try simp only [decide_eq_true_eq, decide_eq_false_iff_not, Int.not_lt, Int.not_le, Bool.and_eq_true, Bool.and_eq_false_iff, Bool.not_eq_true', Bool.not_eq_false'] at h8)
      refine Sim.skip ?_
      refine andThen_normal ?_
      refine Sim.seq ?_
      refine Sim.seq ?_
      refine Sim.reg (orcs := []) (keys := [1, 3, 4, 5, 6, 38]) (τ := [(0, 0), (48, 48), (49, 49)]) (nx := 274)
        (sl := [(1, .ptr 0 0), (3, .row 48 o.length), (4, .row 49 ((a ++ (x.ins.getD i default)).length)), (5, .t (.sc (.int .i64 c))), (6, .t (.sc (.int .i64 (i : Int)))), (38, .t (.sc (.bool (decide (((a ++ (x.ins.getD i default)).length : Int) > 0)))))]) (l := [(0, .box [.t (.lst 1 (List.map elemsT x.ins)), .t (.lst 1 (List.map boolT x.cut)), .t (.lst 1 (List.map attrsT x.set))]), (48, .row 4 false (List.map dstepT o)), (49, .row 3 false (List.map elemT (a ++ (x.ins.getD i default))))])
        (C := []) (by kernel_rfl) ?_ ?_
      · -- region 10
        trivial
      refine andThen_normal ?_
      refine Sim.cond (b := decide (((a ++ (x.ins.getD i default)).length : Int) > 0)) (by kernel_rfl) (fun h10 => ?_) (fun h10 => ?_)
      · (try simp only [decide_eq_true_eq, decide_eq_false_iff_not, Int.not_lt, Int.not_le, gt_iff_lt] at h10)
        refine Sim.reg (orcs := [(2, ⟨some (.agg [.t (.sc (.int .i64 1)), .t (.sc (.int .i64 0)), .t (.lst 2 (List.map attrT [])), .row 49 ((a ++ (x.ins.getD i default)).length)]), none, none, none⟩), (4, ⟨some (.row 48 ((o ++ [({ kind := 1, n := 0, attrs := [], elems := (a ++ (x.ins.getD i default)) } : DStep)]).length)), some ([(48, .row 4 false (List.map dstepT (o ++ [({ kind := 1, n := 0, attrs := [], elems := (a ++ (x.ins.getD i default)) } : DStep)])))]), none, none⟩)]) (keys := [1, 3, 5, 6]) (τ := [(0, 0), (48, 48)]) (nx := 322)
          (sl := [(1, .ptr 0 0), (3, .row 48 ((o ++ [({ kind := 1, n := 0, attrs := [], elems := (a ++ (x.ins.getD i default)) } : DStep)]).length)), (5, .t (.sc (.int .i64 c))), (6, .t (.sc (.int .i64 (i : Int))))]) (l := [(0, .box [.t (.lst 1 (List.map elemsT x.ins)), .t (.lst 1 (List.map boolT x.cut)), .t (.lst 1 (List.map attrsT x.set))]), (48, .row 4 false (List.map dstepT (o ++ [({ kind := 1, n := 0, attrs := [], elems := (a ++ (x.ins.getD i default)) } : DStep)])))])
          (C := [Weak (.agg [.t (.sc (.int .i64 1)), .t (.sc (.int .i64 0)), .t (.sc (.slice none 0 0)), .row 49 ((a ++ (x.ins.getD i default)).length)]) (.agg [.t (.sc (.int .i64 1)), .t (.sc (.int .i64 0)), .t (.lst 2 (List.map attrT [])), .row 49 ((a ++ (x.ins.getD i default)).length)]), (((a ++ (x.ins.getD i default)).length) : Nat) = (List.map elemT (a ++ (x.ins.getD i default))).length, 1 = (List.map dstepT [({ kind := 1, n := 0, attrs := [], elems := (a ++ (x.ins.getD i default)) } : DStep)]).length, (o.length : Nat) = (List.map dstepT o).length, (o.length : Nat) + (List.map dstepT [({ kind := 1, n := 0, attrs := [], elems := (a ++ (x.ins.getD i default)) } : DStep)]).length ≤ 1099511627776, Weak (.row 48 (o.length + (List.map dstepT [({ kind := 1, n := 0, attrs := [], elems := (a ++ (x.ins.getD i default)) } : DStep)]).length)) (.row 48 ((o ++ [({ kind := 1, n := 0, attrs := [], elems := (a ++ (x.ins.getD i default)) } : DStep)]).length)), ([(48, .row 4 false (List.map dstepT (o ++ [({ kind := 1, n := 0, attrs := [], elems := (a ++ (x.ins.getD i default)) } : DStep)])))] : List (Nat × Ob)) = [(48, .row 4 false (List.map dstepT o ++ List.map dstepT [({ kind := 1, n := 0, attrs := [], elems := (a ++ (x.ins.getD i default)) } : DStep)]))]]) (by kernel_rfl) ?_ ?_
        · -- region 11
          refine ⟨(Weak.aggv ⟨.inl rfl, ⟨.inl rfl, ⟨aw_nil (by decide), ⟨.inl rfl, trivial⟩⟩⟩⟩), ?_, ?_, ?_, ?_, (Weak.of_eq (by simp)), (row_append rfl), trivial⟩
          all_goals (first | omega | with_reducible exact fun h => h | (intro hg hq; rw [hg, hq]; rfl) | (intro hq; rw [hq]; done) | (intro hq; rw [hq]; rfl) | ((try intro hg); (try simp [-List.getD_eq_getElem?_getD] at hg); (try simp only [List.length_map]); first | done | omega | rfl | (simp; done) | (simp; omega) | (simp [hg]; done) | (intro hq; simp [hg, hq]; done) | (intro hq; simp [hg, hq]; omega)))
        refine andThen_normal ?_
        refine Sim.seq ?_
        refine Sim.seq ?_
        refine Sim.reg (orcs := []) (keys := [1, 3, 5, 6, 45]) (τ := [(0, 0), (48, 48)]) (nx := 338)
          (sl := [(1, .ptr 0 0), (3, .row 48 ((o ++ [({ kind := 1, n := 0, attrs := [], elems := (a ++ (x.ins.getD i default)) } : DStep)]).length)), (5, .t (.sc (.int .i64 c))), (6, .t (.sc (.int .i64 (i : Int)))), (45, .t (.sc (.bool (decide (c > 0)))))]) (l := [(0, .box [.t (.lst 1 (List.map elemsT x.ins)), .t (.lst 1 (List.map boolT x.cut)), .t (.lst 1 (List.map attrsT x.set))]), (48, .row 4 false (List.map dstepT (o ++ [({ kind := 1, n := 0, attrs := [], elems := (a ++ (x.ins.getD i default)) } : DStep)])))])
          (C := []) (by kernel_rfl) ?_ ?_
        · -- region 12
          trivial
        refine andThen_normal ?_
        refine Sim.cond (b := decide (c > 0)) (by kernel_rfl) (fun h12 => ?_) (fun h12 => ?_)
        · (try simp only [decide_eq_true_eq, decide_eq_false_iff_not, Int.not_lt, Int.not_le, gt_iff_lt] at h12)
          refine Sim.reg (orcs := [(2, ⟨some (.t (.agg [.sc (.int .i64 2), .sc (.int .i64 c), .lst 2 (List.map attrT []), .lst 3 (List.map elemT [])])), none, none, none⟩), (4, ⟨some (.row 48 (((o ++ [({ kind := 1, n := 0, attrs := [], elems := (a ++ (x.ins.getD i default)) } : DStep)]) ++ [({ kind := 2, n := c, attrs := [], elems := [] } : DStep)]).length)), some ([(48, .row 4 false (List.map dstepT ((o ++ [({ kind := 1, n := 0, attrs := [], elems := (a ++ (x.ins.getD i default)) } : DStep)]) ++ [({ kind := 2, n := c, attrs := [], elems := [] } : DStep)])))]), none, none⟩)]) (keys := [1, 3, 6]) (τ := [(0, 0), (48, 48)]) (nx := 386)
            (sl := [(1, .ptr 0 0), (3, .row 48 (((o ++ [({ kind := 1, n := 0, attrs := [], elems := (a ++ (x.ins.getD i default)) } : DStep)]) ++ [({ kind := 2, n := c, attrs := [], elems := [] } : DStep)]).length)), (6, .t (.sc (.int .i64 (i : Int))))]) (l := [(0, .box [.t (.lst 1 (List.map elemsT x.ins)), .t (.lst 1 (List.map boolT x.cut)), .t (.lst 1 (List.map attrsT x.set))]), (48, .row 4 false (List.map dstepT ((o ++ [({ kind := 1, n := 0, attrs := [], elems := (a ++ (x.ins.getD i default)) } : DStep)]) ++ [({ kind := 2, n := c, attrs := [], elems := [] } : DStep)])))])
            (C := [Weak (.t (.agg [.sc (.int .i64 2), .sc (.int .i64 c), .sc (.slice none 0 0), .sc (.slice none 0 0)])) (.t (.agg [.sc (.int .i64 2), .sc (.int .i64 c), .lst 2 (List.map attrT []), .lst 3 (List.map elemT [])])), 1 = (List.map dstepT [({ kind := 2, n := c, attrs := [], elems := [] } : DStep)]).length, (((o ++ [({ kind := 1, n := 0, attrs := [], elems := (a ++ (x.ins.getD i default)) } : DStep)]).length) : Nat) = (List.map dstepT (o ++ [({ kind := 1, n := 0, attrs := [], elems := (a ++ (x.ins.getD i default)) } : DStep)])).length, (((o ++ [({ kind := 1, n := 0, attrs := [], elems := (a ++ (x.ins.getD i default)) } : DStep)]).length) : Nat) + (List.map dstepT [({ kind := 2, n := c, attrs := [], elems := [] } : DStep)]).length ≤ 1099511627776, Weak (.row 48 ((o ++ [({ kind := 1, n := 0, attrs := [], elems := (a ++ (x.ins.getD i default)) } : DStep)]).length + (List.map dstepT [({ kind := 2, n := c, attrs := [], elems := [] } : DStep)]).length)) (.row 48 (((o ++ [({ kind := 1, n := 0, attrs := [], elems := (a ++ (x.ins.getD i default)) } : DStep)]) ++ [({ kind := 2, n := c, attrs := [], elems := [] } : DStep)]).length)), ([(48, .row 4 false (List.map dstepT ((o ++ [({ kind := 1, n := 0, attrs := [], elems := (a ++ (x.ins.getD i default)) } : DStep)]) ++ [({ kind := 2, n := c, attrs := [], elems := [] } : DStep)])))] : List (Nat × Ob)) = [(48, .row 4 false (List.map dstepT (o ++ [({ kind := 1, n := 0, attrs := [], elems := (a ++ (x.ins.getD i default)) } : DStep)]) ++ List.map dstepT [({ kind := 2, n := c, attrs := [], elems := [] } : DStep)]))]]) (by kernel_rfl) ?_ ?_
          · -- region 13
            refine ⟨(Weak.agg ⟨.inl rfl, ⟨.inl rfl, ⟨tw_nil (by decide), ⟨tw_nil (by decide), trivial⟩⟩⟩⟩), ?_, ?_, ?_, (Weak.of_eq (by simp)), (row_append rfl), trivial⟩
            all_goals (first | omega | with_reducible exact fun h => h | (intro hg hq; rw [hg, hq]; rfl) | (intro hq; rw [hq]; done) | (intro hq; rw [hq]; rfl) | ((try intro hg); (try simp [-List.getD_eq_getElem?_getD] at hg); (try simp only [List.length_map]); first | done | omega | rfl | (simp; done) | (simp; omega) | (simp [hg]; done) | (intro hq; simp [hg, hq]; done) | (intro hq; simp [hg, hq]; omega)))
          refine andThen_normal ?_
          refine Sim.seq ?_
          generalize hgen : ((o ++ [({ kind := 1, n := 0, attrs := [], elems := (a ++ (x.ins.getD i default)) } : DStep)]) ++ [({ kind := 2, n := c, attrs := [], elems := [] } : DStep)]) = q
          have hfq : flushD ⟨o, a ++ x.ins.getD i default, c⟩ = q := by
            rw [← hgen]
            unfold flushD
            simp only
            (first | rw [if_pos (show 0 < (a ++ x.ins.getD i default).length by omega)] | rw [if_neg (show ¬ 0 < (a ++ x.ins.getD i default).length by omega)])
            (first | rw [if_pos (show 0 < c by omega)] | rw [if_neg (show ¬ 0 < c by omega)])
            all_goals simp
          have hnq : ∀ s ∈ q, 0 ≤ s.n ∧ s.n ≤ 10000000000 := by rw [← hfq]; exact hn2
          have hql : q.length ≤ o.length + 2 := by rw [← hfq]; exact flushD_len _
          refine Sim.reg (orcs := []) (keys := [1, 3, 4, 5, 6]) (τ := [(0, 0), (48, 48)]) (nx := 402)
            (sl := [(1, .ptr 0 0), (3, .row 48 q.length), (4, .t (.sc (.slice none 0 0))), (5, .t (.sc (.int .i64 0))), (6, .t (.sc (.int .i64 (i : Int))))]) (l := [(0, .box [.t (.lst 1 (List.map elemsT x.ins)), .t (.lst 1 (List.map boolT x.cut)), .t (.lst 1 (List.map attrsT x.set))]), (48, .row 4 false (List.map dstepT q))])
            (C := []) (by kernel_rfl) ?_ ?_
          · -- region 14
            trivial
          refine andThen_normal ?_
          refine Sim.seq ?_
          refine Sim.seq ?_
          refine Sim.reg (orcs := [(3, ⟨some (.t (.sc (.int .i64 (x.cut.length : Int)))), none, none, none⟩)]) (keys := [1, 3, 4, 5, 6, 55]) (τ := [(0, 0), (48, 48)]) (nx := 442)
            (sl := [(1, .ptr 0 0), (3, .row 48 q.length), (4, .t (.sc (.slice none 0 0))), (5, .t (.sc (.int .i64 0))), (6, .t (.sc (.int .i64 (i : Int)))), (55, .t (.sc (.bool ((i : Int) == (x.cut.length : Int)))))]) (l := [(0, .box [.t (.lst 1 (List.map elemsT x.ins)), .t (.lst 1 (List.map boolT x.cut)), .t (.lst 1 (List.map attrsT x.set))]), (48, .row 4 false (List.map dstepT q))])
            (C := [Weak (.t (.sc (.int .i64 ((List.map boolT x.cut).length : Int)))) (.t (.sc (.int .i64 (x.cut.length : Int))))]) (by kernel_rfl) ?_ ?_
          · -- region 15
            exact ⟨(Weak.of_eq len_map), trivial⟩
          refine andThen_normal ?_
          refine Sim.cond (b := ((i : Int) == (x.cut.length : Int))) (by kernel_rfl) (fun h15 => ?_) (fun h15 => ?_)
          · (try simp only [beq_iff_eq, beq_eq_false_iff_ne, ne_eq] at h15)
            refine Sim.exit ?_
            refine andThen_exit ?_
            refine inBlk_other (by decide) ?_
            refine andThen_exit ?_
            refine andThen_exit ?_
            refine inBlk_same ?_
            refine andThen_normal ?_
            refine Sim.seq ?_
            refine Sim.reg (orcs := []) (keys := [2]) (τ := [(48, 48)]) (nx := 458)
              (sl := [(2, .row 48 q.length)]) (l := [(48, .row 4 false (List.map dstepT q))])
              (C := []) (by kernel_rfl) ?_ ?_
            · -- region 20
              trivial
            refine andThen_normal ?_
            refine Sim.ret ?_
            refine Fin.le (Le.freeze (t := 2) (v' := .t (.lst 4 (List.map dstepT q))) (g := [(48, .row 4 true (List.map dstepT q))]) (p := [(q.length : Nat) = (List.map dstepT q).length]) rfl (by kernel_rfl) ⟨(by (first | omega | with_reducible exact fun h => h | (intro hq; rw [hq]; done) | (intro hq; rw [hq]; rfl) | (simp only [List.length_map]; done) | (simp only [List.length_map]; omega) | (simp; omega) | (simp; done))), trivial⟩ (by kernel_rfl)) ?_
            refine Fin.mk2 (.inl rfl) (τ := []) (keys := [2]) (nx := 458) (sl := [(2, .t (.lst 4 (List.map dstepT q)))]) (l := []) (res' := .t (.lst 4 (List.map dstepT q))) (by kernel_rfl) ?_ (by kernel_rfl) ?_
            · -- end 1, objects
              first | done | rfl
            · -- end 1, result
              have e1 : ((doneD (actR x 0))) = q := by
                rw [tailR_e (by omega)] at hDe
                have hG := hDe.done
                unfold doneD
                rw [← hG]
                exact hfq
              show AVal.t (.lst 4 (List.map dstepT q)) = .t (.lst 4 (List.map dstepT (doneD (actR x 0))))
              rw [e1]
              try rfl
          · (try simp only [beq_iff_eq, beq_eq_false_iff_ne, ne_eq] at h15)
            refine Sim.skip ?_
            refine andThen_normal ?_
            refine Sim.seq ?_
            refine Sim.reg (orcs := [(2, ⟨some (.t (.sc (.int .i64 ((q.length : Int) - 1)))), none, none, none⟩)]) (keys := [1, 3, 4, 5, 6, 7]) (τ := [(0, 0), (48, 48)]) (nx := 474)
              (sl := [(1, .ptr 0 0), (3, .row 48 q.length), (4, .t (.sc (.slice none 0 0))), (5, .t (.sc (.int .i64 0))), (6, .t (.sc (.int .i64 (i : Int)))), (7, .t (.sc (.int .i64 ((q.length : Int) - 1))))]) (l := [(0, .box [.t (.lst 1 (List.map elemsT x.ins)), .t (.lst 1 (List.map boolT x.cut)), .t (.lst 1 (List.map attrsT x.set))]), (48, .row 4 false (List.map dstepT q))])
              (C := [Weak (.t (.sc (.int .i64 (IntKind.i64.wrap ((q.length : Int) - 1))))) (.t (.sc (.int .i64 ((q.length : Int) - 1))))]) (by kernel_rfl) ?_ ?_
            · -- region 16
              refine ⟨(Weak.of_eq (nw ?_)), trivial⟩
              all_goals omega
            refine andThen_normal ?_
            refine Sim.seq ?_
            refine Sim.regD (by kernel_rfl) (orcs := [(5, ⟨some (.eptr 48 q.length (q.length - 1) 0), none, none, none⟩), (7, ⟨none, none, some (dstepT (q.getD (q.length - 1) default)), none⟩), (13, ⟨some (.eptr 48 q.length (q.length - 1) 0), none, none, none⟩), (15, ⟨none, none, some (dstepT (q.getD (q.length - 1) default)), none⟩), (19, ⟨none, none, some (.lst 2 (List.map attrT (x.set.getD i default))), none⟩), (21, ⟨none, none, none, some (⟨0, [], .t (.sc (.bool (sameL (((q.getD (q.length - 1) default)).attrs) (x.set.getD i default)))), []⟩)⟩)]) (keys := [1, 3, 4, 5, 6, 7, 81]) (τ := [(0, 0), (48, 48)]) (nx := 658)
              (sl := [(1, .ptr 0 0), (3, .row 48 q.length), (4, .t (.sc (.slice none 0 0))), (5, .t (.sc (.int .i64 0))), (6, .t (.sc (.int .i64 (i : Int)))), (7, .t (.sc (.int .i64 ((q.length : Int) - 1)))), (81, .t (.sc (.bool ((decide (((q.length : Int) - 1) ≥ 0) && ((((q.getD (q.length - 1) default)).kind) == 0)) && (sameL (((q.getD (q.length - 1) default)).attrs) (x.set.getD i default))))))]) (l := [(0, .box [.t (.lst 1 (List.map elemsT x.ins)), .t (.lst 1 (List.map boolT x.cut)), .t (.lst 1 (List.map attrsT x.set))]), (48, .row 4 false (List.map dstepT q))])
              (C := [(decide (((q.length : Int) - 1) ≥ 0)) = true → (decide (((q.length : Int) - 1) ≥ 0)) = true, (decide (((q.length : Int) - 1) ≥ 0)) = true → (decide (((q.length : Int) - 1) ≥ 0)) = true, (decide (((q.length : Int) - 1) ≥ 0)) = true → (q.length : Nat) = (List.map dstepT q).length, (decide (((q.length : Int) - 1) ≥ 0)) = true → (0:Int) ≤ ((q.length : Int) - 1), (decide (((q.length : Int) - 1) ≥ 0)) = true → ((q.length : Int) - 1) < ((q.length : Nat) : Int), (decide (((q.length : Int) - 1) ≥ 0)) = true → Weak (.eptr 48 q.length (Int.toNat ((q.length : Int) - 1)) 0) (.eptr 48 q.length (q.length - 1) 0), (decide (((q.length : Int) - 1) ≥ 0)) = true → (decide (((q.length : Int) - 1) ≥ 0)) = true, (decide (((q.length : Int) - 1) ≥ 0)) = true → (decide (((q.length : Int) - 1) ≥ 0)) = true, (decide (((q.length : Int) - 1) ≥ 0)) = true → (q.length : Nat) = (List.map dstepT q).length, (decide (((q.length : Int) - 1) ≥ 0)) = true → (List.map dstepT q)[(q.length - 1)]? = some (dstepT (q.getD (q.length - 1) default)), (decide (((q.length : Int) - 1) ≥ 0)) = true → (decide (((q.length : Int) - 1) ≥ 0)) = true, (decide (((q.length : Int) - 1) ≥ 0)) = true → (decide (((q.length : Int) - 1) ≥ 0)) = true, (decide (((q.length : Int) - 1) ≥ 0) && ((((q.getD (q.length - 1) default)).kind) == 0)) = true → (decide (((q.length : Int) - 1) ≥ 0) && ((((q.getD (q.length - 1) default)).kind) == 0)) = true, (decide (((q.length : Int) - 1) ≥ 0) && ((((q.getD (q.length - 1) default)).kind) == 0)) = true → (decide (((q.length : Int) - 1) ≥ 0) && ((((q.getD (q.length - 1) default)).kind) == 0)) = true, (decide (((q.length : Int) - 1) ≥ 0) && ((((q.getD (q.length - 1) default)).kind) == 0)) = true → (q.length : Nat) = (List.map dstepT q).length, (decide (((q.length : Int) - 1) ≥ 0) && ((((q.getD (q.length - 1) default)).kind) == 0)) = true → (0:Int) ≤ ((q.length : Int) - 1), (decide (((q.length : Int) - 1) ≥ 0) && ((((q.getD (q.length - 1) default)).kind) == 0)) = true → ((q.length : Int) - 1) < ((q.length : Nat) : Int), (decide (((q.length : Int) - 1) ≥ 0) && ((((q.getD (q.length - 1) default)).kind) == 0)) = true → Weak (.eptr 48 q.length (Int.toNat ((q.length : Int) - 1)) 0) (.eptr 48 q.length (q.length - 1) 0), (decide (((q.length : Int) - 1) ≥ 0) && ((((q.getD (q.length - 1) default)).kind) == 0)) = true → (decide (((q.length : Int) - 1) ≥ 0) && ((((q.getD (q.length - 1) default)).kind) == 0)) = true, (decide (((q.length : Int) - 1) ≥ 0) && ((((q.getD (q.length - 1) default)).kind) == 0)) = true → (decide (((q.length : Int) - 1) ≥ 0) && ((((q.getD (q.length - 1) default)).kind) == 0)) = true, (decide (((q.length : Int) - 1) ≥ 0) && ((((q.getD (q.length - 1) default)).kind) == 0)) = true → (q.length : Nat) = (List.map dstepT q).length, (decide (((q.length : Int) - 1) ≥ 0) && ((((q.getD (q.length - 1) default)).kind) == 0)) = true → (List.map dstepT q)[(q.length - 1)]? = some (dstepT (q.getD (q.length - 1) default)), (decide (((q.length : Int) - 1) ≥ 0) && ((((q.getD (q.length - 1) default)).kind) == 0)) = true → (decide (((q.length : Int) - 1) ≥ 0) && ((((q.getD (q.length - 1) default)).kind) == 0)) = true, (decide (((q.length : Int) - 1) ≥ 0) && ((((q.getD (q.length - 1) default)).kind) == 0)) = true → (decide (((q.length : Int) - 1) ≥ 0) && ((((q.getD (q.length - 1) default)).kind) == 0)) = true, (decide (((q.length : Int) - 1) ≥ 0) && ((((q.getD (q.length - 1) default)).kind) == 0)) = true → (decide (((q.length : Int) - 1) ≥ 0) && ((((q.getD (q.length - 1) default)).kind) == 0)) = true, (decide (((q.length : Int) - 1) ≥ 0) && ((((q.getD (q.length - 1) default)).kind) == 0)) = true → (0:Int) ≤ (i : Int), (decide (((q.length : Int) - 1) ≥ 0) && ((((q.getD (q.length - 1) default)).kind) == 0)) = true → (List.map attrsT x.set)[i]? = some (.lst 2 (List.map attrT (x.set.getD i default))), (decide (((q.length : Int) - 1) ≥ 0) && ((((q.getD (q.length - 1) default)).kind) == 0)) = true → (decide (((q.length : Int) - 1) ≥ 0) && ((((q.getD (q.length - 1) default)).kind) == 0)) = true, (decide (((q.length : Int) - 1) ≥ 0) && ((((q.getD (q.length - 1) default)).kind) == 0)) = true → (decide (((q.length : Int) - 1) ≥ 0) && ((((q.getD (q.length - 1) default)).kind) == 0)) = true, (decide (((q.length : Int) - 1) ≥ 0) && ((((q.getD (q.length - 1) default)).kind) == 0)) = true → (decide (((q.length : Int) - 1) ≥ 0) && ((((q.getD (q.length - 1) default)).kind) == 0)) = true, (decide (((q.length : Int) - 1) ≥ 0) && ((((q.getD (q.length - 1) default)).kind) == 0)) = true → callable Try.prog 30 = true, (decide (((q.length : Int) - 1) ≥ 0) && ((((q.getD (q.length - 1) default)).kind) == 0)) = true → FC Try.prog 30 [.t (.lst 2 (List.map attrT (((q.getD (q.length - 1) default)).attrs))), .t (.lst 2 (List.map attrT (x.set.getD i default)))] emp (.t (.sc (.bool (sameL (((q.getD (q.length - 1) default)).attrs) (x.set.getD i default))))) emp, (decide (((q.length : Int) - 1) ≥ 0) && ((((q.getD (q.length - 1) default)).kind) == 0)) = true → (decide (((q.length : Int) - 1) ≥ 0) && ((((q.getD (q.length - 1) default)).kind) == 0)) = true]) (by kernel_rfl) ?_ ?_
            · -- region 17
              refine ⟨?_, ?_, ?_, ?_, ?_, (fun hg => (Weak.of_eq (eptr_eq ?_))), ?_, ?_, ?_, (fun hg => (elt_nat ?_)), ?_, ?_, ?_, ?_, ?_, ?_, ?_, (fun hg => (Weak.of_eq (eptr_eq ?_))), ?_, ?_, ?_, (fun hg => (elt_nat ?_)), ?_, ?_, ?_, ?_, (fun hg => (elt_nat ?_)), ?_, ?_, ?_, (fun hg => by (try simp only [decide_eq_true_eq, decide_eq_false_iff_not, Int.not_lt, Int.not_le, ge_iff_le, Bool.and_eq_true, Bool.and_eq_false_iff, Bool.not_eq_true', Bool.not_eq_false', beq_iff_eq, beq_eq_false_iff_ne, ne_eq] at hg); exact (by kernel_rfl)), (fun hg => by (try simp only [decide_eq_true_eq, decide_eq_false_iff_not, Int.not_lt, Int.not_le, ge_iff_le, Bool.and_eq_true, Bool.and_eq_false_iff, Bool.not_eq_true', Bool.not_eq_false', beq_iff_eq, beq_eq_false_iff_ne, ne_eq] at hg); exact (fc_sameAttrs (((q.getD (q.length - 1) default)).attrs) (x.set.getD i default))), ?_, trivial⟩
              all_goals (first | omega | with_reducible exact fun h => h | (intro hg hq; rw [hg, hq]; rfl) | (intro hq; rw [hq]; done) | (intro hq; rw [hq]; rfl) | ((try intro hg); (try simp [-List.getD_eq_getElem?_getD] at hg); (try simp only [List.length_map]); first | done | omega | rfl | (simp; done) | (simp; omega) | (simp [hg]; done) | (intro hq; simp [hg, hq]; done) | (intro hq; simp [hg, hq]; omega)))
            refine andThen_normal ?_
            refine Sim.cond (b := ((decide (((q.length : Int) - 1) ≥ 0) && ((((q.getD (q.length - 1) default)).kind) == 0)) && (sameL (((q.getD (q.length - 1) default)).attrs) (x.set.getD i default)))) (by kernel_rfl) (fun h17 => ?_) (fun h17 => ?_)
            · (try simp only [decide_eq_true_eq, decide_eq_false_iff_not, Int.not_lt, Int.not_le, ge_iff_le, Bool.and_eq_true, Bool.and_eq_false_iff, Bool.not_eq_true', Bool.not_eq_false', beq_iff_eq, beq_eq_false_iff_ne, ne_eq] at h17)
              have hlast := fun h : 0 < q.length => hnq _ (lastD_mem h)
              refine Sim.reg (orcs := [(2, ⟨some (.eptr 48 q.length (q.length - 1) 0), none, none, none⟩), (4, ⟨none, none, some (dstepT (q.getD (q.length - 1) default)), none⟩), (5, ⟨some (.t (.sc (.int .i64 ((((q.getD (q.length - 1) default)).n) + 1)))), none, none, none⟩), (6, ⟨some (.eptr 48 q.length (q.length - 1) 0), none, none, none⟩), (8, ⟨none, some ([(48, .row 4 false (List.map dstepT (q.set (q.length - 1) ({ kind := ((q.getD (q.length - 1) default)).kind, n := ((((q.getD (q.length - 1) default)).n) + 1), attrs := ((q.getD (q.length - 1) default)).attrs, elems := ((q.getD (q.length - 1) default)).elems } : DStep))))]), some (dstepT (q.getD (q.length - 1) default)), none⟩)]) (keys := [1, 3, 4, 5, 6]) (τ := [(0, 0), (48, 48)]) (nx := 730)
                (sl := [(1, .ptr 0 0), (3, .row 48 q.length), (4, .t (.sc (.slice none 0 0))), (5, .t (.sc (.int .i64 0))), (6, .t (.sc (.int .i64 (i : Int))))]) (l := [(0, .box [.t (.lst 1 (List.map elemsT x.ins)), .t (.lst 1 (List.map boolT x.cut)), .t (.lst 1 (List.map attrsT x.set))]), (48, .row 4 false (List.map dstepT (q.set (q.length - 1) ({ kind := ((q.getD (q.length - 1) default)).kind, n := ((((q.getD (q.length - 1) default)).n) + 1), attrs := ((q.getD (q.length - 1) default)).attrs, elems := ((q.getD (q.length - 1) default)).elems } : DStep))))])
                (C := [(q.length : Nat) = (List.map dstepT q).length, (0:Int) ≤ ((q.length : Int) - 1), ((q.length : Int) - 1) < ((q.length : Nat) : Int), Weak (.eptr 48 q.length (Int.toNat ((q.length : Int) - 1)) 0) (.eptr 48 q.length (q.length - 1) 0), (q.length : Nat) = (List.map dstepT q).length, (List.map dstepT q)[(q.length - 1)]? = some (dstepT (q.getD (q.length - 1) default)), Weak (.t (.sc (.int .i64 (IntKind.i64.wrap ((((q.getD (q.length - 1) default)).n) + 1))))) (.t (.sc (.int .i64 ((((q.getD (q.length - 1) default)).n) + 1)))), (q.length : Nat) = (List.map dstepT q).length, (0:Int) ≤ ((q.length : Int) - 1), ((q.length : Int) - 1) < ((q.length : Nat) : Int), Weak (.eptr 48 q.length (Int.toNat ((q.length : Int) - 1)) 0) (.eptr 48 q.length (q.length - 1) 0), (q.length : Nat) = (List.map dstepT q).length, (List.map dstepT q)[(q.length - 1)]? = some (dstepT (q.getD (q.length - 1) default)), ([(48, .row 4 false (List.map dstepT (q.set (q.length - 1) ({ kind := ((q.getD (q.length - 1) default)).kind, n := ((((q.getD (q.length - 1) default)).n) + 1), attrs := ((q.getD (q.length - 1) default)).attrs, elems := ((q.getD (q.length - 1) default)).elems } : DStep))))] : List (Nat × Ob)) = [(48, .row 4 false ((List.map dstepT q).set (q.length - 1) (.agg [.sc (.int .i64 (((q.getD (q.length - 1) default)).kind)), .sc (.int .i64 ((((q.getD (q.length - 1) default)).n) + 1)), .lst 2 (List.map attrT (((q.getD (q.length - 1) default)).attrs)), .lst 3 (List.map elemT (((q.getD (q.length - 1) default)).elems))])))]]) (by kernel_rfl) ?_ ?_
              · -- region 18
                refine ⟨?_, ?_, ?_, (Weak.of_eq (eptr_eq ?_)), ?_, (elt_nat ?_), (Weak.of_eq (nw ?_)), ?_, ?_, ?_, (Weak.of_eq (eptr_eq ?_)), ?_, (elt_nat ?_), (row_set rfl), trivial⟩
                all_goals (first | omega | with_reducible exact fun h => h | (intro hg hq; rw [hg, hq]; rfl) | (intro hq; rw [hq]; done) | (intro hq; rw [hq]; rfl) | ((try intro hg); (try simp [-List.getD_eq_getElem?_getD] at hg); (try simp only [List.length_map]); first | done | omega | rfl | (simp; done) | (simp; omega) | (simp [hg]; done) | (intro hq; simp [hg, hq]; done) | (intro hq; simp [hg, hq]; omega)))
              refine inBlk_normal ?_
              refine andThen_normal ?_
              refine Sim.reg (orcs := [(1, ⟨some (.t (.sc (.int .i64 ((i : Int) + 1)))), none, none, none⟩)]) (keys := [1, 3, 4, 5, 6]) (τ := [(0, 0), (48, 48)]) (nx := 754)
                (sl := [(1, .ptr 0 0), (3, .row 48 q.length), (4, .t (.sc (.slice none 0 0))), (5, .t (.sc (.int .i64 0))), (6, .t (.sc (.int .i64 ((i : Int) + 1))))]) (l := [(0, .box [.t (.lst 1 (List.map elemsT x.ins)), .t (.lst 1 (List.map boolT x.cut)), .t (.lst 1 (List.map attrsT x.set))]), (48, .row 4 false (List.map dstepT (q.set (q.length - 1) ({ kind := ((q.getD (q.length - 1) default)).kind, n := ((((q.getD (q.length - 1) default)).n) + 1), attrs := ((q.getD (q.length - 1) default)).attrs, elems := ((q.getD (q.length - 1) default)).elems } : DStep))))])
                (C := [Weak (.t (.sc (.int .i64 (IntKind.i64.wrap ((i : Int) + 1))))) (.t (.sc (.int .i64 ((i : Int) + 1))))]) (by kernel_rfl) ?_ ?_
              · -- region 6
                refine ⟨(Weak.of_eq (nw ?_)), trivial⟩
                all_goals omega
              refine andThen_normal ?_
              refine LoopSim.weaken (Le.nilRow (t := 4) (k := 3) (id := 754) rfl rfl rfl) ?_
              refine LoopSim.weaken (Le.slot (t := 3) (v' := .row 48 ((q.set (q.length - 1) ({ kind := ((q.getD (q.length - 1) default)).kind, n := ((((q.getD (q.length - 1) default)).n) + 1), attrs := ((q.getD (q.length - 1) default)).attrs, elems := ((q.getD (q.length - 1) default)).elems } : DStep)).length)) rfl (fun _ _ _ _ _ hv => (show q.length = (q.set (q.length - 1) ({ kind := ((q.getD (q.length - 1) default)).kind, n := ((((q.getD (q.length - 1) default)).n) + 1), attrs := ((q.getD (q.length - 1) default)).attrs, elems := ((q.getD (q.length - 1) default)).elems } : DStep)).length by simp only [List.length_set]) ▸ hv)) ?_
              refine LoopSim.weaken (Le.ren (τ := [(0, 0), (48, 48), (754, 49)]) (keys := [1, 3, 4, 5, 6]) (nx := 50) (sl := [(1, .ptr 0 0), (3, .row 48 ((q.set (q.length - 1) ({ kind := ((q.getD (q.length - 1) default)).kind, n := ((((q.getD (q.length - 1) default)).n) + 1), attrs := ((q.getD (q.length - 1) default)).attrs, elems := ((q.getD (q.length - 1) default)).elems } : DStep)).length)), (4, .row 49 0), (5, .t (.sc (.int .i64 0))), (6, .t (.sc (.int .i64 (((i + 1) : Nat) : Int))))]) (l := [(0, .box [.t (.lst 1 (List.map elemsT x.ins)), .t (.lst 1 (List.map boolT x.cut)), .t (.lst 1 (List.map attrsT x.set))]), (48, .row 4 false (List.map dstepT (q.set (q.length - 1) ({ kind := ((q.getD (q.length - 1) default)).kind, n := ((((q.getD (q.length - 1) default)).n) + 1), attrs := ((q.getD (q.length - 1) default)).attrs, elems := ((q.getD (q.length - 1) default)).elems } : DStep)))), (49, .row 3 false (List.map elemT []))]) (by kernel_rfl)) ?_
              refine ih5 (0, (i + 1), (q.set (q.length - 1) ({ kind := ((q.getD (q.length - 1) default)).kind, n := ((((q.getD (q.length - 1) default)).n) + 1), attrs := ((q.getD (q.length - 1) default)).attrs, elems := ((q.getD (q.length - 1) default)).elems } : DStep)), []) ?_ ?_
              · -- back 5.2, invariant
                rw [tailR_K (by omega) (by rcases h8 with h8 | h8; omega; exact h8)] at hDe
                refine ⟨by omega, DI.of_eq ?_ hDe.keep1⟩
                simp only
                rw [hfq]
                unfold keepD
                split
                · rename_i z; first | rfl | (exfalso; rcases h17 with (h | h) | h; omega; exact h z.2.1; (rw [z.2.2] at h; cases h))
                · rename_i z; first | rfl | exact absurd ⟨by omega, h17.1.2, h17.2⟩ z
              · -- back 5.2, measure
                show (_:Nat) < _; (first | omega | with_reducible exact fun h => h | (intro hq; rw [hq]; done) | (intro hq; rw [hq]; rfl) | (simp only [List.length_map]; done) | (simp only [List.length_map]; omega) | (simp; omega) | (simp; done))
            · (try simp only [decide_eq_true_eq, decide_eq_false_iff_not, Int.not_lt, Int.not_le, ge_iff_le, Bool.and_eq_true, Bool.and_eq_false_iff, Bool.not_eq_true', Bool.not_eq_false', beq_iff_eq, beq_eq_false_iff_ne, ne_eq] at h17)
              refine Sim.reg (orcs := [(4, ⟨none, none, some (.lst 2 (List.map attrT (x.set.getD i default))), none⟩), (6, ⟨some (.t (.agg [.sc (.int .i64 0), .sc (.int .i64 1), .lst 2 (List.map attrT (x.set.getD i default)), .lst 3 (List.map elemT [])])), none, none, none⟩), (8, ⟨some (.row 48 ((q ++ [({ kind := 0, n := 1, attrs := (x.set.getD i default), elems := [] } : DStep)]).length)), some ([(48, .row 4 false (List.map dstepT (q ++ [({ kind := 0, n := 1, attrs := (x.set.getD i default), elems := [] } : DStep)])))]), none, none⟩)]) (keys := [1, 3, 4, 5, 6]) (τ := [(0, 0), (48, 48)]) (nx := 738)
                (sl := [(1, .ptr 0 0), (3, .row 48 ((q ++ [({ kind := 0, n := 1, attrs := (x.set.getD i default), elems := [] } : DStep)]).length)), (4, .t (.sc (.slice none 0 0))), (5, .t (.sc (.int .i64 0))), (6, .t (.sc (.int .i64 (i : Int))))]) (l := [(0, .box [.t (.lst 1 (List.map elemsT x.ins)), .t (.lst 1 (List.map boolT x.cut)), .t (.lst 1 (List.map attrsT x.set))]), (48, .row 4 false (List.map dstepT (q ++ [({ kind := 0, n := 1, attrs := (x.set.getD i default), elems := [] } : DStep)])))])
                (C := [(0:Int) ≤ (i : Int), (List.map attrsT x.set)[i]? = some (.lst 2 (List.map attrT (x.set.getD i default))), Weak (.t (.agg [.sc (.int .i64 0), .sc (.int .i64 1), .lst 2 (List.map attrT (x.set.getD i default)), .sc (.slice none 0 0)])) (.t (.agg [.sc (.int .i64 0), .sc (.int .i64 1), .lst 2 (List.map attrT (x.set.getD i default)), .lst 3 (List.map elemT [])])), 1 = (List.map dstepT [({ kind := 0, n := 1, attrs := (x.set.getD i default), elems := [] } : DStep)]).length, (q.length : Nat) = (List.map dstepT q).length, (q.length : Nat) + (List.map dstepT [({ kind := 0, n := 1, attrs := (x.set.getD i default), elems := [] } : DStep)]).length ≤ 1099511627776, Weak (.row 48 (q.length + (List.map dstepT [({ kind := 0, n := 1, attrs := (x.set.getD i default), elems := [] } : DStep)]).length)) (.row 48 ((q ++ [({ kind := 0, n := 1, attrs := (x.set.getD i default), elems := [] } : DStep)]).length)), ([(48, .row 4 false (List.map dstepT (q ++ [({ kind := 0, n := 1, attrs := (x.set.getD i default), elems := [] } : DStep)])))] : List (Nat × Ob)) = [(48, .row 4 false (List.map dstepT q ++ List.map dstepT [({ kind := 0, n := 1, attrs := (x.set.getD i default), elems := [] } : DStep)]))]]) (by kernel_rfl) ?_ ?_
              · -- region 19
                refine ⟨?_, (elt_nat ?_), (Weak.agg ⟨.inl rfl, ⟨.inl rfl, ⟨.inl rfl, ⟨tw_nil (by decide), trivial⟩⟩⟩⟩), ?_, ?_, ?_, (Weak.of_eq (by simp)), (row_append rfl), trivial⟩
                all_goals (first | omega | with_reducible exact fun h => h | (intro hg hq; rw [hg, hq]; rfl) | (intro hq; rw [hq]; done) | (intro hq; rw [hq]; rfl) | ((try intro hg); (try simp [-List.getD_eq_getElem?_getD] at hg); (try simp only [List.length_map]); first | done | omega | rfl | (simp; done) | (simp; omega) | (simp [hg]; done) | (intro hq; simp [hg, hq]; done) | (intro hq; simp [hg, hq]; omega)))
              refine inBlk_normal ?_
              refine andThen_normal ?_
              refine Sim.reg (orcs := [(1, ⟨some (.t (.sc (.int .i64 ((i : Int) + 1)))), none, none, none⟩)]) (keys := [1, 3, 4, 5, 6]) (τ := [(0, 0), (48, 48)]) (nx := 762)
                (sl := [(1, .ptr 0 0), (3, .row 48 ((q ++ [({ kind := 0, n := 1, attrs := (x.set.getD i default), elems := [] } : DStep)]).length)), (4, .t (.sc (.slice none 0 0))), (5, .t (.sc (.int .i64 0))), (6, .t (.sc (.int .i64 ((i : Int) + 1))))]) (l := [(0, .box [.t (.lst 1 (List.map elemsT x.ins)), .t (.lst 1 (List.map boolT x.cut)), .t (.lst 1 (List.map attrsT x.set))]), (48, .row 4 false (List.map dstepT (q ++ [({ kind := 0, n := 1, attrs := (x.set.getD i default), elems := [] } : DStep)])))])
                (C := [Weak (.t (.sc (.int .i64 (IntKind.i64.wrap ((i : Int) + 1))))) (.t (.sc (.int .i64 ((i : Int) + 1))))]) (by kernel_rfl) ?_ ?_
              · -- region 6
                refine ⟨(Weak.of_eq (nw ?_)), trivial⟩
                all_goals omega
              refine andThen_normal ?_
              refine LoopSim.weaken (Le.nilRow (t := 4) (k := 3) (id := 762) rfl rfl rfl) ?_
              refine LoopSim.weaken (Le.ren (τ := [(0, 0), (48, 48), (762, 49)]) (keys := [1, 3, 4, 5, 6]) (nx := 50) (sl := [(1, .ptr 0 0), (3, .row 48 ((q ++ [({ kind := 0, n := 1, attrs := (x.set.getD i default), elems := [] } : DStep)]).length)), (4, .row 49 0), (5, .t (.sc (.int .i64 0))), (6, .t (.sc (.int .i64 (((i + 1) : Nat) : Int))))]) (l := [(0, .box [.t (.lst 1 (List.map elemsT x.ins)), .t (.lst 1 (List.map boolT x.cut)), .t (.lst 1 (List.map attrsT x.set))]), (48, .row 4 false (List.map dstepT (q ++ [({ kind := 0, n := 1, attrs := (x.set.getD i default), elems := [] } : DStep)]))), (49, .row 3 false (List.map elemT []))]) (by kernel_rfl)) ?_
              refine ih5 (0, (i + 1), (q ++ [({ kind := 0, n := 1, attrs := (x.set.getD i default), elems := [] } : DStep)]), []) ?_ ?_
              · -- back 5.3, invariant
                rw [tailR_K (by omega) (by rcases h8 with h8 | h8; omega; exact h8)] at hDe
                refine ⟨by omega, DI.of_eq ?_ hDe.keep1⟩
                simp only
                rw [hfq]
                unfold keepD
                split
                · rename_i z; first | rfl | (exfalso; rcases h17 with (h | h) | h; omega; exact h z.2.1; (rw [z.2.2] at h; cases h))
                · rename_i z; first | rfl | exact absurd ⟨by omega, h17.1.2, h17.2⟩ z
              · -- back 5.3, measure
                show (_:Nat) < _; (first | omega | with_reducible exact fun h => h | (intro hq; rw [hq]; done) | (intro hq; rw [hq]; rfl) | (simp only [List.length_map]; done) | (simp only [List.length_map]; omega) | (simp; omega) | (simp; done))
        · (try simp only [decide_eq_true_eq, decide_eq_false_iff_not, Int.not_lt, Int.not_le, gt_iff_lt] at h12)
          refine Sim.skip ?_
          refine andThen_normal ?_
          refine Sim.seq ?_
          generalize hgen : (o ++ [({ kind := 1, n := 0, attrs := [], elems := (a ++ (x.ins.getD i default)) } : DStep)]) = q
          have hfq : flushD ⟨o, a ++ x.ins.getD i default, c⟩ = q := by
            rw [← hgen]
            unfold flushD
            simp only
            (first | rw [if_pos (show 0 < (a ++ x.ins.getD i default).length by omega)] | rw [if_neg (show ¬ 0 < (a ++ x.ins.getD i default).length by omega)])
            (first | rw [if_pos (show 0 < c by omega)] | rw [if_neg (show ¬ 0 < c by omega)])
            all_goals simp
          have hnq : ∀ s ∈ q, 0 ≤ s.n ∧ s.n ≤ 10000000000 := by rw [← hfq]; exact hn2
          have hql : q.length ≤ o.length + 2 := by rw [← hfq]; exact flushD_len _
          refine Sim.reg (orcs := []) (keys := [1, 3, 4, 5, 6]) (τ := [(0, 0), (48, 48)]) (nx := 354)
            (sl := [(1, .ptr 0 0), (3, .row 48 q.length), (4, .t (.sc (.slice none 0 0))), (5, .t (.sc (.int .i64 0))), (6, .t (.sc (.int .i64 (i : Int))))]) (l := [(0, .box [.t (.lst 1 (List.map elemsT x.ins)), .t (.lst 1 (List.map boolT x.cut)), .t (.lst 1 (List.map attrsT x.set))]), (48, .row 4 false (List.map dstepT q))])
            (C := []) (by kernel_rfl) ?_ ?_
          · -- region 14
            trivial
          refine andThen_normal ?_
          refine Sim.seq ?_
          refine Sim.seq ?_
          refine Sim.reg (orcs := [(3, ⟨some (.t (.sc (.int .i64 (x.cut.length : Int)))), none, none, none⟩)]) (keys := [1, 3, 4, 5, 6, 55]) (τ := [(0, 0), (48, 48)]) (nx := 394)
            (sl := [(1, .ptr 0 0), (3, .row 48 q.length), (4, .t (.sc (.slice none 0 0))), (5, .t (.sc (.int .i64 0))), (6, .t (.sc (.int .i64 (i : Int)))), (55, .t (.sc (.bool ((i : Int) == (x.cut.length : Int)))))]) (l := [(0, .box [.t (.lst 1 (List.map elemsT x.ins)), .t (.lst 1 (List.map boolT x.cut)), .t (.lst 1 (List.map attrsT x.set))]), (48, .row 4 false (List.map dstepT q))])
            (C := [Weak (.t (.sc (.int .i64 ((List.map boolT x.cut).length : Int)))) (.t (.sc (.int .i64 (x.cut.length : Int))))]) (by kernel_rfl) ?_ ?_
          · -- region 15
            exact ⟨(Weak.of_eq len_map), trivial⟩
          refine andThen_normal ?_
          refine Sim.cond (b := ((i : Int) == (x.cut.length : Int))) (by kernel_rfl) (fun h15 => ?_) (fun h15 => ?_)
          · (try simp only [beq_iff_eq, beq_eq_false_iff_ne, ne_eq] at h15)
            refine Sim.exit ?_
            refine andThen_exit ?_
            refine inBlk_other (by decide) ?_
            refine andThen_exit ?_
            refine andThen_exit ?_
            refine inBlk_same ?_
            refine andThen_normal ?_
            refine Sim.seq ?_
            refine Sim.reg (orcs := []) (keys := [2]) (τ := [(48, 48)]) (nx := 410)
              (sl := [(2, .row 48 q.length)]) (l := [(48, .row 4 false (List.map dstepT q))])
              (C := []) (by kernel_rfl) ?_ ?_
            · -- region 20
              trivial
            refine andThen_normal ?_
            refine Sim.ret ?_
            refine Fin.le (Le.freeze (t := 2) (v' := .t (.lst 4 (List.map dstepT q))) (g := [(48, .row 4 true (List.map dstepT q))]) (p := [(q.length : Nat) = (List.map dstepT q).length]) rfl (by kernel_rfl) ⟨(by (first | omega | with_reducible exact fun h => h | (intro hq; rw [hq]; done) | (intro hq; rw [hq]; rfl) | (simp only [List.length_map]; done) | (simp only [List.length_map]; omega) | (simp; omega) | (simp; done))), trivial⟩ (by kernel_rfl)) ?_
            refine Fin.mk2 (.inl rfl) (τ := []) (keys := [2]) (nx := 410) (sl := [(2, .t (.lst 4 (List.map dstepT q)))]) (l := []) (res' := .t (.lst 4 (List.map dstepT q))) (by kernel_rfl) ?_ (by kernel_rfl) ?_
            · -- end 2, objects
              first | done | rfl
            · -- end 2, result
              have e2 : ((doneD (actR x 0))) = q := by
                rw [tailR_e (by omega)] at hDe
                have hG := hDe.done
                unfold doneD
                rw [← hG]
                exact hfq
              show AVal.t (.lst 4 (List.map dstepT q)) = .t (.lst 4 (List.map dstepT (doneD (actR x 0))))
              rw [e2]
              try rfl
          · (try simp only [beq_iff_eq, beq_eq_false_iff_ne, ne_eq] at h15)
            refine Sim.skip ?_
            refine andThen_normal ?_
            refine Sim.seq ?_
            refine Sim.reg (orcs := [(2, ⟨some (.t (.sc (.int .i64 ((q.length : Int) - 1)))), none, none, none⟩)]) (keys := [1, 3, 4, 5, 6, 7]) (τ := [(0, 0), (48, 48)]) (nx := 426)
              (sl := [(1, .ptr 0 0), (3, .row 48 q.length), (4, .t (.sc (.slice none 0 0))), (5, .t (.sc (.int .i64 0))), (6, .t (.sc (.int .i64 (i : Int)))), (7, .t (.sc (.int .i64 ((q.length : Int) - 1))))]) (l := [(0, .box [.t (.lst 1 (List.map elemsT x.ins)), .t (.lst 1 (List.map boolT x.cut)), .t (.lst 1 (List.map attrsT x.set))]), (48, .row 4 false (List.map dstepT q))])
              (C := [Weak (.t (.sc (.int .i64 (IntKind.i64.wrap ((q.length : Int) - 1))))) (.t (.sc (.int .i64 ((q.length : Int) - 1))))]) (by kernel_rfl) ?_ ?_
            · -- region 16
              refine ⟨(Weak.of_eq (nw ?_)), trivial⟩
              all_goals omega
            refine andThen_normal ?_
            refine Sim.seq ?_
            refine Sim.regD (by kernel_rfl) (orcs := [(5, ⟨some (.eptr 48 q.length (q.length - 1) 0), none, none, none⟩), (7, ⟨none, none, some (dstepT (q.getD (q.length - 1) default)), none⟩), (13, ⟨some (.eptr 48 q.length (q.length - 1) 0), none, none, none⟩), (15, ⟨none, none, some (dstepT (q.getD (q.length - 1) default)), none⟩), (19, ⟨none, none, some (.lst 2 (List.map attrT (x.set.getD i default))), none⟩), (21, ⟨none, none, none, some (⟨0, [], .t (.sc (.bool (sameL (((q.getD (q.length - 1) default)).attrs) (x.set.getD i default)))), []⟩)⟩)]) (keys := [1, 3, 4, 5, 6, 7, 81]) (τ := [(0, 0), (48, 48)]) (nx := 610)
              (sl := [(1, .ptr 0 0), (3, .row 48 q.length), (4, .t (.sc (.slice none 0 0))), (5, .t (.sc (.int .i64 0))), (6, .t (.sc (.int .i64 (i : Int)))), (7, .t (.sc (.int .i64 ((q.length : Int) - 1)))), (81, .t (.sc (.bool ((decide (((q.length : Int) - 1) ≥ 0) && ((((q.getD (q.length - 1) default)).kind) == 0)) && (sameL (((q.getD (q.length - 1) default)).attrs) (x.set.getD i default))))))]) (l := [(0, .box [.t (.lst 1 (List.map elemsT x.ins)), .t (.lst 1 (List.map boolT x.cut)), .t (.lst 1 (List.map attrsT x.set))]), (48, .row 4 false (List.map dstepT q))])
              (C := [(decide (((q.length : Int) - 1) ≥ 0)) = true → (decide (((q.length : Int) - 1) ≥ 0)) = true, (decide (((q.length : Int) - 1) ≥ 0)) = true → (decide (((q.length : Int) - 1) ≥ 0)) = true, (decide (((q.length : Int) - 1) ≥ 0)) = true → (q.length : Nat) = (List.map dstepT q).length, (decide (((q.length : Int) - 1) ≥ 0)) = true → (0:Int) ≤ ((q.length : Int) - 1), (decide (((q.length : Int) - 1) ≥ 0)) = true → ((q.length : Int) - 1) < ((q.length : Nat) : Int), (decide (((q.length : Int) - 1) ≥ 0)) = true → Weak (.eptr 48 q.length (Int.toNat ((q.length : Int) - 1)) 0) (.eptr 48 q.length (q.length - 1) 0), (decide (((q.length : Int) - 1) ≥ 0)) = true → (decide (((q.length : Int) - 1) ≥ 0)) = true, (decide (((q.length : Int) - 1) ≥ 0)) = true → (decide (((q.length : Int) - 1) ≥ 0)) = true, (decide (((q.length : Int) - 1) ≥ 0)) = true → (q.length : Nat) = (List.map dstepT q).length, (decide (((q.length : Int) - 1) ≥ 0)) = true → (List.map dstepT q)[(q.length - 1)]? = some (dstepT (q.getD (q.length - 1) default)), (decide (((q.length : Int) - 1) ≥ 0)) = true → (decide (((q.length : Int) - 1) ≥ 0)) = true, (decide (((q.length : Int) - 1) ≥ 0)) = true → (decide (((q.length : Int) - 1) ≥ 0)) = true, (decide (((q.length : Int) - 1) ≥ 0) && ((((q.getD (q.length - 1) default)).kind) == 0)) = true → (decide (((q.length : Int) - 1) ≥ 0) && ((((q.getD (q.length - 1) default)).kind) == 0)) = true, (decide (((q.length : Int) - 1) ≥ 0) && ((((q.getD (q.length - 1) default)).kind) == 0)) = true → (decide (((q.length : Int) - 1) ≥ 0) && ((((q.getD (q.length - 1) default)).kind) == 0)) = true, (decide (((q.length : Int) - 1) ≥ 0) && ((((q.getD (q.length - 1) default)).kind) == 0)) = true → (q.length : Nat) = (List.map dstepT q).length, (decide (((q.length : Int) - 1) ≥ 0) && ((((q.getD (q.length - 1) default)).kind) == 0)) = true → (0:Int) ≤ ((q.length : Int) - 1), (decide (((q.length : Int) - 1) ≥ 0) && ((((q.getD (q.length - 1) default)).kind) == 0)) = true → ((q.length : Int) - 1) < ((q.length : Nat) : Int), (decide (((q.length : Int) - 1) ≥ 0) && ((((q.getD (q.length - 1) default)).kind) == 0)) = true → Weak (.eptr 48 q.length (Int.toNat ((q.length : Int) - 1)) 0) (.eptr 48 q.length (q.length - 1) 0), (decide (((q.length : Int) - 1) ≥ 0) && ((((q.getD (q.length - 1) default)).kind) == 0)) = true → (decide (((q.length : Int) - 1) ≥ 0) && ((((q.getD (q.length - 1) default)).kind) == 0)) = true, (decide (((q.length : Int) - 1) ≥ 0) && ((((q.getD (q.length - 1) default)).kind) == 0)) = true → (decide (((q.length : Int) - 1) ≥ 0) && ((((q.getD (q.length - 1) default)).kind) == 0)) = true, (decide (((q.length : Int) - 1) ≥ 0) && ((((q.getD (q.length - 1) default)).kind) == 0)) = true → (q.length : Nat) = (List.map dstepT q).length, (decide (((q.length : Int) - 1) ≥ 0) && ((((q.getD (q.length - 1) default)).kind) == 0)) = true → (List.map dstepT q)[(q.length - 1)]? = some (dstepT (q.getD (q.length - 1) default)), (decide (((q.length : Int) - 1) ≥ 0) && ((((q.getD (q.length - 1) default)).kind) == 0)) = true → (decide (((q.length : Int) - 1) ≥ 0) && ((((q.getD (q.length - 1) default)).kind) == 0)) = true, (decide (((q.length : Int) - 1) ≥ 0) && ((((q.getD (q.length - 1) default)).kind) == 0)) = true → (decide (((q.length : Int) - 1) ≥ 0) && ((((q.getD (q.length - 1) default)).kind) == 0)) = true, (decide (((q.length : Int) - 1) ≥ 0) && ((((q.getD (q.length - 1) default)).kind) == 0)) = true → (decide (((q.length : Int) - 1) ≥ 0) && ((((q.getD (q.length - 1) default)).kind) == 0)) = true, (decide (((q.length : Int) - 1) ≥ 0) && ((((q.getD (q.length - 1) default)).kind) == 0)) = true → (0:Int) ≤ (i : Int), (decide (((q.length : Int) - 1) ≥ 0) && ((((q.getD (q.length - 1) default)).kind) == 0)) = true → (List.map attrsT x.set)[i]? = some (.lst 2 (List.map attrT (x.set.getD i default))), (decide (((q.length : Int) - 1) ≥ 0) && ((((q.getD (q.length - 1) default)).kind) == 0)) = true → (decide (((q.length : Int) - 1) ≥ 0) && ((((q.getD (q.length - 1) default)).kind) == 0)) = true, (decide (((q.length : Int) - 1) ≥ 0) && ((((q.getD (q.length - 1) default)).kind) == 0)) = true → (decide (((q.length : Int) - 1) ≥ 0) && ((((q.getD (q.length - 1) default)).kind) == 0)) = true, (decide (((q.length : Int) - 1) ≥ 0) && ((((q.getD (q.length - 1) default)).kind) == 0)) = true → (decide (((q.length : Int) - 1) ≥ 0) && ((((q.getD (q.length - 1) default)).kind) == 0)) = true, (decide (((q.length : Int) - 1) ≥ 0) && ((((q.getD (q.length - 1) default)).kind) == 0)) = true → callable Try.prog 30 = true, (decide (((q.length : Int) - 1) ≥ 0) && ((((q.getD (q.length - 1) default)).kind) == 0)) = true → FC Try.prog 30 [.t (.lst 2 (List.map attrT (((q.getD (q.length - 1) default)).attrs))), .t (.lst 2 (List.map attrT (x.set.getD i default)))] emp (.t (.sc (.bool (sameL (((q.getD (q.length - 1) default)).attrs) (x.set.getD i default))))) emp, (decide (((q.length : Int) - 1) ≥ 0) && ((((q.getD (q.length - 1) default)).kind) == 0)) = true → (decide (((q.length : Int) - 1) ≥ 0) && ((((q.getD (q.length - 1) default)).kind) == 0)) = true]) (by kernel_rfl) ?_ ?_
            · -- region 17
              refine ⟨?_, ?_, ?_, ?_, ?_, (fun hg => (Weak.of_eq (eptr_eq ?_))), ?_, ?_, ?_, (fun hg => (elt_nat ?_)), ?_, ?_, ?_, ?_, ?_, ?_, ?_, (fun hg => (Weak.of_eq (eptr_eq ?_))), ?_, ?_, ?_, (fun hg => (elt_nat ?_)), ?_, ?_, ?_, ?_, (fun hg => (elt_nat ?_)), ?_, ?_, ?_, (fun hg => by (try simp only [decide_eq_true_eq, decide_eq_false_iff_not, Int.not_lt, Int.not_le, ge_iff_le, Bool.and_eq_true, Bool.and_eq_false_iff, Bool.not_eq_true', Bool.not_eq_false', beq_iff_eq, beq_eq_false_iff_ne, ne_eq] at hg); exact (by kernel_rfl)), (fun hg => by (try simp only [decide_eq_true_eq, decide_eq_false_iff_not, Int.not_lt, Int.not_le, ge_iff_le, Bool.and_eq_true, Bool.and_eq_false_iff, Bool.not_eq_true', Bool.not_eq_false', beq_iff_eq, beq_eq_false_iff_ne, ne_eq] at hg); exact (fc_sameAttrs (((q.getD (q.length - 1) default)).attrs) (x.set.getD i default))), ?_, trivial⟩
              all_goals (first | omega | with_reducible exact fun h => h | (intro hg hq; rw [hg, hq]; rfl) | (intro hq; rw [hq]; done) | (intro hq; rw [hq]; rfl) | ((try intro hg); (try simp [-List.getD_eq_getElem?_getD] at hg); (try simp only [List.length_map]); first | done | omega | rfl | (simp; done) | (simp; omega) | (simp [hg]; done) | (intro hq; simp [hg, hq]; done) | (intro hq; simp [hg, hq]; omega)))
            refine andThen_normal ?_
            refine Sim.cond (b := ((decide (((q.length : Int) - 1) ≥ 0) && ((((q.getD (q.length - 1) default)).kind) == 0)) && (sameL (((q.getD (q.length - 1) default)).attrs) (x.set.getD i default)))) (by kernel_rfl) (fun h17 => ?_) (fun h17 => ?_)
            · (try simp only [decide_eq_true_eq, decide_eq_false_iff_not, Int.not_lt, Int.not_le, ge_iff_le, Bool.and_eq_true, Bool.and_eq_false_iff, Bool.not_eq_true', Bool.not_eq_false', beq_iff_eq, beq_eq_false_iff_ne, ne_eq] at h17)
              have hlast := fun h : 0 < q.length => hnq _ (lastD_mem h)
              refine Sim.reg (orcs := [(2, ⟨some (.eptr 48 q.length (q.length - 1) 0), none, none, none⟩), (4, ⟨none, none, some (dstepT (q.getD (q.length - 1) default)), none⟩), (5, ⟨some (.t (.sc (.int .i64 ((((q.getD (q.length - 1) default)).n) + 1)))), none, none, none⟩), (6, ⟨some (.eptr 48 q.length (q.length - 1) 0), none, none, none⟩), (8, ⟨none, some ([(48, .row 4 false (List.map dstepT (q.set (q.length - 1) ({ kind := ((q.getD (q.length - 1) default)).kind, n := ((((q.getD (q.length - 1) default)).n) + 1), attrs := ((q.getD (q.length - 1) default)).attrs, elems := ((q.getD (q.length - 1) default)).elems } : DStep))))]), some (dstepT (q.getD (q.length - 1) default)), none⟩)]) (keys := [1, 3, 4, 5, 6]) (τ := [(0, 0), (48, 48)]) (nx := 682)
                (sl := [(1, .ptr 0 0), (3, .row 48 q.length), (4, .t (.sc (.slice none 0 0))), (5, .t (.sc (.int .i64 0))), (6, .t (.sc (.int .i64 (i : Int))))]) (l := [(0, .box [.t (.lst 1 (List.map elemsT x.ins)), .t (.lst 1 (List.map boolT x.cut)), .t (.lst 1 (List.map attrsT x.set))]), (48, .row 4 false (List.map dstepT (q.set (q.length - 1) ({ kind := ((q.getD (q.length - 1) default)).kind, n := ((((q.getD (q.length - 1) default)).n) + 1), attrs := ((q.getD (q.length - 1) default)).attrs, elems := ((q.getD (q.length - 1) default)).elems } : DStep))))])
                (C := [(q.length : Nat) = (List.map dstepT q).length, (0:Int) ≤ ((q.length : Int) - 1), ((q.length : Int) - 1) < ((q.length : Nat) : Int), Weak (.eptr 48 q.length (Int.toNat ((q.length : Int) - 1)) 0) (.eptr 48 q.length (q.length - 1) 0), (q.length : Nat) = (List.map dstepT q).length, (List.map dstepT q)[(q.length - 1)]? = some (dstepT (q.getD (q.length - 1) default)), Weak (.t (.sc (.int .i64 (IntKind.i64.wrap ((((q.getD (q.length - 1) default)).n) + 1))))) (.t (.sc (.int .i64 ((((q.getD (q.length - 1) default)).n) + 1)))), (q.length : Nat) = (List.map dstepT q).length, (0:Int) ≤ ((q.length : Int) - 1), ((q.length : Int) - 1) < ((q.length : Nat) : Int), Weak (.eptr 48 q.length (Int.toNat ((q.length : Int) - 1)) 0) (.eptr 48 q.length (q.length - 1) 0), (q.length : Nat) = (List.map dstepT q).length, (List.map dstepT q)[(q.length - 1)]? = some (dstepT (q.getD (q.length - 1) default)), ([(48, .row 4 false (List.map dstepT (q.set (q.length - 1) ({ kind := ((q.getD (q.length - 1) default)).kind, n := ((((q.getD (q.length - 1) default)).n) + 1), attrs := ((q.getD (q.length - 1) default)).attrs, elems := ((q.getD (q.length - 1) default)).elems } : DStep))))] : List (Nat × Ob)) = [(48, .row 4 false ((List.map dstepT q).set (q.length - 1) (.agg [.sc (.int .i64 (((q.getD (q.length - 1) default)).kind)), .sc (.int .i64 ((((q.getD (q.length - 1) default)).n) + 1)), .lst 2 (List.map attrT (((q.getD (q.length - 1) default)).attrs)), .lst 3 (List.map elemT (((q.getD (q.length - 1) default)).elems))])))]]) (by kernel_rfl) ?_ ?_
              · -- region 18
                refine ⟨?_, ?_, ?_, (Weak.of_eq (eptr_eq ?_)), ?_, (elt_nat ?_), (Weak.of_eq (nw ?_)), ?_, ?_, ?_, (Weak.of_eq (eptr_eq ?_)), ?_, (elt_nat ?_), (row_set rfl), trivial⟩
                all_goals (first | omega | with_reducible exact fun h => h | (intro hg hq; rw [hg, hq]; rfl) | (intro hq; rw [hq]; done) | (intro hq; rw [hq]; rfl) | ((try intro hg); (try simp [-List.getD_eq_getElem?_getD] at hg); (try simp only [List.length_map]); first | done | omega | rfl | (simp; done) | (simp; omega) | (simp [hg]; done) | (intro hq; simp [hg, hq]; done) | (intro hq; simp [hg, hq]; omega)))
              refine inBlk_normal ?_
              refine andThen_normal ?_
              refine Sim.reg (orcs := [(1, ⟨some (.t (.sc (.int .i64 ((i : Int) + 1)))), none, none, none⟩)]) (keys := [1, 3, 4, 5, 6]) (τ := [(0, 0), (48, 48)]) (nx := 706)
                (sl := [(1, .ptr 0 0), (3, .row 48 q.length), (4, .t (.sc (.slice none 0 0))), (5, .t (.sc (.int .i64 0))), (6, .t (.sc (.int .i64 ((i : Int) + 1))))]) (l := [(0, .box [.t (.lst 1 (List.map elemsT x.ins)), .t (.lst 1 (List.map boolT x.cut)), .t (.lst 1 (List.map attrsT x.set))]), (48, .row 4 false (List.map dstepT (q.set (q.length - 1) ({ kind := ((q.getD (q.length - 1) default)).kind, n := ((((q.getD (q.length - 1) default)).n) + 1), attrs := ((q.getD (q.length - 1) default)).attrs, elems := ((q.getD (q.length - 1) default)).elems } : DStep))))])
                (C := [Weak (.t (.sc (.int .i64 (IntKind.i64.wrap ((i : Int) + 1))))) (.t (.sc (.int .i64 ((i : Int) + 1))))]) (by kernel_rfl) ?_ ?_
              · -- region 6
                refine ⟨(Weak.of_eq (nw ?_)), trivial⟩
                all_goals omega
              refine andThen_normal ?_
              refine LoopSim.weaken (Le.nilRow (t := 4) (k := 3) (id := 706) rfl rfl rfl) ?_
              refine LoopSim.weaken (Le.slot (t := 3) (v' := .row 48 ((q.set (q.length - 1) ({ kind := ((q.getD (q.length - 1) default)).kind, n := ((((q.getD (q.length - 1) default)).n) + 1), attrs := ((q.getD (q.length - 1) default)).attrs, elems := ((q.getD (q.length - 1) default)).elems } : DStep)).length)) rfl (fun _ _ _ _ _ hv => (show q.length = (q.set (q.length - 1) ({ kind := ((q.getD (q.length - 1) default)).kind, n := ((((q.getD (q.length - 1) default)).n) + 1), attrs := ((q.getD (q.length - 1) default)).attrs, elems := ((q.getD (q.length - 1) default)).elems } : DStep)).length by simp only [List.length_set]) ▸ hv)) ?_
              refine LoopSim.weaken (Le.ren (τ := [(0, 0), (48, 48), (706, 49)]) (keys := [1, 3, 4, 5, 6]) (nx := 50) (sl := [(1, .ptr 0 0), (3, .row 48 ((q.set (q.length - 1) ({ kind := ((q.getD (q.length - 1) default)).kind, n := ((((q.getD (q.length - 1) default)).n) + 1), attrs := ((q.getD (q.length - 1) default)).attrs, elems := ((q.getD (q.length - 1) default)).elems } : DStep)).length)), (4, .row 49 0), (5, .t (.sc (.int .i64 0))), (6, .t (.sc (.int .i64 (((i + 1) : Nat) : Int))))]) (l := [(0, .box [.t (.lst 1 (List.map elemsT x.ins)), .t (.lst 1 (List.map boolT x.cut)), .t (.lst 1 (List.map attrsT x.set))]), (48, .row 4 false (List.map dstepT (q.set (q.length - 1) ({ kind := ((q.getD (q.length - 1) default)).kind, n := ((((q.getD (q.length - 1) default)).n) + 1), attrs := ((q.getD (q.length - 1) default)).attrs, elems := ((q.getD (q.length - 1) default)).elems } : DStep)))), (49, .row 3 false (List.map elemT []))]) (by kernel_rfl)) ?_
              refine ih5 (0, (i + 1), (q.set (q.length - 1) ({ kind := ((q.getD (q.length - 1) default)).kind, n := ((((q.getD (q.length - 1) default)).n) + 1), attrs := ((q.getD (q.length - 1) default)).attrs, elems := ((q.getD (q.length - 1) default)).elems } : DStep)), []) ?_ ?_
              · -- back 5.4, invariant
                rw [tailR_K (by omega) (by rcases h8 with h8 | h8; omega; exact h8)] at hDe
                refine ⟨by omega, DI.of_eq ?_ hDe.keep1⟩
                simp only
                rw [hfq]
                unfold keepD
                split
                · rename_i z; first | rfl | (exfalso; rcases h17 with (h | h) | h; omega; exact h z.2.1; (rw [z.2.2] at h; cases h))
                · rename_i z; first | rfl | exact absurd ⟨by omega, h17.1.2, h17.2⟩ z
              · -- back 5.4, measure
                show (_:Nat) < _; (first | omega | with_reducible exact fun h => h | (intro hq; rw [hq]; done) | (intro hq; rw [hq]; rfl) | (simp only [List.length_map]; done) | (simp only [List.length_map]; omega) | (simp; omega) | (simp; done))
            · (try simp only [decide_eq_true_eq, decide_eq_false_iff_not, Int.not_lt, Int.not_le, ge_iff_le, Bool.and_eq_true, Bool.and_eq_false_iff, Bool.not_eq_true', Bool.not_eq_false', beq_iff_eq, beq_eq_false_iff_ne, ne_eq] at h17)
              refine Sim.reg (orcs := [(4, ⟨none, none, some (.lst 2 (List.map attrT (x.set.getD i default))), none⟩), (6, ⟨some (.t (.agg [.sc (.int .i64 0), .sc (.int .i64 1), .lst 2 (List.map attrT (x.set.getD i default)), .lst 3 (List.map elemT [])])), none, none, none⟩), (8, ⟨some (.row 48 ((q ++ [({ kind := 0, n := 1, attrs := (x.set.getD i default), elems := [] } : DStep)]).length)), some ([(48, .row 4 false (List.map dstepT (q ++ [({ kind := 0, n := 1, attrs := (x.set.getD i default), elems := [] } : DStep)])))]), none, none⟩)]) (keys := [1, 3, 4, 5, 6]) (τ := [(0, 0), (48, 48)]) (nx := 690)
                (sl := [(1, .ptr 0 0), (3, .row 48 ((q ++ [({ kind := 0, n := 1, attrs := (x.set.getD i default), elems := [] } : DStep)]).length)), (4, .t (.sc (.slice none 0 0))), (5, .t (.sc (.int .i64 0))), (6, .t (.sc (.int .i64 (i : Int))))]) (l := [(0, .box [.t (.lst 1 (List.map elemsT x.ins)), .t (.lst 1 (List.map boolT x.cut)), .t (.lst 1 (List.map attrsT x.set))]), (48, .row 4 false (List.map dstepT (q ++ [({ kind := 0, n := 1, attrs := (x.set.getD i default), elems := [] } : DStep)])))])
                (C := [(0:Int) ≤ (i : Int), (List.map attrsT x.set)[i]? = some (.lst 2 (List.map attrT (x.set.getD i default))), Weak (.t (.agg [.sc (.int .i64 0), .sc (.int .i64 1), .lst 2 (List.map attrT (x.set.getD i default)), .sc (.slice none 0 0)])) (.t (.agg [.sc (.int .i64 0), .sc (.int .i64 1), .lst 2 (List.map attrT (x.set.getD i default)), .lst 3 (List.map elemT [])])), 1 = (List.map dstepT [({ kind := 0, n := 1, attrs := (x.set.getD i default), elems := [] } : DStep)]).length, (q.length : Nat) = (List.map dstepT q).length, (q.length : Nat) + (List.map dstepT [({ kind := 0, n := 1, attrs := (x.set.getD i default), elems := [] } : DStep)]).length ≤ 1099511627776, Weak (.row 48 (q.length + (List.map dstepT [({ kind := 0, n := 1, attrs := (x.set.getD i default), elems := [] } : DStep)]).length)) (.row 48 ((q ++ [({ kind := 0, n := 1, attrs := (x.set.getD i default), elems := [] } : DStep)]).length)), ([(48, .row 4 false (List.map dstepT (q ++ [({ kind := 0, n := 1, attrs := (x.set.getD i default), elems := [] } : DStep)])))] : List (Nat × Ob)) = [(48, .row 4 false (List.map dstepT q ++ List.map dstepT [({ kind := 0, n := 1, attrs := (x.set.getD i default), elems := [] } : DStep)]))]]) (by kernel_rfl) ?_ ?_
              · -- region 19
                refine ⟨?_, (elt_nat ?_), (Weak.agg ⟨.inl rfl, ⟨.inl rfl, ⟨.inl rfl, ⟨tw_nil (by decide), trivial⟩⟩⟩⟩), ?_, ?_, ?_, (Weak.of_eq (by simp)), (row_append rfl), trivial⟩
                all_goals (first | omega | with_reducible exact fun h => h | (intro hg hq; rw [hg, hq]; rfl) | (intro hq; rw [hq]; done) | (intro hq; rw [hq]; rfl) | ((try intro hg); (try simp [-List.getD_eq_getElem?_getD] at hg); (try simp only [List.length_map]); first | done | omega | rfl | (simp; done) | (simp; omega) | (simp [hg]; done) | (intro hq; simp [hg, hq]; done) | (intro hq; simp [hg, hq]; omega)))
              refine inBlk_normal ?_
              refine andThen_normal ?_
              refine Sim.reg (orcs := [(1, ⟨some (.t (.sc (.int .i64 ((i : Int) + 1)))), none, none, none⟩)]) (keys := [1, 3, 4, 5, 6]) (τ := [(0, 0), (48, 48)]) (nx := 714)
                (sl := [(1, .ptr 0 0), (3, .row 48 ((q ++ [({ kind := 0, n := 1, attrs := (x.set.getD i default), elems := [] } : DStep)]).length)), (4, .t (.sc (.slice none 0 0))), (5, .t (.sc (.int .i64 0))), (6, .t (.sc (.int .i64 ((i : Int) + 1))))]) (l := [(0, .box [.t (.lst 1 (List.map elemsT x.ins)), .t (.lst 1 (List.map boolT x.cut)), .t (.lst 1 (List.map attrsT x.set))]), (48, .row 4 false (List.map dstepT (q ++ [({ kind := 0, n := 1, attrs := (x.set.getD i default), elems := [] } : DStep)])))])
                (C := [Weak (.t (.sc (.int .i64 (IntKind.i64.wrap ((i : Int) + 1))))) (.t (.sc (.int .i64 ((i : Int) + 1))))]) (by kernel_rfl) ?_ ?_
              · -- region 6
                refine ⟨(Weak.of_eq (nw ?_)), trivial⟩
                all_goals omega
              refine andThen_normal ?_
              refine LoopSim.weaken (Le.nilRow (t := 4) (k := 3) (id := 714) rfl rfl rfl) ?_
              refine LoopSim.weaken (Le.ren (τ := [(0, 0), (48, 48), (714, 49)]) (keys := [1, 3, 4, 5, 6]) (nx := 50) (sl := [(1, .ptr 0 0), (3, .row 48 ((q ++ [({ kind := 0, n := 1, attrs := (x.set.getD i default), elems := [] } : DStep)]).length)), (4, .row 49 0), (5, .t (.sc (.int .i64 0))), (6, .t (.sc (.int .i64 (((i + 1) : Nat) : Int))))]) (l := [(0, .box [.t (.lst 1 (List.map elemsT x.ins)), .t (.lst 1 (List.map boolT x.cut)), .t (.lst 1 (List.map attrsT x.set))]), (48, .row 4 false (List.map dstepT (q ++ [({ kind := 0, n := 1, attrs := (x.set.getD i default), elems := [] } : DStep)]))), (49, .row 3 false (List.map elemT []))]) (by kernel_rfl)) ?_
              refine ih5 (0, (i + 1), (q ++ [({ kind := 0, n := 1, attrs := (x.set.getD i default), elems := [] } : DStep)]), []) ?_ ?_
              · -- back 5.5, invariant
                rw [tailR_K (by omega) (by rcases h8 with h8 | h8; omega; exact h8)] at hDe
                refine ⟨by omega, DI.of_eq ?_ hDe.keep1⟩
                simp only
                rw [hfq]
                unfold keepD
                split
                · rename_i z; first | rfl | (exfalso; rcases h17 with (h | h) | h; omega; exact h z.2.1; (rw [z.2.2] at h; cases h))
                · rename_i z; first | rfl | exact absurd ⟨by omega, h17.1.2, h17.2⟩ z
              · -- back 5.5, measure
                show (_:Nat) < _; (first | omega | with_reducible exact fun h => h | (intro hq; rw [hq]; done) | (intro hq; rw [hq]; rfl) | (simp only [List.length_map]; done) | (simp only [List.length_map]; omega) | (simp; omega) | (simp; done))
      · (try simp only [decide_eq_true_eq, decide_eq_false_iff_not, Int.not_lt, Int.not_le, gt_iff_lt] at h10)
        refine Sim.skip ?_
        refine andThen_normal ?_
        refine Sim.seq ?_
        refine Sim.seq ?_
        refine Sim.reg (orcs := []) (keys := [1, 3, 5, 6, 45]) (τ := [(0, 0), (48, 48)]) (nx := 290)
          (sl := [(1, .ptr 0 0), (3, .row 48 o.length), (5, .t (.sc (.int .i64 c))), (6, .t (.sc (.int .i64 (i : Int)))), (45, .t (.sc (.bool (decide (c > 0)))))]) (l := [(0, .box [.t (.lst 1 (List.map elemsT x.ins)), .t (.lst 1 (List.map boolT x.cut)), .t (.lst 1 (List.map attrsT x.set))]), (48, .row 4 false (List.map dstepT o))])
          (C := []) (by kernel_rfl) ?_ ?_
        · -- region 12
          trivial
        refine andThen_normal ?_
        refine Sim.cond (b := decide (c > 0)) (by kernel_rfl) (fun h12 => ?_) (fun h12 => ?_)
        · (try simp only [decide_eq_true_eq, decide_eq_false_iff_not, Int.not_lt, Int.not_le, gt_iff_lt] at h12)
          refine Sim.reg (orcs := [(2, ⟨some (.t (.agg [.sc (.int .i64 2), .sc (.int .i64 c), .lst 2 (List.map attrT []), .lst 3 (List.map elemT [])])), none, none, none⟩), (4, ⟨some (.row 48 ((o ++ [({ kind := 2, n := c, attrs := [], elems := [] } : DStep)]).length)), some ([(48, .row 4 false (List.map dstepT (o ++ [({ kind := 2, n := c, attrs := [], elems := [] } : DStep)])))]), none, none⟩)]) (keys := [1, 3, 6]) (τ := [(0, 0), (48, 48)]) (nx := 338)
            (sl := [(1, .ptr 0 0), (3, .row 48 ((o ++ [({ kind := 2, n := c, attrs := [], elems := [] } : DStep)]).length)), (6, .t (.sc (.int .i64 (i : Int))))]) (l := [(0, .box [.t (.lst 1 (List.map elemsT x.ins)), .t (.lst 1 (List.map boolT x.cut)), .t (.lst 1 (List.map attrsT x.set))]), (48, .row 4 false (List.map dstepT (o ++ [({ kind := 2, n := c, attrs := [], elems := [] } : DStep)])))])
            (C := [Weak (.t (.agg [.sc (.int .i64 2), .sc (.int .i64 c), .sc (.slice none 0 0), .sc (.slice none 0 0)])) (.t (.agg [.sc (.int .i64 2), .sc (.int .i64 c), .lst 2 (List.map attrT []), .lst 3 (List.map elemT [])])), 1 = (List.map dstepT [({ kind := 2, n := c, attrs := [], elems := [] } : DStep)]).length, (o.length : Nat) = (List.map dstepT o).length, (o.length : Nat) + (List.map dstepT [({ kind := 2, n := c, attrs := [], elems := [] } : DStep)]).length ≤ 1099511627776, Weak (.row 48 (o.length + (List.map dstepT [({ kind := 2, n := c, attrs := [], elems := [] } : DStep)]).length)) (.row 48 ((o ++ [({ kind := 2, n := c, attrs := [], elems := [] } : DStep)]).length)), ([(48, .row 4 false (List.map dstepT (o ++ [({ kind := 2, n := c, attrs := [], elems := [] } : DStep)])))] : List (Nat × Ob)) = [(48, .row 4 false (List.map dstepT o ++ List.map dstepT [({ kind := 2, n := c, attrs := [], elems := [] } : DStep)]))]]) (by kernel_rfl) ?_ ?_
          · -- region 13
            refine ⟨(Weak.agg ⟨.inl rfl, ⟨.inl rfl, ⟨tw_nil (by decide), ⟨tw_nil (by decide), trivial⟩⟩⟩⟩), ?_, ?_, ?_, (Weak.of_eq (by simp)), (row_append rfl), trivial⟩
            all_goals (first | omega | with_reducible exact fun h => h | (intro hg hq; rw [hg, hq]; rfl) | (intro hq; rw [hq]; done) | (intro hq; rw [hq]; rfl) | ((try intro hg); (try simp [-List.getD_eq_getElem?_getD] at hg); (try simp only [List.length_map]); first | done | omega | rfl | (simp; done) | (simp; omega) | (simp [hg]; done) | (intro hq; simp [hg, hq]; done) | (intro hq; simp [hg, hq]; omega)))
          refine andThen_normal ?_
          refine Sim.seq ?_
          generalize hgen : (o ++ [({ kind := 2, n := c, attrs := [], elems := [] } : DStep)]) = q
          have hfq : flushD ⟨o, a ++ x.ins.getD i default, c⟩ = q := by
            rw [← hgen]
            unfold flushD
            simp only
            (first | rw [if_pos (show 0 < (a ++ x.ins.getD i default).length by omega)] | rw [if_neg (show ¬ 0 < (a ++ x.ins.getD i default).length by omega)])
            (first | rw [if_pos (show 0 < c by omega)] | rw [if_neg (show ¬ 0 < c by omega)])
            all_goals simp
          have hnq : ∀ s ∈ q, 0 ≤ s.n ∧ s.n ≤ 10000000000 := by rw [← hfq]; exact hn2
          have hql : q.length ≤ o.length + 2 := by rw [← hfq]; exact flushD_len _
          refine Sim.reg (orcs := []) (keys := [1, 3, 4, 5, 6]) (τ := [(0, 0), (48, 48)]) (nx := 354)
            (sl := [(1, .ptr 0 0), (3, .row 48 q.length), (4, .t (.sc (.slice none 0 0))), (5, .t (.sc (.int .i64 0))), (6, .t (.sc (.int .i64 (i : Int))))]) (l := [(0, .box [.t (.lst 1 (List.map elemsT x.ins)), .t (.lst 1 (List.map boolT x.cut)), .t (.lst 1 (List.map attrsT x.set))]), (48, .row 4 false (List.map dstepT q))])
            (C := []) (by kernel_rfl) ?_ ?_
          · -- region 14
            trivial
          refine andThen_normal ?_
          refine Sim.seq ?_
          refine Sim.seq ?_
          refine Sim.reg (orcs := [(3, ⟨some (.t (.sc (.int .i64 (x.cut.length : Int)))), none, none, none⟩)]) (keys := [1, 3, 4, 5, 6, 55]) (τ := [(0, 0), (48, 48)]) (nx := 394)
            (sl := [(1, .ptr 0 0), (3, .row 48 q.length), (4, .t (.sc (.slice none 0 0))), (5, .t (.sc (.int .i64 0))), (6, .t (.sc (.int .i64 (i : Int)))), (55, .t (.sc (.bool ((i : Int) == (x.cut.length : Int)))))]) (l := [(0, .box [.t (.lst 1 (List.map elemsT x.ins)), .t (.lst 1 (List.map boolT x.cut)), .t (.lst 1 (List.map attrsT x.set))]), (48, .row 4 false (List.map dstepT q))])
            (C := [Weak (.t (.sc (.int .i64 ((List.map boolT x.cut).length : Int)))) (.t (.sc (.int .i64 (x.cut.length : Int))))]) (by kernel_rfl) ?_ ?_
          · -- region 15
            exact ⟨(Weak.of_eq len_map), trivial⟩
          refine andThen_normal ?_
          refine Sim.cond (b := ((i : Int) == (x.cut.length : Int))) (by kernel_rfl) (fun h15 => ?_) (fun h15 => ?_)
          · (try simp only [beq_iff_eq, beq_eq_false_iff_ne, ne_eq] at h15)
            refine Sim.exit ?_
            refine andThen_exit ?_
            refine inBlk_other (by decide) ?_
            refine andThen_exit ?_
            refine andThen_exit ?_
            refine inBlk_same ?_
            refine andThen_normal ?_
            refine Sim.seq ?_
            refine Sim.reg (orcs := []) (keys := [2]) (τ := [(48, 48)]) (nx := 410)
              (sl := [(2, .row 48 q.length)]) (l := [(48, .row 4 false (List.map dstepT q))])
              (C := []) (by kernel_rfl) ?_ ?_
            · -- region 20
              trivial
            refine andThen_normal ?_
            refine Sim.ret ?_
            refine Fin.le (Le.freeze (t := 2) (v' := .t (.lst 4 (List.map dstepT q))) (g := [(48, .row 4 true (List.map dstepT q))]) (p := [(q.length : Nat) = (List.map dstepT q).length]) rfl (by kernel_rfl) ⟨(by (first | omega | with_reducible exact fun h => h | (intro hq; rw [hq]; done) | (intro hq; rw [hq]; rfl) | (simp only [List.length_map]; done) | (simp only [List.length_map]; omega) | (simp; omega) | (simp; done))), trivial⟩ (by kernel_rfl)) ?_
            refine Fin.mk2 (.inl rfl) (τ := []) (keys := [2]) (nx := 410) (sl := [(2, .t (.lst 4 (List.map dstepT q)))]) (l := []) (res' := .t (.lst 4 (List.map dstepT q))) (by kernel_rfl) ?_ (by kernel_rfl) ?_
            · -- end 3, objects
              first | done | rfl
            · -- end 3, result
              have e3 : ((doneD (actR x 0))) = q := by
                rw [tailR_e (by omega)] at hDe
                have hG := hDe.done
                unfold doneD
                rw [← hG]
                exact hfq
              show AVal.t (.lst 4 (List.map dstepT q)) = .t (.lst 4 (List.map dstepT (doneD (actR x 0))))
              rw [e3]
              try rfl
          · (try simp only [beq_iff_eq, beq_eq_false_iff_ne, ne_eq] at h15)
            refine Sim.skip ?_
            refine andThen_normal ?_
            refine Sim.seq ?_
            refine Sim.reg (orcs := [(2, ⟨some (.t (.sc (.int .i64 ((q.length : Int) - 1)))), none, none, none⟩)]) (keys := [1, 3, 4, 5, 6, 7]) (τ := [(0, 0), (48, 48)]) (nx := 426)
              (sl := [(1, .ptr 0 0), (3, .row 48 q.length), (4, .t (.sc (.slice none 0 0))), (5, .t (.sc (.int .i64 0))), (6, .t (.sc (.int .i64 (i : Int)))), (7, .t (.sc (.int .i64 ((q.length : Int) - 1))))]) (l := [(0, .box [.t (.lst 1 (List.map elemsT x.ins)), .t (.lst 1 (List.map boolT x.cut)), .t (.lst 1 (List.map attrsT x.set))]), (48, .row 4 false (List.map dstepT q))])
              (C := [Weak (.t (.sc (.int .i64 (IntKind.i64.wrap ((q.length : Int) - 1))))) (.t (.sc (.int .i64 ((q.length : Int) - 1))))]) (by kernel_rfl) ?_ ?_
            · -- region 16
              refine ⟨(Weak.of_eq (nw ?_)), trivial⟩
              all_goals omega
            refine andThen_normal ?_
            refine Sim.seq ?_
            refine Sim.regD (by kernel_rfl) (orcs := [(5, ⟨some (.eptr 48 q.length (q.length - 1) 0), none, none, none⟩), (7, ⟨none, none, some (dstepT (q.getD (q.length - 1) default)), none⟩), (13, ⟨some (.eptr 48 q.length (q.length - 1) 0), none, none, none⟩), (15, ⟨none, none, some (dstepT (q.getD (q.length - 1) default)), none⟩), (19, ⟨none, none, some (.lst 2 (List.map attrT (x.set.getD i default))), none⟩), (21, ⟨none, none, none, some (⟨0, [], .t (.sc (.bool (sameL (((q.getD (q.length - 1) default)).attrs) (x.set.getD i default)))), []⟩)⟩)]) (keys := [1, 3, 4, 5, 6, 7, 81]) (τ := [(0, 0), (48, 48)]) (nx := 610)
              (sl := [(1, .ptr 0 0), (3, .row 48 q.length), (4, .t (.sc (.slice none 0 0))), (5, .t (.sc (.int .i64 0))), (6, .t (.sc (.int .i64 (i : Int)))), (7, .t (.sc (.int .i64 ((q.length : Int) - 1)))), (81, .t (.sc (.bool ((decide (((q.length : Int) - 1) ≥ 0) && ((((q.getD (q.length - 1) default)).kind) == 0)) && (sameL (((q.getD (q.length - 1) default)).attrs) (x.set.getD i default))))))]) (l := [(0, .box [.t (.lst 1 (List.map elemsT x.ins)), .t (.lst 1 (List.map boolT x.cut)), .t (.lst 1 (List.map attrsT x.set))]), (48, .row 4 false (List.map dstepT q))])
              (C := [(decide (((q.length : Int) - 1) ≥ 0)) = true → (decide (((q.length : Int) - 1) ≥ 0)) = true, (decide (((q.length : Int) - 1) ≥ 0)) = true → (decide (((q.length : Int) - 1) ≥ 0)) = true, (decide (((q.length : Int) - 1) ≥ 0)) = true → (q.length : Nat) = (List.map dstepT q).length, (decide (((q.length : Int) - 1) ≥ 0)) = true → (0:Int) ≤ ((q.length : Int) - 1), (decide (((q.length : Int) - 1) ≥ 0)) = true → ((q.length : Int) - 1) < ((q.length : Nat) : Int), (decide (((q.length : Int) - 1) ≥ 0)) = true → Weak (.eptr 48 q.length (Int.toNat ((q.length : Int) - 1)) 0) (.eptr 48 q.length (q.length - 1) 0), (decide (((q.length : Int) - 1) ≥ 0)) = true → (decide (((q.length : Int) - 1) ≥ 0)) = true, (decide (((q.length : Int) - 1) ≥ 0)) = true → (decide (((q.length : Int) - 1) ≥ 0)) = true, (decide (((q.length : Int) - 1) ≥ 0)) = true → (q.length : Nat) = (List.map dstepT q).length, (decide (((q.length : Int) - 1) ≥ 0)) = true → (List.map dstepT q)[(q.length - 1)]? = some (dstepT (q.getD (q.length - 1) default)), (decide (((q.length : Int) - 1) ≥ 0)) = true → (decide (((q.length : Int) - 1) ≥ 0)) = true, (decide (((q.length : Int) - 1) ≥ 0)) = true → (decide (((q.length : Int) - 1) ≥ 0)) = true, (decide (((q.length : Int) - 1) ≥ 0) && ((((q.getD (q.length - 1) default)).kind) == 0)) = true → (decide (((q.length : Int) - 1) ≥ 0) && ((((q.getD (q.length - 1) default)).kind) == 0)) = true, (decide (((q.length : Int) - 1) ≥ 0) && ((((q.getD (q.length - 1) default)).kind) == 0)) = true → (decide (((q.length : Int) - 1) ≥ 0) && ((((q.getD (q.length - 1) default)).kind) == 0)) = true, (decide (((q.length : Int) - 1) ≥ 0) && ((((q.getD (q.length - 1) default)).kind) == 0)) = true → (q.length : Nat) = (List.map dstepT q).length, (decide (((q.length : Int) - 1) ≥ 0) && ((((q.getD (q.length - 1) default)).kind) == 0)) = true → (0:Int) ≤ ((q.length : Int) - 1), (decide (((q.length : Int) - 1) ≥ 0) && ((((q.getD (q.length - 1) default)).kind) == 0)) = true → ((q.length : Int) - 1) < ((q.length : Nat) : Int), (decide (((q.length : Int) - 1) ≥ 0) && ((((q.getD (q.length - 1) default)).kind) == 0)) = true → Weak (.eptr 48 q.length (Int.toNat ((q.length : Int) - 1)) 0) (.eptr 48 q.length (q.length - 1) 0), (decide (((q.length : Int) - 1) ≥ 0) && ((((q.getD (q.length - 1) default)).kind) == 0)) = true → (decide (((q.length : Int) - 1) ≥ 0) && ((((q.getD (q.length - 1) default)).kind) == 0)) = true, (decide (((q.length : Int) - 1) ≥ 0) && ((((q.getD (q.length - 1) default)).kind) == 0)) = true → (decide (((q.length : Int) - 1) ≥ 0) && ((((q.getD (q.length - 1) default)).kind) == 0)) = true, (decide (((q.length : Int) - 1) ≥ 0) && ((((q.getD (q.length - 1) default)).kind) == 0)) = true → (q.length : Nat) = (List.map dstepT q).length, (decide (((q.length : Int) - 1) ≥ 0) && ((((q.getD (q.length - 1) default)).kind) == 0)) = true → (List.map dstepT q)[(q.length - 1)]? = some (dstepT (q.getD (q.length - 1) default)), (decide (((q.length : Int) - 1) ≥ 0) && ((((q.getD (q.length - 1) default)).kind) == 0)) = true → (decide (((q.length : Int) - 1) ≥ 0) && ((((q.getD (q.length - 1) default)).kind) == 0)) = true, (decide (((q.length : Int) - 1) ≥ 0) && ((((q.getD (q.length - 1) default)).kind) == 0)) = true → (decide (((q.length : Int) - 1) ≥ 0) && ((((q.getD (q.length - 1) default)).kind) == 0)) = true, (decide (((q.length : Int) - 1) ≥ 0) && ((((q.getD (q.length - 1) default)).kind) == 0)) = true → (decide (((q.length : Int) - 1) ≥ 0) && ((((q.getD (q.length - 1) default)).kind) == 0)) = true, (decide (((q.length : Int) - 1) ≥ 0) && ((((q.getD (q.length - 1) default)).kind) == 0)) = true → (0:Int) ≤ (i : Int), (decide (((q.length : Int) - 1) ≥ 0) && ((((q.getD (q.length - 1) default)).kind) == 0)) = true → (List.map attrsT x.set)[i]? = some (.lst 2 (List.map attrT (x.set.getD i default))), (decide (((q.length : Int) - 1) ≥ 0) && ((((q.getD (q.length - 1) default)).kind) == 0)) = true → (decide (((q.length : Int) - 1) ≥ 0) && ((((q.getD (q.length - 1) default)).kind) == 0)) = true, (decide (((q.length : Int) - 1) ≥ 0) && ((((q.getD (q.length - 1) default)).kind) == 0)) = true → (decide (((q.length : Int) - 1) ≥ 0) && ((((q.getD (q.length - 1) default)).kind) == 0)) = true, (decide (((q.length : Int) - 1) ≥ 0) && ((((q.getD (q.length - 1) default)).kind) == 0)) = true → (decide (((q.length : Int) - 1) ≥ 0) && ((((q.getD (q.length - 1) default)).kind) == 0)) = true, (decide (((q.length : Int) - 1) ≥ 0) && ((((q.getD (q.length - 1) default)).kind) == 0)) = true → callable Try.prog 30 = true, (decide (((q.length : Int) - 1) ≥ 0) && ((((q.getD (q.length - 1) default)).kind) == 0)) = true → FC Try.prog 30 [.t (.lst 2 (List.map attrT (((q.getD (q.length - 1) default)).attrs))), .t (.lst 2 (List.map attrT (x.set.getD i default)))] emp (.t (.sc (.bool (sameL (((q.getD (q.length - 1) default)).attrs) (x.set.getD i default))))) emp, (decide (((q.length : Int) - 1) ≥ 0) && ((((q.getD (q.length - 1) default)).kind) == 0)) = true → (decide (((q.length : Int) - 1) ≥ 0) && ((((q.getD (q.length - 1) default)).kind) == 0)) = true]) (by kernel_rfl) ?_ ?_
            · -- region 17
              refine ⟨?_, ?_, ?_, ?_, ?_, (fun hg => (Weak.of_eq (eptr_eq ?_))), ?_, ?_, ?_, (fun hg => (elt_nat ?_)), ?_, ?_, ?_, ?_, ?_, ?_, ?_, (fun hg => (Weak.of_eq (eptr_eq ?_))), ?_, ?_, ?_, (fun hg => (elt_nat ?_)), ?_, ?_, ?_, ?_, (fun hg => (elt_nat ?_)), ?_, ?_, ?_, (fun hg => by (try simp only [decide_eq_true_eq, decide_eq_false_iff_not, Int.not_lt, Int.not_le, ge_iff_le, Bool.and_eq_true, Bool.and_eq_false_iff, Bool.not_eq_true', Bool.not_eq_false', beq_iff_eq, beq_eq_false_iff_ne, ne_eq] at hg); exact (by kernel_rfl)), (fun hg => by (try simp only [decide_eq_true_eq, decide_eq_false_iff_not, Int.not_lt, Int.not_le, ge_iff_le, Bool.and_eq_true, Bool.and_eq_false_iff, Bool.not_eq_true', Bool.not_eq_false', beq_iff_eq, beq_eq_false_iff_ne, ne_eq] at hg); exact (fc_sameAttrs (((q.getD (q.length - 1) default)).attrs) (x.set.getD i default))), ?_, trivial⟩
              all_goals (first | omega | with_reducible exact fun h => h | (intro hg hq; rw [hg, hq]; rfl) | (intro hq; rw [hq]; done) | (intro hq; rw [hq]; rfl) | ((try intro hg); (try simp [-List.getD_eq_getElem?_getD] at hg); (try simp only [List.length_map]); first | done | omega | rfl | (simp; done) | (simp; omega) | (simp [hg]; done) | (intro hq; simp [hg, hq]; done) | (intro hq; simp [hg, hq]; omega)))
            refine andThen_normal ?_
            refine Sim.cond (b := ((decide (((q.length : Int) - 1) ≥ 0) && ((((q.getD (q.length - 1) default)).kind) == 0)) && (sameL (((q.getD (q.length - 1) default)).attrs) (x.set.getD i default)))) (by kernel_rfl) (fun h17 => ?_) (fun h17 => ?_)
            · (try simp only [decide_eq_true_eq, decide_eq_false_iff_not, Int.not_lt, Int.not_le, ge_iff_le, Bool.and_eq_true, Bool.and_eq_false_iff, Bool.not_eq_true', Bool.not_eq_false', beq_iff_eq, beq_eq_false_iff_ne, ne_eq] at h17)
              have hlast := fun h : 0 < q.length => hnq _ (lastD_mem h)
              refine Sim.reg (orcs := [(2, ⟨some (.eptr 48 q.length (q.length - 1) 0), none, none, none⟩), (4, ⟨none, none, some (dstepT (q.getD (q.length - 1) default)), none⟩), (5, ⟨some (.t (.sc (.int .i64 ((((q.getD (q.length - 1) default)).n) + 1)))), none, none, none⟩), (6, ⟨some (.eptr 48 q.length (q.length - 1) 0), none, none, none⟩), (8, ⟨none, some ([(48, .row 4 false (List.map dstepT (q.set (q.length - 1) ({ kind := ((q.getD (q.length - 1) default)).kind, n := ((((q.getD (q.length - 1) default)).n) + 1), attrs := ((q.getD (q.length - 1) default)).attrs, elems := ((q.getD (q.length - 1) default)).elems } : DStep))))]), some (dstepT (q.getD (q.length - 1) default)), none⟩)]) (keys := [1, 3, 4, 5, 6]) (τ := [(0, 0), (48, 48)]) (nx := 682)
                (sl := [(1, .ptr 0 0), (3, .row 48 q.length), (4, .t (.sc (.slice none 0 0))), (5, .t (.sc (.int .i64 0))), (6, .t (.sc (.int .i64 (i : Int))))]) (l := [(0, .box [.t (.lst 1 (List.map elemsT x.ins)), .t (.lst 1 (List.map boolT x.cut)), .t (.lst 1 (List.map attrsT x.set))]), (48, .row 4 false (List.map dstepT (q.set (q.length - 1) ({ kind := ((q.getD (q.length - 1) default)).kind, n := ((((q.getD (q.length - 1) default)).n) + 1), attrs := ((q.getD (q.length - 1) default)).attrs, elems := ((q.getD (q.length - 1) default)).elems } : DStep))))])
                (C := [(q.length : Nat) = (List.map dstepT q).length, (0:Int) ≤ ((q.length : Int) - 1), ((q.length : Int) - 1) < ((q.length : Nat) : Int), Weak (.eptr 48 q.length (Int.toNat ((q.length : Int) - 1)) 0) (.eptr 48 q.length (q.length - 1) 0), (q.length : Nat) = (List.map dstepT q).length, (List.map dstepT q)[(q.length - 1)]? = some (dstepT (q.getD (q.length - 1) default)), Weak (.t (.sc (.int .i64 (IntKind.i64.wrap ((((q.getD (q.length - 1) default)).n) + 1))))) (.t (.sc (.int .i64 ((((q.getD (q.length - 1) default)).n) + 1)))), (q.length : Nat) = (List.map dstepT q).length, (0:Int) ≤ ((q.length : Int) - 1), ((q.length : Int) - 1) < ((q.length : Nat) : Int), Weak (.eptr 48 q.length (Int.toNat ((q.length : Int) - 1)) 0) (.eptr 48 q.length (q.length - 1) 0), (q.length : Nat) = (List.map dstepT q).length, (List.map dstepT q)[(q.length - 1)]? = some (dstepT (q.getD (q.length - 1) default)), ([(48, .row 4 false (List.map dstepT (q.set (q.length - 1) ({ kind := ((q.getD (q.length - 1) default)).kind, n := ((((q.getD (q.length - 1) default)).n) + 1), attrs := ((q.getD (q.length - 1) default)).attrs, elems := ((q.getD (q.length - 1) default)).elems } : DStep))))] : List (Nat × Ob)) = [(48, .row 4 false ((List.map dstepT q).set (q.length - 1) (.agg [.sc (.int .i64 (((q.getD (q.length - 1) default)).kind)), .sc (.int .i64 ((((q.getD (q.length - 1) default)).n) + 1)), .lst 2 (List.map attrT (((q.getD (q.length - 1) default)).attrs)), .lst 3 (List.map elemT (((q.getD (q.length - 1) default)).elems))])))]]) (by kernel_rfl) ?_ ?_
              · -- region 18
                refine ⟨?_, ?_, ?_, (Weak.of_eq (eptr_eq ?_)), ?_, (elt_nat ?_), (Weak.of_eq (nw ?_)), ?_, ?_, ?_, (Weak.of_eq (eptr_eq ?_)), ?_, (elt_nat ?_), (row_set rfl), trivial⟩
                all_goals (first | omega | with_reducible exact fun h => h | (intro hg hq; rw [hg, hq]; rfl) | (intro hq; rw [hq]; done) | (intro hq; rw [hq]; rfl) | ((try intro hg); (try simp [-List.getD_eq_getElem?_getD] at hg); (try simp only [List.length_map]); first | done | omega | rfl | (simp; done) | (simp; omega) | (simp [hg]; done) | (intro hq; simp [hg, hq]; done) | (intro hq; simp [hg, hq]; omega)))
              refine inBlk_normal ?_
              refine andThen_normal ?_
              refine Sim.reg (orcs := [(1, ⟨some (.t (.sc (.int .i64 ((i : Int) + 1)))), none, none, none⟩)]) (keys := [1, 3, 4, 5, 6]) (τ := [(0, 0), (48, 48)]) (nx := 706)
                (sl := [(1, .ptr 0 0), (3, .row 48 q.length), (4, .t (.sc (.slice none 0 0))), (5, .t (.sc (.int .i64 0))), (6, .t (.sc (.int .i64 ((i : Int) + 1))))]) (l := [(0, .box [.t (.lst 1 (List.map elemsT x.ins)), .t (.lst 1 (List.map boolT x.cut)), .t (.lst 1 (List.map attrsT x.set))]), (48, .row 4 false (List.map dstepT (q.set (q.length - 1) ({ kind := ((q.getD (q.length - 1) default)).kind, n := ((((q.getD (q.length - 1) default)).n) + 1), attrs := ((q.getD (q.length - 1) default)).attrs, elems := ((q.getD (q.length - 1) default)).elems } : DStep))))])
                (C := [Weak (.t (.sc (.int .i64 (IntKind.i64.wrap ((i : Int) + 1))))) (.t (.sc (.int .i64 ((i : Int) + 1))))]) (by kernel_rfl) ?_ ?_
              · -- region 6
                refine ⟨(Weak.of_eq (nw ?_)), trivial⟩
                all_goals omega
              refine andThen_normal ?_
              refine LoopSim.weaken (Le.nilRow (t := 4) (k := 3) (id := 706) rfl rfl rfl) ?_
              refine LoopSim.weaken (Le.slot (t := 3) (v' := .row 48 ((q.set (q.length - 1) ({ kind := ((q.getD (q.length - 1) default)).kind, n := ((((q.getD (q.length - 1) default)).n) + 1), attrs := ((q.getD (q.length - 1) default)).attrs, elems := ((q.getD (q.length - 1) default)).elems } : DStep)).length)) rfl (fun _ _ _ _ _ hv => (show q.length = (q.set (q.length - 1) ({ kind := ((q.getD (q.length - 1) default)).kind, n := ((((q.getD (q.length - 1) default)).n) + 1), attrs := ((q.getD (q.length - 1) default)).attrs, elems := ((q.getD (q.length - 1) default)).elems } : DStep)).length by simp only [List.length_set]) ▸ hv)) ?_
              refine LoopSim.weaken (Le.ren (τ := [(0, 0), (48, 48), (706, 49)]) (keys := [1, 3, 4, 5, 6]) (nx := 50) (sl := [(1, .ptr 0 0), (3, .row 48 ((q.set (q.length - 1) ({ kind := ((q.getD (q.length - 1) default)).kind, n := ((((q.getD (q.length - 1) default)).n) + 1), attrs := ((q.getD (q.length - 1) default)).attrs, elems := ((q.getD (q.length - 1) default)).elems } : DStep)).length)), (4, .row 49 0), (5, .t (.sc (.int .i64 0))), (6, .t (.sc (.int .i64 (((i + 1) : Nat) : Int))))]) (l := [(0, .box [.t (.lst 1 (List.map elemsT x.ins)), .t (.lst 1 (List.map boolT x.cut)), .t (.lst 1 (List.map attrsT x.set))]), (48, .row 4 false (List.map dstepT (q.set (q.length - 1) ({ kind := ((q.getD (q.length - 1) default)).kind, n := ((((q.getD (q.length - 1) default)).n) + 1), attrs := ((q.getD (q.length - 1) default)).attrs, elems := ((q.getD (q.length - 1) default)).elems } : DStep)))), (49, .row 3 false (List.map elemT []))]) (by kernel_rfl)) ?_
              refine ih5 (0, (i + 1), (q.set (q.length - 1) ({ kind := ((q.getD (q.length - 1) default)).kind, n := ((((q.getD (q.length - 1) default)).n) + 1), attrs := ((q.getD (q.length - 1) default)).attrs, elems := ((q.getD (q.length - 1) default)).elems } : DStep)), []) ?_ ?_
              · -- back 5.6, invariant
                rw [tailR_K (by omega) (by rcases h8 with h8 | h8; omega; exact h8)] at hDe
                refine ⟨by omega, DI.of_eq ?_ hDe.keep1⟩
                simp only
                rw [hfq]
                unfold keepD
                split
                · rename_i z; first | rfl | (exfalso; rcases h17 with (h | h) | h; omega; exact h z.2.1; (rw [z.2.2] at h; cases h))
                · rename_i z; first | rfl | exact absurd ⟨by omega, h17.1.2, h17.2⟩ z
              · -- back 5.6, measure
                show (_:Nat) < _; (first | omega | with_reducible exact fun h => h | (intro hq; rw [hq]; done) | (intro hq; rw [hq]; rfl) | (simp only [List.length_map]; done) | (simp only [List.length_map]; omega) | (simp; omega) | (simp; done))
            · (try simp only [decide_eq_true_eq, decide_eq_false_iff_not, Int.not_lt, Int.not_le, ge_iff_le, Bool.and_eq_true, Bool.and_eq_false_iff, Bool.not_eq_true', Bool.not_eq_false', beq_iff_eq, beq_eq_false_iff_ne, ne_eq] at h17)
              refine Sim.reg (orcs := [(4, ⟨none, none, some (.lst 2 (List.map attrT (x.set.getD i default))), none⟩), (6, ⟨some (.t (.agg [.sc (.int .i64 0), .sc (.int .i64 1), .lst 2 (List.map attrT (x.set.getD i default)), .lst 3 (List.map elemT [])])), none, none, none⟩), (8, ⟨some (.row 48 ((q ++ [({ kind := 0, n := 1, attrs := (x.set.getD i default), elems := [] } : DStep)]).length)), some ([(48, .row 4 false (List.map dstepT (q ++ [({ kind := 0, n := 1, attrs := (x.set.getD i default), elems := [] } : DStep)])))]), none, none⟩)]) (keys := [1, 3, 4, 5, 6]) (τ := [(0, 0), (48, 48)]) (nx := 690)
                (sl := [(1, .ptr 0 0), (3, .row 48 ((q ++ [({ kind := 0, n := 1, attrs := (x.set.getD i default), elems := [] } : DStep)]).length)), (4, .t (.sc (.slice none 0 0))), (5, .t (.sc (.int .i64 0))), (6, .t (.sc (.int .i64 (i : Int))))]) (l := [(0, .box [.t (.lst 1 (List.map elemsT x.ins)), .t (.lst 1 (List.map boolT x.cut)), .t (.lst 1 (List.map attrsT x.set))]), (48, .row 4 false (List.map dstepT (q ++ [({ kind := 0, n := 1, attrs := (x.set.getD i default), elems := [] } : DStep)])))])
                (C := [(0:Int) ≤ (i : Int), (List.map attrsT x.set)[i]? = some (.lst 2 (List.map attrT (x.set.getD i default))), Weak (.t (.agg [.sc (.int .i64 0), .sc (.int .i64 1), .lst 2 (List.map attrT (x.set.getD i default)), .sc (.slice none 0 0)])) (.t (.agg [.sc (.int .i64 0), .sc (.int .i64 1), .lst 2 (List.map attrT (x.set.getD i default)), .lst 3 (List.map elemT [])])), 1 = (List.map dstepT [({ kind := 0, n := 1, attrs := (x.set.getD i default), elems := [] } : DStep)]).length, (q.length : Nat) = (List.map dstepT q).length, (q.length : Nat) + (List.map dstepT [({ kind := 0, n := 1, attrs := (x.set.getD i default), elems := [] } : DStep)]).length ≤ 1099511627776, Weak (.row 48 (q.length + (List.map dstepT [({ kind := 0, n := 1, attrs := (x.set.getD i default), elems := [] } : DStep)]).length)) (.row 48 ((q ++ [({ kind := 0, n := 1, attrs := (x.set.getD i default), elems := [] } : DStep)]).length)), ([(48, .row 4 false (List.map dstepT (q ++ [({ kind := 0, n := 1, attrs := (x.set.getD i default), elems := [] } : DStep)])))] : List (Nat × Ob)) = [(48, .row 4 false (List.map dstepT q ++ List.map dstepT [({ kind := 0, n := 1, attrs := (x.set.getD i default), elems := [] } : DStep)]))]]) (by kernel_rfl) ?_ ?_
              · -- region 19
                refine ⟨?_, (elt_nat ?_), (Weak.agg ⟨.inl rfl, ⟨.inl rfl, ⟨.inl rfl, ⟨tw_nil (by decide), trivial⟩⟩⟩⟩), ?_, ?_, ?_, (Weak.of_eq (by simp)), (row_append rfl), trivial⟩
                all_goals (first | omega | with_reducible exact fun h => h | (intro hg hq; rw [hg, hq]; rfl) | (intro hq; rw [hq]; done) | (intro hq; rw [hq]; rfl) | ((try intro hg); (try simp [-List.getD_eq_getElem?_getD] at hg); (try simp only [List.length_map]); first | done | omega | rfl | (simp; done) | (simp; omega) | (simp [hg]; done) | (intro hq; simp [hg, hq]; done) | (intro hq; simp [hg, hq]; omega)))
              refine inBlk_normal ?_
              refine andThen_normal ?_
              refine Sim.reg (orcs := [(1, ⟨some (.t (.sc (.int .i64 ((i : Int) + 1)))), none, none, none⟩)]) (keys := [1, 3, 4, 5, 6]) (τ := [(0, 0), (48, 48)]) (nx := 714)
                (sl := [(1, .ptr 0 0), (3, .row 48 ((q ++ [({ kind := 0, n := 1, attrs := (x.set.getD i default), elems := [] } : DStep)]).length)), (4, .t (.sc (.slice none 0 0))), (5, .t (.sc (.int .i64 0))), (6, .t (.sc (.int .i64 ((i : Int) + 1))))]) (l := [(0, .box [.t (.lst 1 (List.map elemsT x.ins)), .t (.lst 1 (List.map boolT x.cut)), .t (.lst 1 (List.map attrsT x.set))]), (48, .row 4 false (List.map dstepT (q ++ [({ kind := 0, n := 1, attrs := (x.set.getD i default), elems := [] } : DStep)])))])
                (C := [Weak (.t (.sc (.int .i64 (IntKind.i64.wrap ((i : Int) + 1))))) (.t (.sc (.int .i64 ((i : Int) + 1))))]) (by kernel_rfl) ?_ ?_
              · -- region 6
                refine ⟨(Weak.of_eq (nw ?_)), trivial⟩
                all_goals omega
              refine andThen_normal ?_
              refine LoopSim.weaken (Le.nilRow (t := 4) (k := 3) (id := 714) rfl rfl rfl) ?_
              refine LoopSim.weaken (Le.ren (τ := [(0, 0), (48, 48), (714, 49)]) (keys := [1, 3, 4, 5, 6]) (nx := 50) (sl := [(1, .ptr 0 0), (3, .row 48 ((q ++ [({ kind := 0, n := 1, attrs := (x.set.getD i default), elems := [] } : DStep)]).length)), (4, .row 49 0), (5, .t (.sc (.int .i64 0))), (6, .t (.sc (.int .i64 (((i + 1) : Nat) : Int))))]) (l := [(0, .box [.t (.lst 1 (List.map elemsT x.ins)), .t (.lst 1 (List.map boolT x.cut)), .t (.lst 1 (List.map attrsT x.set))]), (48, .row 4 false (List.map dstepT (q ++ [({ kind := 0, n := 1, attrs := (x.set.getD i default), elems := [] } : DStep)]))), (49, .row 3 false (List.map elemT []))]) (by kernel_rfl)) ?_
              refine ih5 (0, (i + 1), (q ++ [({ kind := 0, n := 1, attrs := (x.set.getD i default), elems := [] } : DStep)]), []) ?_ ?_
              · -- back 5.7, invariant
                rw [tailR_K (by omega) (by rcases h8 with h8 | h8; omega; exact h8)] at hDe
                refine ⟨by omega, DI.of_eq ?_ hDe.keep1⟩
                simp only
                rw [hfq]
                unfold keepD
                split
                · rename_i z; first | rfl | (exfalso; rcases h17 with (h | h) | h; omega; exact h z.2.1; (rw [z.2.2] at h; cases h))
                · rename_i z; first | rfl | exact absurd ⟨by omega, h17.1.2, h17.2⟩ z
              · -- back 5.7, measure
                show (_:Nat) < _; (first | omega | with_reducible exact fun h => h | (intro hq; rw [hq]; done) | (intro hq; rw [hq]; rfl) | (simp only [List.length_map]; done) | (simp only [List.length_map]; omega) | (simp; omega) | (simp; done))
        · (try simp only [decide_eq_true_eq, decide_eq_false_iff_not, Int.not_lt, Int.not_le, gt_iff_lt] at h12)
          refine Sim.skip ?_
          refine andThen_normal ?_
          refine Sim.seq ?_
          generalize hgen : o = q
          have hfq : flushD ⟨o, a ++ x.ins.getD i default, c⟩ = q := by
            rw [← hgen]
            unfold flushD
            simp only
            (first | rw [if_pos (show 0 < (a ++ x.ins.getD i default).length by omega)] | rw [if_neg (show ¬ 0 < (a ++ x.ins.getD i default).length by omega)])
            (first | rw [if_pos (show 0 < c by omega)] | rw [if_neg (show ¬ 0 < c by omega)])
            all_goals simp
          have hnq : ∀ s ∈ q, 0 ≤ s.n ∧ s.n ≤ 10000000000 := by rw [← hfq]; exact hn2
          have hql : q.length ≤ o.length + 2 := by rw [← hfq]; exact flushD_len _
          refine Sim.reg (orcs := []) (keys := [1, 3, 4, 5, 6]) (τ := [(0, 0), (48, 48)]) (nx := 306)
            (sl := [(1, .ptr 0 0), (3, .row 48 q.length), (4, .t (.sc (.slice none 0 0))), (5, .t (.sc (.int .i64 0))), (6, .t (.sc (.int .i64 (i : Int))))]) (l := [(0, .box [.t (.lst 1 (List.map elemsT x.ins)), .t (.lst 1 (List.map boolT x.cut)), .t (.lst 1 (List.map attrsT x.set))]), (48, .row 4 false (List.map dstepT q))])
            (C := []) (by kernel_rfl) ?_ ?_
          · -- region 14
            trivial
          refine andThen_normal ?_
          refine Sim.seq ?_
          refine Sim.seq ?_
          refine Sim.reg (orcs := [(3, ⟨some (.t (.sc (.int .i64 (x.cut.length : Int)))), none, none, none⟩)]) (keys := [1, 3, 4, 5, 6, 55]) (τ := [(0, 0), (48, 48)]) (nx := 346)
            (sl := [(1, .ptr 0 0), (3, .row 48 q.length), (4, .t (.sc (.slice none 0 0))), (5, .t (.sc (.int .i64 0))), (6, .t (.sc (.int .i64 (i : Int)))), (55, .t (.sc (.bool ((i : Int) == (x.cut.length : Int)))))]) (l := [(0, .box [.t (.lst 1 (List.map elemsT x.ins)), .t (.lst 1 (List.map boolT x.cut)), .t (.lst 1 (List.map attrsT x.set))]), (48, .row 4 false (List.map dstepT q))])
            (C := [Weak (.t (.sc (.int .i64 ((List.map boolT x.cut).length : Int)))) (.t (.sc (.int .i64 (x.cut.length : Int))))]) (by kernel_rfl) ?_ ?_
          · -- region 15
            exact ⟨(Weak.of_eq len_map), trivial⟩
          refine andThen_normal ?_
          refine Sim.cond (b := ((i : Int) == (x.cut.length : Int))) (by kernel_rfl) (fun h15 => ?_) (fun h15 => ?_)
          · (try simp only [beq_iff_eq, beq_eq_false_iff_ne, ne_eq] at h15)
            refine Sim.exit ?_
            refine andThen_exit ?_
            refine inBlk_other (by decide) ?_
            refine andThen_exit ?_
            refine andThen_exit ?_
            refine inBlk_same ?_
            refine andThen_normal ?_
            refine Sim.seq ?_
            refine Sim.reg (orcs := []) (keys := [2]) (τ := [(48, 48)]) (nx := 362)
              (sl := [(2, .row 48 q.length)]) (l := [(48, .row 4 false (List.map dstepT q))])
              (C := []) (by kernel_rfl) ?_ ?_
            · -- region 20
              trivial
            refine andThen_normal ?_
            refine Sim.ret ?_
            refine Fin.le (Le.freeze (t := 2) (v' := .t (.lst 4 (List.map dstepT q))) (g := [(48, .row 4 true (List.map dstepT q))]) (p := [(q.length : Nat) = (List.map dstepT q).length]) rfl (by kernel_rfl) ⟨(by (first | omega | with_reducible exact fun h => h | (intro hq; rw [hq]; done) | (intro hq; rw [hq]; rfl) | (simp only [List.length_map]; done) | (simp only [List.length_map]; omega) | (simp; omega) | (simp; done))), trivial⟩ (by kernel_rfl)) ?_
            refine Fin.mk2 (.inl rfl) (τ := []) (keys := [2]) (nx := 362) (sl := [(2, .t (.lst 4 (List.map dstepT q)))]) (l := []) (res' := .t (.lst 4 (List.map dstepT q))) (by kernel_rfl) ?_ (by kernel_rfl) ?_
            · -- end 4, objects
              first | done | rfl
            · -- end 4, result
              have e4 : ((doneD (actR x 0))) = q := by
                rw [tailR_e (by omega)] at hDe
                have hG := hDe.done
                unfold doneD
                rw [← hG]
                exact hfq
              show AVal.t (.lst 4 (List.map dstepT q)) = .t (.lst 4 (List.map dstepT (doneD (actR x 0))))
              rw [e4]
              try rfl
          · (try simp only [beq_iff_eq, beq_eq_false_iff_ne, ne_eq] at h15)
            refine Sim.skip ?_
            refine andThen_normal ?_
            refine Sim.seq ?_
            refine Sim.reg (orcs := [(2, ⟨some (.t (.sc (.int .i64 ((q.length : Int) - 1)))), none, none, none⟩)]) (keys := [1, 3, 4, 5, 6, 7]) (τ := [(0, 0), (48, 48)]) (nx := 378)
              (sl := [(1, .ptr 0 0), (3, .row 48 q.length), (4, .t (.sc (.slice none 0 0))), (5, .t (.sc (.int .i64 0))), (6, .t (.sc (.int .i64 (i : Int)))), (7, .t (.sc (.int .i64 ((q.length : Int) - 1))))]) (l := [(0, .box [.t (.lst 1 (List.map elemsT x.ins)), .t (.lst 1 (List.map boolT x.cut)), .t (.lst 1 (List.map attrsT x.set))]), (48, .row 4 false (List.map dstepT q))])
              (C := [Weak (.t (.sc (.int .i64 (IntKind.i64.wrap ((q.length : Int) - 1))))) (.t (.sc (.int .i64 ((q.length : Int) - 1))))]) (by kernel_rfl) ?_ ?_
            · -- region 16
              refine ⟨(Weak.of_eq (nw ?_)), trivial⟩
              all_goals omega
            refine andThen_normal ?_
            refine Sim.seq ?_
            refine Sim.regD (by kernel_rfl) (orcs := [(5, ⟨some (.eptr 48 q.length (q.length - 1) 0), none, none, none⟩), (7, ⟨none, none, some (dstepT (q.getD (q.length - 1) default)), none⟩), (13, ⟨some (.eptr 48 q.length (q.length - 1) 0), none, none, none⟩), (15, ⟨none, none, some (dstepT (q.getD (q.length - 1) default)), none⟩), (19, ⟨none, none, some (.lst 2 (List.map attrT (x.set.getD i default))), none⟩), (21, ⟨none, none, none, some (⟨0, [], .t (.sc (.bool (sameL (((q.getD (q.length - 1) default)).attrs) (x.set.getD i default)))), []⟩)⟩)]) (keys := [1, 3, 4, 5, 6, 7, 81]) (τ := [(0, 0), (48, 48)]) (nx := 562)
              (sl := [(1, .ptr 0 0), (3, .row 48 q.length), (4, .t (.sc (.slice none 0 0))), (5, .t (.sc (.int .i64 0))), (6, .t (.sc (.int .i64 (i : Int)))), (7, .t (.sc (.int .i64 ((q.length : Int) - 1)))), (81, .t (.sc (.bool ((decide (((q.length : Int) - 1) ≥ 0) && ((((q.getD (q.length - 1) default)).kind) == 0)) && (sameL (((q.getD (q.length - 1) default)).attrs) (x.set.getD i default))))))]) (l := [(0, .box [.t (.lst 1 (List.map elemsT x.ins)), .t (.lst 1 (List.map boolT x.cut)), .t (.lst 1 (List.map attrsT x.set))]), (48, .row 4 false (List.map dstepT q))])
              (C := [(decide (((q.length : Int) - 1) ≥ 0)) = true → (decide (((q.length : Int) - 1) ≥ 0)) = true, (decide (((q.length : Int) - 1) ≥ 0)) = true → (decide (((q.length : Int) - 1) ≥ 0)) = true, (decide (((q.length : Int) - 1) ≥ 0)) = true → (q.length : Nat) = (List.map dstepT q).length, (decide (((q.length : Int) - 1) ≥ 0)) = true → (0:Int) ≤ ((q.length : Int) - 1), (decide (((q.length : Int) - 1) ≥ 0)) = true → ((q.length : Int) - 1) < ((q.length : Nat) : Int), (decide (((q.length : Int) - 1) ≥ 0)) = true → Weak (.eptr 48 q.length (Int.toNat ((q.length : Int) - 1)) 0) (.eptr 48 q.length (q.length - 1) 0), (decide (((q.length : Int) - 1) ≥ 0)) = true → (decide (((q.length : Int) - 1) ≥ 0)) = true, (decide (((q.length : Int) - 1) ≥ 0)) = true → (decide (((q.length : Int) - 1) ≥ 0)) = true, (decide (((q.length : Int) - 1) ≥ 0)) = true → (q.length : Nat) = (List.map dstepT q).length, (decide (((q.length : Int) - 1) ≥ 0)) = true → (List.map dstepT q)[(q.length - 1)]? = some (dstepT (q.getD (q.length - 1) default)), (decide (((q.length : Int) - 1) ≥ 0)) = true → (decide (((q.length : Int) - 1) ≥ 0)) = true, (decide (((q.length : Int) - 1) ≥ 0)) = true → (decide (((q.length : Int) - 1) ≥ 0)) = true, (decide (((q.length : Int) - 1) ≥ 0) && ((((q.getD (q.length - 1) default)).kind) == 0)) = true → (decide (((q.length : Int) - 1) ≥ 0) && ((((q.getD (q.length - 1) default)).kind) == 0)) = true, (decide (((q.length : Int) - 1) ≥ 0) && ((((q.getD (q.length - 1) default)).kind) == 0)) = true → (decide (((q.length : Int) - 1) ≥ 0) && ((((q.getD (q.length - 1) default)).kind) == 0)) = true, (decide (((q.length : Int) - 1) ≥ 0) && ((((q.getD (q.length - 1) default)).kind) == 0)) = true → (q.length : Nat) = (List.map dstepT q).length, (decide (((q.length : Int) - 1) ≥ 0) && ((((q.getD (q.length - 1) default)).kind) == 0)) = true → (0:Int) ≤ ((q.length : Int) - 1), (decide (((q.length : Int) - 1) ≥ 0) && ((((q.getD (q.length - 1) default)).kind) == 0)) = true → ((q.length : Int) - 1) < ((q.length : Nat) : Int), (decide (((q.length : Int) - 1) ≥ 0) && ((((q.getD (q.length - 1) default)).kind) == 0)) = true → Weak (.eptr 48 q.length (Int.toNat ((q.length : Int) - 1)) 0) (.eptr 48 q.length (q.length - 1) 0), (decide (((q.length : Int) - 1) ≥ 0) && ((((q.getD (q.length - 1) default)).kind) == 0)) = true → (decide (((q.length : Int) - 1) ≥ 0) && ((((q.getD (q.length - 1) default)).kind) == 0)) = true, (decide (((q.length : Int) - 1) ≥ 0) && ((((q.getD (q.length - 1) default)).kind) == 0)) = true → (decide (((q.length : Int) - 1) ≥ 0) && ((((q.getD (q.length - 1) default)).kind) == 0)) = true, (decide (((q.length : Int) - 1) ≥ 0) && ((((q.getD (q.length - 1) default)).kind) == 0)) = true → (q.length : Nat) = (List.map dstepT q).length, (decide (((q.length : Int) - 1) ≥ 0) && ((((q.getD (q.length - 1) default)).kind) == 0)) = true → (List.map dstepT q)[(q.length - 1)]? = some (dstepT (q.getD (q.length - 1) default)), (decide (((q.length : Int) - 1) ≥ 0) && ((((q.getD (q.length - 1) default)).kind) == 0)) = true → (decide (((q.length : Int) - 1) ≥ 0) && ((((q.getD (q.length - 1) default)).kind) == 0)) = true, (decide (((q.length : Int) - 1) ≥ 0) && ((((q.getD (q.length - 1) default)).kind) == 0)) = true → (decide (((q.length : Int) - 1) ≥ 0) && ((((q.getD (q.length - 1) default)).kind) == 0)) = true, (decide (((q.length : Int) - 1) ≥ 0) && ((((q.getD (q.length - 1) default)).kind) == 0)) = true → (decide (((q.length : Int) - 1) ≥ 0) && ((((q.getD (q.length - 1) default)).kind) == 0)) = true, (decide (((q.length : Int) - 1) ≥ 0) && ((((q.getD (q.length - 1) default)).kind) == 0)) = true → (0:Int) ≤ (i : Int), (decide (((q.length : Int) - 1) ≥ 0) && ((((q.getD (q.length - 1) default)).kind) == 0)) = true → (List.map attrsT x.set)[i]? = some (.lst 2 (List.map attrT (x.set.getD i default))), (decide (((q.length : Int) - 1) ≥ 0) && ((((q.getD (q.length - 1) default)).kind) == 0)) = true → (decide (((q.length : Int) - 1) ≥ 0) && ((((q.getD (q.length - 1) default)).kind) == 0)) = true, (decide (((q.length : Int) - 1) ≥ 0) && ((((q.getD (q.length - 1) default)).kind) == 0)) = true → (decide (((q.length : Int) - 1) ≥ 0) && ((((q.getD (q.length - 1) default)).kind) == 0)) = true, (decide (((q.length : Int) - 1) ≥ 0) && ((((q.getD (q.length - 1) default)).kind) == 0)) = true → (decide (((q.length : Int) - 1) ≥ 0) && ((((q.getD (q.length - 1) default)).kind) == 0)) = true, (decide (((q.length : Int) - 1) ≥ 0) && ((((q.getD (q.length - 1) default)).kind) == 0)) = true → callable Try.prog 30 = true, (decide (((q.length : Int) - 1) ≥ 0) && ((((q.getD (q.length - 1) default)).kind) == 0)) = true → FC Try.prog 30 [.t (.lst 2 (List.map attrT (((q.getD (q.length - 1) default)).attrs))), .t (.lst 2 (List.map attrT (x.set.getD i default)))] emp (.t (.sc (.bool (sameL (((q.getD (q.length - 1) default)).attrs) (x.set.getD i default))))) emp, (decide (((q.length : Int) - 1) ≥ 0) && ((((q.getD (q.length - 1) default)).kind) == 0)) = true → (decide (((q.length : Int) - 1) ≥ 0) && ((((q.getD (q.length - 1) default)).kind) == 0)) = true]) (by kernel_rfl) ?_ ?_
            · -- region 17
              refine ⟨?_, ?_, ?_, ?_, ?_, (fun hg => (Weak.of_eq (eptr_eq ?_))), ?_, ?_, ?_, (fun hg => (elt_nat ?_)), ?_, ?_, ?_, ?_, ?_, ?_, ?_, (fun hg => (Weak.of_eq (eptr_eq ?_))), ?_, ?_, ?_, (fun hg => (elt_nat ?_)), ?_, ?_, ?_, ?_, (fun hg => (elt_nat ?_)), ?_, ?_, ?_, (fun hg => by (try simp only [decide_eq_true_eq, decide_eq_false_iff_not, Int.not_lt, Int.not_le, ge_iff_le, Bool.and_eq_true, Bool.and_eq_false_iff, Bool.not_eq_true', Bool.not_eq_false', beq_iff_eq, beq_eq_false_iff_ne, ne_eq] at hg); exact (by kernel_rfl)), (fun hg => by (try simp only [decide_eq_true_eq, decide_eq_false_iff_not, Int.not_lt, Int.not_le, ge_iff_le, Bool.and_eq_true, Bool.and_eq_false_iff, Bool.not_eq_true', Bool.not_eq_false', beq_iff_eq, beq_eq_false_iff_ne, ne_eq] at hg); exact (fc_sameAttrs (((q.getD (q.length - 1) default)).attrs) (x.set.getD i default))), ?_, trivial⟩
              all_goals (first | omega | with_reducible exact fun h => h | (intro hg hq; rw [hg, hq]; rfl) | (intro hq; rw [hq]; done) | (intro hq; rw [hq]; rfl) | ((try intro hg); (try simp [-List.getD_eq_getElem?_getD] at hg); (try simp only [List.length_map]); first | done | omega | rfl | (simp; done) | (simp; omega) | (simp [hg]; done) | (intro hq; simp [hg, hq]; done) | (intro hq; simp [hg, hq]; omega)))
            refine andThen_normal ?_
            refine Sim.cond (b := ((decide (((q.length : Int) - 1) ≥ 0) && ((((q.getD (q.length - 1) default)).kind) == 0)) && (sameL (((q.getD (q.length - 1) default)).attrs) (x.set.getD i default)))) (by kernel_rfl) (fun h17 => ?_) (fun h17 => ?_)
            · (try simp only [decide_eq_true_eq, decide_eq_false_iff_not, Int.not_lt, Int.not_le, ge_iff_le, Bool.and_eq_true, Bool.and_eq_false_iff, Bool.not_eq_true', Bool.not_eq_false', beq_iff_eq, beq_eq_false_iff_ne, ne_eq] at h17)
              have hlast := fun h : 0 < q.length => hnq _ (lastD_mem h)
              refine Sim.reg (orcs := [(2, ⟨some (.eptr 48 q.length (q.length - 1) 0), none, none, none⟩), (4, ⟨none, none, some (dstepT (q.getD (q.length - 1) default)), none⟩), (5, ⟨some (.t (.sc (.int .i64 ((((q.getD (q.length - 1) default)).n) + 1)))), none, none, none⟩), (6, ⟨some (.eptr 48 q.length (q.length - 1) 0), none, none, none⟩), (8, ⟨none, some ([(48, .row 4 false (List.map dstepT (q.set (q.length - 1) ({ kind := ((q.getD (q.length - 1) default)).kind, n := ((((q.getD (q.length - 1) default)).n) + 1), attrs := ((q.getD (q.length - 1) default)).attrs, elems := ((q.getD (q.length - 1) default)).elems } : DStep))))]), some (dstepT (q.getD (q.length - 1) default)), none⟩)]) (keys := [1, 3, 4, 5, 6]) (τ := [(0, 0), (48, 48)]) (nx := 634)
                (sl := [(1, .ptr 0 0), (3, .row 48 q.length), (4, .t (.sc (.slice none 0 0))), (5, .t (.sc (.int .i64 0))), (6, .t (.sc (.int .i64 (i : Int))))]) (l := [(0, .box [.t (.lst 1 (List.map elemsT x.ins)), .t (.lst 1 (List.map boolT x.cut)), .t (.lst 1 (List.map attrsT x.set))]), (48, .row 4 false (List.map dstepT (q.set (q.length - 1) ({ kind := ((q.getD (q.length - 1) default)).kind, n := ((((q.getD (q.length - 1) default)).n) + 1), attrs := ((q.getD (q.length - 1) default)).attrs, elems := ((q.getD (q.length - 1) default)).elems } : DStep))))])
                (C := [(q.length : Nat) = (List.map dstepT q).length, (0:Int) ≤ ((q.length : Int) - 1), ((q.length : Int) - 1) < ((q.length : Nat) : Int), Weak (.eptr 48 q.length (Int.toNat ((q.length : Int) - 1)) 0) (.eptr 48 q.length (q.length - 1) 0), (q.length : Nat) = (List.map dstepT q).length, (List.map dstepT q)[(q.length - 1)]? = some (dstepT (q.getD (q.length - 1) default)), Weak (.t (.sc (.int .i64 (IntKind.i64.wrap ((((q.getD (q.length - 1) default)).n) + 1))))) (.t (.sc (.int .i64 ((((q.getD (q.length - 1) default)).n) + 1)))), (q.length : Nat) = (List.map dstepT q).length, (0:Int) ≤ ((q.length : Int) - 1), ((q.length : Int) - 1) < ((q.length : Nat) : Int), Weak (.eptr 48 q.length (Int.toNat ((q.length : Int) - 1)) 0) (.eptr 48 q.length (q.length - 1) 0), (q.length : Nat) = (List.map dstepT q).length, (List.map dstepT q)[(q.length - 1)]? = some (dstepT (q.getD (q.length - 1) default)), ([(48, .row 4 false (List.map dstepT (q.set (q.length - 1) ({ kind := ((q.getD (q.length - 1) default)).kind, n := ((((q.getD (q.length - 1) default)).n) + 1), attrs := ((q.getD (q.length - 1) default)).attrs, elems := ((q.getD (q.length - 1) default)).elems } : DStep))))] : List (Nat × Ob)) = [(48, .row 4 false ((List.map dstepT q).set (q.length - 1) (.agg [.sc (.int .i64 (((q.getD (q.length - 1) default)).kind)), .sc (.int .i64 ((((q.getD (q.length - 1) default)).n) + 1)), .lst 2 (List.map attrT (((q.getD (q.length - 1) default)).attrs)), .lst 3 (List.map elemT (((q.getD (q.length - 1) default)).elems))])))]]) (by kernel_rfl) ?_ ?_
              · -- region 18
                refine ⟨?_, ?_, ?_, (Weak.of_eq (eptr_eq ?_)), ?_, (elt_nat ?_), (Weak.of_eq (nw ?_)), ?_, ?_, ?_, (Weak.of_eq (eptr_eq ?_)), ?_, (elt_nat ?_), (row_set rfl), trivial⟩
                all_goals (first | omega | with_reducible exact fun h => h | (intro hg hq; rw [hg, hq]; rfl) | (intro hq; rw [hq]; done) | (intro hq; rw [hq]; rfl) | ((try intro hg); (try simp [-List.getD_eq_getElem?_getD] at hg); (try simp only [List.length_map]); first | done | omega | rfl | (simp; done) | (simp; omega) | (simp [hg]; done) | (intro hq; simp [hg, hq]; done) | (intro hq; simp [hg, hq]; omega)))
              refine inBlk_normal ?_
              refine andThen_normal ?_
              refine Sim.reg (orcs := [(1, ⟨some (.t (.sc (.int .i64 ((i : Int) + 1)))), none, none, none⟩)]) (keys := [1, 3, 4, 5, 6]) (τ := [(0, 0), (48, 48)]) (nx := 658)
                (sl := [(1, .ptr 0 0), (3, .row 48 q.length), (4, .t (.sc (.slice none 0 0))), (5, .t (.sc (.int .i64 0))), (6, .t (.sc (.int .i64 ((i : Int) + 1))))]) (l := [(0, .box [.t (.lst 1 (List.map elemsT x.ins)), .t (.lst 1 (List.map boolT x.cut)), .t (.lst 1 (List.map attrsT x.set))]), (48, .row 4 false (List.map dstepT (q.set (q.length - 1) ({ kind := ((q.getD (q.length - 1) default)).kind, n := ((((q.getD (q.length - 1) default)).n) + 1), attrs := ((q.getD (q.length - 1) default)).attrs, elems := ((q.getD (q.length - 1) default)).elems } : DStep))))])
                (C := [Weak (.t (.sc (.int .i64 (IntKind.i64.wrap ((i : Int) + 1))))) (.t (.sc (.int .i64 ((i : Int) + 1))))]) (by kernel_rfl) ?_ ?_
              · -- region 6
                refine ⟨(Weak.of_eq (nw ?_)), trivial⟩
                all_goals omega
              refine andThen_normal ?_
              refine LoopSim.weaken (Le.nilRow (t := 4) (k := 3) (id := 658) rfl rfl rfl) ?_
              refine LoopSim.weaken (Le.slot (t := 3) (v' := .row 48 ((q.set (q.length - 1) ({ kind := ((q.getD (q.length - 1) default)).kind, n := ((((q.getD (q.length - 1) default)).n) + 1), attrs := ((q.getD (q.length - 1) default)).attrs, elems := ((q.getD (q.length - 1) default)).elems } : DStep)).length)) rfl (fun _ _ _ _ _ hv => (show q.length = (q.set (q.length - 1) ({ kind := ((q.getD (q.length - 1) default)).kind, n := ((((q.getD (q.length - 1) default)).n) + 1), attrs := ((q.getD (q.length - 1) default)).attrs, elems := ((q.getD (q.length - 1) default)).elems } : DStep)).length by simp only [List.length_set]) ▸ hv)) ?_
              refine LoopSim.weaken (Le.ren (τ := [(0, 0), (48, 48), (658, 49)]) (keys := [1, 3, 4, 5, 6]) (nx := 50) (sl := [(1, .ptr 0 0), (3, .row 48 ((q.set (q.length - 1) ({ kind := ((q.getD (q.length - 1) default)).kind, n := ((((q.getD (q.length - 1) default)).n) + 1), attrs := ((q.getD (q.length - 1) default)).attrs, elems := ((q.getD (q.length - 1) default)).elems } : DStep)).length)), (4, .row 49 0), (5, .t (.sc (.int .i64 0))), (6, .t (.sc (.int .i64 (((i + 1) : Nat) : Int))))]) (l := [(0, .box [.t (.lst 1 (List.map elemsT x.ins)), .t (.lst 1 (List.map boolT x.cut)), .t (.lst 1 (List.map attrsT x.set))]), (48, .row 4 false (List.map dstepT (q.set (q.length - 1) ({ kind := ((q.getD (q.length - 1) default)).kind, n := ((((q.getD (q.length - 1) default)).n) + 1), attrs := ((q.getD (q.length - 1) default)).attrs, elems := ((q.getD (q.length - 1) default)).elems } : DStep)))), (49, .row 3 false (List.map elemT []))]) (by kernel_rfl)) ?_
              refine ih5 (0, (i + 1), (q.set (q.length - 1) ({ kind := ((q.getD (q.length - 1) default)).kind, n := ((((q.getD (q.length - 1) default)).n) + 1), attrs := ((q.getD (q.length - 1) default)).attrs, elems := ((q.getD (q.length - 1) default)).elems } : DStep)), []) ?_ ?_
              · -- back 5.8, invariant
                rw [tailR_K (by omega) (by rcases h8 with h8 | h8; omega; exact h8)] at hDe
                refine ⟨by omega, DI.of_eq ?_ hDe.keep1⟩
                simp only
                rw [hfq]
                unfold keepD
                split
                · rename_i z; first | rfl | (exfalso; rcases h17 with (h | h) | h; omega; exact h z.2.1; (rw [z.2.2] at h; cases h))
                · rename_i z; first | rfl | exact absurd ⟨by omega, h17.1.2, h17.2⟩ z
              · -- back 5.8, measure
                show (_:Nat) < _; (first | omega | with_reducible exact fun h => h | (intro hq; rw [hq]; done) | (intro hq; rw [hq]; rfl) | (simp only [List.length_map]; done) | (simp only [List.length_map]; omega) | (simp; omega) | (simp; done))
            · (try simp only [decide_eq_true_eq, decide_eq_false_iff_not, Int.not_lt, Int.not_le, ge_iff_le, Bool.and_eq_true, Bool.and_eq_false_iff, Bool.not_eq_true', Bool.not_eq_false', beq_iff_eq, beq_eq_false_iff_ne, ne_eq] at h17)
              refine Sim.reg (orcs := [(4, ⟨none, none, some (.lst 2 (List.map attrT (x.set.getD i default))), none⟩), (6, ⟨some (.t (.agg [.sc (.int .i64 0), .sc (.int .i64 1), .lst 2 (List.map attrT (x.set.getD i default)), .lst 3 (List.map elemT [])])), none, none, none⟩), (8, ⟨some (.row 48 ((q ++ [({ kind := 0, n := 1, attrs := (x.set.getD i default), elems := [] } : DStep)]).length)), some ([(48, .row 4 false (List.map dstepT (q ++ [({ kind := 0, n := 1, attrs := (x.set.getD i default), elems := [] } : DStep)])))]), none, none⟩)]) (keys := [1, 3, 4, 5, 6]) (τ := [(0, 0), (48, 48)]) (nx := 642)
                (sl := [(1, .ptr 0 0), (3, .row 48 ((q ++ [({ kind := 0, n := 1, attrs := (x.set.getD i default), elems := [] } : DStep)]).length)), (4, .t (.sc (.slice none 0 0))), (5, .t (.sc (.int .i64 0))), (6, .t (.sc (.int .i64 (i : Int))))]) (l := [(0, .box [.t (.lst 1 (List.map elemsT x.ins)), .t (.lst 1 (List.map boolT x.cut)), .t (.lst 1 (List.map attrsT x.set))]), (48, .row 4 false (List.map dstepT (q ++ [({ kind := 0, n := 1, attrs := (x.set.getD i default), elems := [] } : DStep)])))])
                (C := [(0:Int) ≤ (i : Int), (List.map attrsT x.set)[i]? = some (.lst 2 (List.map attrT (x.set.getD i default))), Weak (.t (.agg [.sc (.int .i64 0), .sc (.int .i64 1), .lst 2 (List.map attrT (x.set.getD i default)), .sc (.slice none 0 0)])) (.t (.agg [.sc (.int .i64 0), .sc (.int .i64 1), .lst 2 (List.map attrT (x.set.getD i default)), .lst 3 (List.map elemT [])])), 1 = (List.map dstepT [({ kind := 0, n := 1, attrs := (x.set.getD i default), elems := [] } : DStep)]).length, (q.length : Nat) = (List.map dstepT q).length, (q.length : Nat) + (List.map dstepT [({ kind := 0, n := 1, attrs := (x.set.getD i default), elems := [] } : DStep)]).length ≤ 1099511627776, Weak (.row 48 (q.length + (List.map dstepT [({ kind := 0, n := 1, attrs := (x.set.getD i default), elems := [] } : DStep)]).length)) (.row 48 ((q ++ [({ kind := 0, n := 1, attrs := (x.set.getD i default), elems := [] } : DStep)]).length)), ([(48, .row 4 false (List.map dstepT (q ++ [({ kind := 0, n := 1, attrs := (x.set.getD i default), elems := [] } : DStep)])))] : List (Nat × Ob)) = [(48, .row 4 false (List.map dstepT q ++ List.map dstepT [({ kind := 0, n := 1, attrs := (x.set.getD i default), elems := [] } : DStep)]))]]) (by kernel_rfl) ?_ ?_
              · -- region 19
                refine ⟨?_, (elt_nat ?_), (Weak.agg ⟨.inl rfl, ⟨.inl rfl, ⟨.inl rfl, ⟨tw_nil (by decide), trivial⟩⟩⟩⟩), ?_, ?_, ?_, (Weak.of_eq (by simp)), (row_append rfl), trivial⟩
                all_goals (first | omega | with_reducible exact fun h => h | (intro hg hq; rw [hg, hq]; rfl) | (intro hq; rw [hq]; done) | (intro hq; rw [hq]; rfl) | ((try intro hg); (try simp [-List.getD_eq_getElem?_getD] at hg); (try simp only [List.length_map]); first | done | omega | rfl | (simp; done) | (simp; omega) | (simp [hg]; done) | (intro hq; simp [hg, hq]; done) | (intro hq; simp [hg, hq]; omega)))
              refine inBlk_normal ?_
              refine andThen_normal ?_
              refine Sim.reg (orcs := [(1, ⟨some (.t (.sc (.int .i64 ((i : Int) + 1)))), none, none, none⟩)]) (keys := [1, 3, 4, 5, 6]) (τ := [(0, 0), (48, 48)]) (nx := 666)
                (sl := [(1, .ptr 0 0), (3, .row 48 ((q ++ [({ kind := 0, n := 1, attrs := (x.set.getD i default), elems := [] } : DStep)]).length)), (4, .t (.sc (.slice none 0 0))), (5, .t (.sc (.int .i64 0))), (6, .t (.sc (.int .i64 ((i : Int) + 1))))]) (l := [(0, .box [.t (.lst 1 (List.map elemsT x.ins)), .t (.lst 1 (List.map boolT x.cut)), .t (.lst 1 (List.map attrsT x.set))]), (48, .row 4 false (List.map dstepT (q ++ [({ kind := 0, n := 1, attrs := (x.set.getD i default), elems := [] } : DStep)])))])
                (C := [Weak (.t (.sc (.int .i64 (IntKind.i64.wrap ((i : Int) + 1))))) (.t (.sc (.int .i64 ((i : Int) + 1))))]) (by kernel_rfl) ?_ ?_
              · -- region 6
                refine ⟨(Weak.of_eq (nw ?_)), trivial⟩
                all_goals omega
              refine andThen_normal ?_
              refine LoopSim.weaken (Le.nilRow (t := 4) (k := 3) (id := 666) rfl rfl rfl) ?_
              refine LoopSim.weaken (Le.ren (τ := [(0, 0), (48, 48), (666, 49)]) (keys := [1, 3, 4, 5, 6]) (nx := 50) (sl := [(1, .ptr 0 0), (3, .row 48 ((q ++ [({ kind := 0, n := 1, attrs := (x.set.getD i default), elems := [] } : DStep)]).length)), (4, .row 49 0), (5, .t (.sc (.int .i64 0))), (6, .t (.sc (.int .i64 (((i + 1) : Nat) : Int))))]) (l := [(0, .box [.t (.lst 1 (List.map elemsT x.ins)), .t (.lst 1 (List.map boolT x.cut)), .t (.lst 1 (List.map attrsT x.set))]), (48, .row 4 false (List.map dstepT (q ++ [({ kind := 0, n := 1, attrs := (x.set.getD i default), elems := [] } : DStep)]))), (49, .row 3 false (List.map elemT []))]) (by kernel_rfl)) ?_
              refine ih5 (0, (i + 1), (q ++ [({ kind := 0, n := 1, attrs := (x.set.getD i default), elems := [] } : DStep)]), []) ?_ ?_
              · -- back 5.9, invariant
                rw [tailR_K (by omega) (by rcases h8 with h8 | h8; omega; exact h8)] at hDe
                refine ⟨by omega, DI.of_eq ?_ hDe.keep1⟩
                simp only
                rw [hfq]
                unfold keepD
                split
                · rename_i z; first | rfl | (exfalso; rcases h17 with (h | h) | h; omega; exact h z.2.1; (rw [z.2.2] at h; cases h))
                · rename_i z; first | rfl | exact absurd ⟨by omega, h17.1.2, h17.2⟩ z
              · -- back 5.9, measure
                show (_:Nat) < _; (first | omega | with_reducible exact fun h => h | (intro hq; rw [hq]; done) | (intro hq; rw [hq]; rfl) | (simp only [List.length_map]; done) | (simp only [List.length_map]; omega) | (simp; omega) | (simp; done))
  · (try simp only [decide_eq_true_eq, decide_eq_false_iff_not, Int.not_lt, Int.not_le] at h5)
    exfalso
    omega
end Go.Ch
