import Derived.Test.YtbdbibmbfmlobaaChAxis2
set_option linter.unusedVariables false
set_option linter.unusedSimpArgs false
set_option maxRecDepth 100000
set_option maxHeartbeats 4000000
open Go Go.Proofs Go.Ab
namespace Go.Ch
theorem fc_axCheck (l : List AxStep) : FC Try.prog 89 [.t (.lst 2 (List.map stepT l))] (app emp []) (.t (.sc (.int .i64 (checkX l)))) (app emp []) := by
  refine FC.of_sim (fn := Try.f89) (nx := 0) (by kernel_rfl) rfl (by kernel_rfl) rfl ?_
  show Sim _ _ _ _ ⟨[(0, .t (.lst 2 (List.map stepT l)))], app emp [], 0⟩ _
  refine Sim.len (t := 0) (k := 2) rfl (fun hl0 => ?_)
  rw [List.length_map] at hl0
  refine Sim.seq ?_
  refine Sim.reg (orcs := []) (keys := [0]) (τ := []) (nx := 8)
    (sl := [(0, .t (.lst 2 (List.map stepT l)))]) (l := [])
    (C := []) (by kernel_rfl) ?_ ?_
  · -- region 0
    trivial
  refine andThen_normal ?_
  refine Sim.seq ?_
  refine Sim.reg (orcs := []) (keys := [0, 3, 4]) (τ := []) (nx := 24)
    (sl := [(0, .t (.lst 2 (List.map stepT l))), (3, .t (.sc (.int .i64 0))), (4, .t (.sc (.int .i64 0)))]) (l := [])
    (C := []) (by kernel_rfl) ?_ ?_
  · -- region 1
    trivial
  refine andThen_normal ?_
  refine Sim.seq ?_
  refine Sim.seq ?_
  refine Sim.reg (orcs := [(1, ⟨some (.t (.sc (.int .i64 (l.length : Int)))), none, none, none⟩)]) (keys := [0, 3, 4, 7, 8, 9]) (τ := []) (nx := 48)
    (sl := [(0, .t (.lst 2 (List.map stepT l))), (3, .t (.sc (.int .i64 0))), (4, .t (.sc (.int .i64 0))), (7, .t (.lst 2 (List.map stepT l))), (8, .t (.sc (.int .i64 (l.length : Int)))), (9, .t (.sc (.int .i64 0)))]) (l := [])
    (C := [AVal.t (.sc (.int .i64 (l.length : Int))) = .t (.sc (.int .i64 ((List.map stepT l).length : Int)))]) (by kernel_rfl) ?_ ?_
  · -- region 2
    exact ⟨len_map, trivial⟩
  refine andThen_normal ?_
  refine Sim.block ?_
  refine Sim.weaken (Le.ren (τ := []) (keys := [0, 3, 4, 7, 8, 9]) (nx := 48) (sl := [(0, .t (.lst 2 (List.map stepT l))), (3, .t (.sc (.int .i64 0))), (4, .t (.sc (.int .i64 0))), (7, .t (.lst 2 (List.map stepT l))), (8, .t (.sc (.int .i64 (l.length : Int)))), (9, .t (.sc (.int .i64 ((0 : Nat) : Int))))]) (l := []) (by kernel_rfl)) ?_
  refine Sim.loop ?_
  refine loop_ind (α := Int × Int × Nat) (fun (b, a, i) => ⟨[(0, .t (.lst 2 (List.map stepT l))), (3, .t (.sc (.int .i64 b))), (4, .t (.sc (.int .i64 a))), (7, .t (.lst 2 (List.map stepT l))), (8, .t (.sc (.int .i64 (l.length : Int)))), (9, .t (.sc (.int .i64 (i : Int))))], app emp [], 48⟩) (fun (b, a, i) => i ≤ l.length ∧ 0 ≤ b ∧ b ≤ 2147483648 ∧ 0 ≤ a ∧ a ≤ 2147483648 ∧ checkX l = chkX l i b a) (fun (b, a, i) => l.length - i) ?_ (0, 0, 0) ?_
  rotate_left
  · -- loop 3, start
    exact ⟨by omega, by decide, by decide, by decide, by decide, rfl⟩
  rintro ⟨b, a, i⟩ I3 ih3
  show LoopSim _ _ _ _ ⟨[(0, .t (.lst 2 (List.map stepT l))), (3, .t (.sc (.int .i64 b))), (4, .t (.sc (.int .i64 a))), (7, .t (.lst 2 (List.map stepT l))), (8, .t (.sc (.int .i64 (l.length : Int)))), (9, .t (.sc (.int .i64 (i : Int))))], app emp [], 48⟩ _
  replace I3 : i ≤ l.length ∧ 0 ≤ b ∧ b ≤ 2147483648 ∧ 0 ≤ a ∧ a ≤ 2147483648 ∧ checkX l = chkX l i b a := I3
  refine LoopSim.step ?_
  refine Sim.seq ?_
  refine Sim.reg (orcs := []) (keys := [0, 3, 4, 7, 8, 9, 10]) (τ := []) (nx := 56)
    (sl := [(0, .t (.lst 2 (List.map stepT l))), (3, .t (.sc (.int .i64 b))), (4, .t (.sc (.int .i64 a))), (7, .t (.lst 2 (List.map stepT l))), (8, .t (.sc (.int .i64 (l.length : Int)))), (9, .t (.sc (.int .i64 (i : Int)))), (10, .t (.sc (.bool (decide ((i : Int) < (l.length : Int))))))]) (l := [])
    (C := []) (by kernel_rfl) ?_ ?_
  · -- region 3
    trivial
  refine andThen_normal ?_
  refine Sim.seq ?_
  refine Sim.cond (b := decide ((i : Int) < (l.length : Int))) (by kernel_rfl) (fun h3 => ?_) (fun h3 => ?_)
  · (try simp only [decide_eq_true_eq, decide_eq_false_iff_not, Int.not_lt, Int.not_le] at h3)
    refine Sim.skip ?_
    refine andThen_normal ?_
    refine Sim.seq ?_
    refine Sim.block ?_
    refine Sim.seq ?_
    refine Sim.reg (orcs := [(1, ⟨none, none, some (stepT (l.getD i default)), none⟩)]) (keys := [0, 3, 4, 5, 6, 7, 8, 9]) (τ := [(80, 80)]) (nx := 104)
      (sl := [(0, .t (.lst 2 (List.map stepT l))), (3, .t (.sc (.int .i64 b))), (4, .t (.sc (.int .i64 a))), (5, .t (.sc (.int .i64 (i : Int)))), (6, .ptr 80 0), (7, .t (.lst 2 (List.map stepT l))), (8, .t (.sc (.int .i64 (l.length : Int)))), (9, .t (.sc (.int .i64 (i : Int))))]) (l := [(80, .box [.t (.sc (.int .i64 (((l.getD i default)).kind))), .t (.sc (.int .i64 (((l.getD i default)).n)))])])
      (C := [(0:Int) ≤ (i : Int), (List.map stepT l)[i]? = some (stepT (l.getD i default))]) (by kernel_rfl) ?_ ?_
    · -- region 4
      refine ⟨?_, (elt_nat ?_), trivial⟩
      all_goals (first | omega | with_reducible exact fun h => h | (intro hg hq; rw [hg, hq]; rfl) | (intro hq; rw [hq]; done) | (intro hq; rw [hq]; rfl) | ((try intro hg); (try simp [-List.getD_eq_getElem?_getD] at hg); (try simp only [List.length_map]); first | done | omega | rfl | (simp; done) | (simp; omega) | (simp [hg]; done) | (intro hq; simp [hg, hq]; done) | (intro hq; simp [hg, hq]; omega)))
    refine andThen_normal ?_
    refine Sim.seq ?_
    refine Sim.block ?_
    refine Sim.seq ?_
    refine Sim.reg (orcs := []) (keys := [0, 3, 4, 5, 6, 7, 8, 9, 14]) (τ := [(80, 80)]) (nx := 176)
      (sl := [(0, .t (.lst 2 (List.map stepT l))), (3, .t (.sc (.int .i64 b))), (4, .t (.sc (.int .i64 a))), (5, .t (.sc (.int .i64 (i : Int)))), (6, .ptr 80 0), (7, .t (.lst 2 (List.map stepT l))), (8, .t (.sc (.int .i64 (l.length : Int)))), (9, .t (.sc (.int .i64 (i : Int)))), (14, .t (.sc (.bool (decide ((((l.getD i default)).kind) < 0) || decide ((((l.getD i default)).kind) > 2)))))]) (l := [(80, .box [.t (.sc (.int .i64 (((l.getD i default)).kind))), .t (.sc (.int .i64 (((l.getD i default)).n)))])])
      (C := [(!(decide ((((l.getD i default)).kind) < 0))) = true → (!(decide ((((l.getD i default)).kind) < 0))) = true, (!(decide ((((l.getD i default)).kind) < 0))) = true → (!(decide ((((l.getD i default)).kind) < 0))) = true, (decide ((((l.getD i default)).kind) < 0)) = false → (!(decide ((((l.getD i default)).kind) < 0))) = true]) (by kernel_rfl) ?_ ?_
    · -- region 5
      refine ⟨?_, ?_, ?_, trivial⟩
      all_goals (first | omega | with_reducible exact fun h => h | (intro hg hq; rw [hg, hq]; rfl) | (intro hq; rw [hq]; done) | (intro hq; rw [hq]; rfl) | ((try intro hg); (try simp [-List.getD_eq_getElem?_getD] at hg); (try simp only [List.length_map]); first | done | omega | rfl | (simp; done) | (simp; omega) | (simp [hg]; done) | (intro hq; simp [hg, hq]; done) | (intro hq; simp [hg, hq]; omega)))
    refine andThen_normal ?_
    refine Sim.cond (b := (decide ((((l.getD i default)).kind) < 0) || decide ((((l.getD i default)).kind) > 2))) (by kernel_rfl) (fun h5 => ?_) (fun h5 => ?_)
    · (try simp only [decide_eq_true_eq, decide_eq_false_iff_not, Int.not_lt, Int.not_le, gt_iff_lt, Bool.or_eq_true, Bool.or_eq_false_iff] at h5)
      refine Sim.seq ?_
      refine Sim.reg (orcs := []) (keys := [2]) (τ := []) (nx := 184)
        (sl := [(2, .t (.sc (.int .i64 8)))]) (l := [])
        (C := []) (by kernel_rfl) ?_ ?_
      · -- region 6
        trivial
      refine andThen_normal ?_
      refine Sim.ret ?_
      refine inBlk_ret ?_
      refine andThen_ret ?_
      refine inBlk_ret ?_
      refine andThen_ret ?_
      refine andThen_ret ?_
      refine inBlk_ret ?_
      refine andThen_ret ?_
      refine Fin.mk2 (.inl rfl) (τ := []) (keys := [2]) (nx := 184) (sl := [(2, .t (.sc (.int .i64 8)))]) (l := []) (res' := .t (.sc (.int .i64 8))) (by kernel_rfl) ?_ (by kernel_rfl) ?_
      · -- end 1, objects
        first | done | rfl
      · -- end 1, result
        have e1 : ((checkX l) : Int) = 8 := by
          rw [I3.2.2.2.2.2, chkX]; ((repeat' split) <;> first | rfl | omega | (simp_all; done) | (simp_all; omega))
        show AVal.t (.sc (.int .i64 8)) = .t (.sc (.int .i64 (checkX l)))
        rw [e1]
        try rfl
    · (try simp only [decide_eq_true_eq, decide_eq_false_iff_not, Int.not_lt, Int.not_le, gt_iff_lt, Bool.or_eq_true, Bool.or_eq_false_iff] at h5)
      refine Sim.seq ?_
      refine Sim.reg (orcs := []) (keys := [0, 3, 4, 5, 6, 7, 8, 9, 23]) (τ := [(80, 80)]) (nx := 248)
        (sl := [(0, .t (.lst 2 (List.map stepT l))), (3, .t (.sc (.int .i64 b))), (4, .t (.sc (.int .i64 a))), (5, .t (.sc (.int .i64 (i : Int)))), (6, .ptr 80 0), (7, .t (.lst 2 (List.map stepT l))), (8, .t (.sc (.int .i64 (l.length : Int)))), (9, .t (.sc (.int .i64 (i : Int)))), (23, .t (.sc (.bool (decide ((((l.getD i default)).n) < 1) || decide ((((l.getD i default)).n) > 2147483647)))))]) (l := [(80, .box [.t (.sc (.int .i64 (((l.getD i default)).kind))), .t (.sc (.int .i64 (((l.getD i default)).n)))])])
        (C := [(!(decide ((((l.getD i default)).n) < 1))) = true → (!(decide ((((l.getD i default)).n) < 1))) = true, (!(decide ((((l.getD i default)).n) < 1))) = true → (!(decide ((((l.getD i default)).n) < 1))) = true, (decide ((((l.getD i default)).n) < 1)) = false → (!(decide ((((l.getD i default)).n) < 1))) = true]) (by kernel_rfl) ?_ ?_
      · -- region 7
        refine ⟨?_, ?_, ?_, trivial⟩
        all_goals (first | omega | with_reducible exact fun h => h | (intro hg hq; rw [hg, hq]; rfl) | (intro hq; rw [hq]; done) | (intro hq; rw [hq]; rfl) | ((try intro hg); (try simp [-List.getD_eq_getElem?_getD] at hg); (try simp only [List.length_map]); first | done | omega | rfl | (simp; done) | (simp; omega) | (simp [hg]; done) | (intro hq; simp [hg, hq]; done) | (intro hq; simp [hg, hq]; omega)))
      refine andThen_normal ?_
      refine Sim.cond (b := (decide ((((l.getD i default)).n) < 1) || decide ((((l.getD i default)).n) > 2147483647))) (by kernel_rfl) (fun h7 => ?_) (fun h7 => ?_)
      · (try simp only [decide_eq_true_eq, decide_eq_false_iff_not, Int.not_lt, Int.not_le, gt_iff_lt, Bool.or_eq_true, Bool.or_eq_false_iff] at h7)
        refine Sim.seq ?_
        refine Sim.reg (orcs := []) (keys := [2]) (τ := []) (nx := 256)
          (sl := [(2, .t (.sc (.int .i64 2)))]) (l := [])
          (C := []) (by kernel_rfl) ?_ ?_
        · -- region 8
          trivial
        refine andThen_normal ?_
        refine Sim.ret ?_
        refine inBlk_ret ?_
        refine andThen_ret ?_
        refine inBlk_ret ?_
        refine andThen_ret ?_
        refine andThen_ret ?_
        refine inBlk_ret ?_
        refine andThen_ret ?_
        refine Fin.mk2 (.inl rfl) (τ := []) (keys := [2]) (nx := 256) (sl := [(2, .t (.sc (.int .i64 2)))]) (l := []) (res' := .t (.sc (.int .i64 2))) (by kernel_rfl) ?_ (by kernel_rfl) ?_
        · -- end 2, objects
          first | done | rfl
        · -- end 2, result
          have e2 : ((checkX l) : Int) = 2 := by
            rw [I3.2.2.2.2.2, chkX]; ((repeat' split) <;> first | rfl | omega | (simp_all; done) | (simp_all; omega))
          show AVal.t (.sc (.int .i64 2)) = .t (.sc (.int .i64 (checkX l)))
          rw [e2]
          try rfl
      · (try simp only [decide_eq_true_eq, decide_eq_false_iff_not, Int.not_lt, Int.not_le, gt_iff_lt, Bool.or_eq_true, Bool.or_eq_false_iff] at h7)
        refine Sim.seq ?_
        refine Sim.regD (by kernel_rfl) (orcs := [(5, ⟨some (.t (.sc (.int .i64 ((i : Int) - 1)))), none, none, none⟩), (6, ⟨none, none, some (stepT (l.getD (i - 1) default)), none⟩), (15, ⟨some (.t (.sc (.int .i64 ((i : Int) - 1)))), none, none, none⟩), (16, ⟨none, none, some (stepT (l.getD (i - 1) default)), none⟩)]) (keys := [0, 3, 4, 6, 7, 8, 9, 32]) (τ := [(80, 80)]) (nx := 472)
          (sl := [(0, .t (.lst 2 (List.map stepT l))), (3, .t (.sc (.int .i64 b))), (4, .t (.sc (.int .i64 a))), (6, .ptr 80 0), (7, .t (.lst 2 (List.map stepT l))), (8, .t (.sc (.int .i64 (l.length : Int)))), (9, .t (.sc (.int .i64 (i : Int)))), (32, .t (.sc (.bool (decide ((i : Int) > 0) && (((((l.getD (i - 1) default)).kind) == (((l.getD i default)).kind)) || (((((l.getD (i - 1) default)).kind) == 2) && ((((l.getD i default)).kind) == 1)))))))]) (l := [(80, .box [.t (.sc (.int .i64 (((l.getD i default)).kind))), .t (.sc (.int .i64 (((l.getD i default)).n)))])])
          (C := [(decide ((i : Int) > 0)) = true → (decide ((i : Int) > 0)) = true, (decide ((i : Int) > 0)) = true → AVal.t (.sc (.int .i64 ((i : Int) - 1))) = .t (.sc (.int .i64 (IntKind.i64.wrap ((i : Int) - 1)))), (decide ((i : Int) > 0)) = true → (decide ((i : Int) > 0)) = true, (decide ((i : Int) > 0)) = true → (decide ((i : Int) > 0)) = true, (decide ((i : Int) > 0)) = true → (0:Int) ≤ ((i : Int) - 1), (decide ((i : Int) > 0)) = true → (List.map stepT l)[(Int.toNat ((i : Int) - 1))]? = some (stepT (l.getD (i - 1) default)), (decide ((i : Int) > 0)) = true → (decide ((i : Int) > 0)) = true, (decide ((i : Int) > 0)) = true → (decide ((i : Int) > 0)) = true, (decide ((i : Int) > 0)) = true → (decide ((i : Int) > 0)) = true, (decide ((i : Int) > 0)) = true → (decide ((i : Int) > 0)) = true, (decide ((i : Int) > 0)) = true → (decide ((i : Int) > 0)) = true, (decide ((i : Int) > 0)) = true → (decide ((i : Int) > 0)) = true, ((decide ((i : Int) > 0)) && !((((l.getD (i - 1) default)).kind) == (((l.getD i default)).kind))) = true → ((decide ((i : Int) > 0)) && !((((l.getD (i - 1) default)).kind) == (((l.getD i default)).kind))) = true, ((decide ((i : Int) > 0)) && !((((l.getD (i - 1) default)).kind) == (((l.getD i default)).kind))) = true → AVal.t (.sc (.int .i64 ((i : Int) - 1))) = .t (.sc (.int .i64 (IntKind.i64.wrap ((i : Int) - 1)))), ((decide ((i : Int) > 0)) && !((((l.getD (i - 1) default)).kind) == (((l.getD i default)).kind))) = true → ((decide ((i : Int) > 0)) && !((((l.getD (i - 1) default)).kind) == (((l.getD i default)).kind))) = true, ((decide ((i : Int) > 0)) && !((((l.getD (i - 1) default)).kind) == (((l.getD i default)).kind))) = true → ((decide ((i : Int) > 0)) && !((((l.getD (i - 1) default)).kind) == (((l.getD i default)).kind))) = true, ((decide ((i : Int) > 0)) && !((((l.getD (i - 1) default)).kind) == (((l.getD i default)).kind))) = true → (0:Int) ≤ ((i : Int) - 1), ((decide ((i : Int) > 0)) && !((((l.getD (i - 1) default)).kind) == (((l.getD i default)).kind))) = true → (List.map stepT l)[(Int.toNat ((i : Int) - 1))]? = some (stepT (l.getD (i - 1) default)), ((decide ((i : Int) > 0)) && !((((l.getD (i - 1) default)).kind) == (((l.getD i default)).kind))) = true → ((decide ((i : Int) > 0)) && !((((l.getD (i - 1) default)).kind) == (((l.getD i default)).kind))) = true, ((decide ((i : Int) > 0)) && !((((l.getD (i - 1) default)).kind) == (((l.getD i default)).kind))) = true → ((decide ((i : Int) > 0)) && !((((l.getD (i - 1) default)).kind) == (((l.getD i default)).kind))) = true, ((decide ((i : Int) > 0)) && !((((l.getD (i - 1) default)).kind) == (((l.getD i default)).kind))) = true → ((decide ((i : Int) > 0)) && !((((l.getD (i - 1) default)).kind) == (((l.getD i default)).kind))) = true, ((decide ((i : Int) > 0)) && !((((l.getD (i - 1) default)).kind) == (((l.getD i default)).kind))) = true → ((decide ((i : Int) > 0)) && !((((l.getD (i - 1) default)).kind) == (((l.getD i default)).kind))) = true, (((decide ((i : Int) > 0)) && !((((l.getD (i - 1) default)).kind) == (((l.getD i default)).kind))) && ((((l.getD (i - 1) default)).kind) == 2)) = true → (((decide ((i : Int) > 0)) && !((((l.getD (i - 1) default)).kind) == (((l.getD i default)).kind))) && ((((l.getD (i - 1) default)).kind) == 2)) = true, (((decide ((i : Int) > 0)) && !((((l.getD (i - 1) default)).kind) == (((l.getD i default)).kind))) && ((((l.getD (i - 1) default)).kind) == 2)) = true → (((decide ((i : Int) > 0)) && !((((l.getD (i - 1) default)).kind) == (((l.getD i default)).kind))) && ((((l.getD (i - 1) default)).kind) == 2)) = true, ((decide ((i : Int) > 0)) && !((((l.getD (i - 1) default)).kind) == (((l.getD i default)).kind))) = true → ((decide ((i : Int) > 0)) && !((((l.getD (i - 1) default)).kind) == (((l.getD i default)).kind))) = true, ((decide ((i : Int) > 0)) && !((((l.getD (i - 1) default)).kind) == (((l.getD i default)).kind))) = true → ((((l.getD (i - 1) default)).kind) == 2) = true → (((decide ((i : Int) > 0)) && !((((l.getD (i - 1) default)).kind) == (((l.getD i default)).kind))) && ((((l.getD (i - 1) default)).kind) == 2)) = true, (decide ((i : Int) > 0)) = true → (decide ((i : Int) > 0)) = true, (decide ((i : Int) > 0)) = true → ((((l.getD (i - 1) default)).kind) == (((l.getD i default)).kind)) = false → ((decide ((i : Int) > 0)) && !((((l.getD (i - 1) default)).kind) == (((l.getD i default)).kind))) = true, (decide ((i : Int) > 0)) = true → (decide ((i : Int) > 0)) = true]) (by kernel_rfl) ?_ ?_
        · -- region 9
          refine ⟨?_, (fun hg => nw ?_), ?_, ?_, ?_, (fun hg => (elt_map' ?_ ?_)), ?_, ?_, ?_, ?_, ?_, ?_, ?_, (fun hg => nw ?_), ?_, ?_, ?_, (fun hg => (elt_map' ?_ ?_)), ?_, ?_, ?_, ?_, ?_, ?_, ?_, ?_, ?_, ?_, ?_, trivial⟩
          all_goals (first | omega | with_reducible exact fun h => h | (intro hg hq; rw [hg, hq]; rfl) | (intro hq; rw [hq]; done) | (intro hq; rw [hq]; rfl) | ((try intro hg); (try simp [-List.getD_eq_getElem?_getD] at hg); (try simp only [List.length_map]); first | done | omega | rfl | (simp; done) | (simp; omega) | (simp [hg]; done) | (intro hq; simp [hg, hq]; done) | (intro hq; simp [hg, hq]; omega)))
        refine andThen_normal ?_
        refine Sim.cond (b := (decide ((i : Int) > 0) && (((((l.getD (i - 1) default)).kind) == (((l.getD i default)).kind)) || (((((l.getD (i - 1) default)).kind) == 2) && ((((l.getD i default)).kind) == 1))))) (by kernel_rfl) (fun h9 => ?_) (fun h9 => ?_)
        · (try simp only [decide_eq_true_eq, decide_eq_false_iff_not, Int.not_lt, Int.not_le, gt_iff_lt, Bool.and_eq_true, Bool.and_eq_false_iff, Bool.not_eq_true', Bool.not_eq_false', Bool.or_eq_true, Bool.or_eq_false_iff, beq_iff_eq, beq_eq_false_iff_ne, ne_eq] at h9)
          refine Sim.seq ?_
          refine Sim.reg (orcs := []) (keys := [2]) (τ := []) (nx := 480)
            (sl := [(2, .t (.sc (.int .i64 5)))]) (l := [])
            (C := []) (by kernel_rfl) ?_ ?_
          · -- region 10
            trivial
          refine andThen_normal ?_
          refine Sim.ret ?_
          refine inBlk_ret ?_
          refine andThen_ret ?_
          refine inBlk_ret ?_
          refine andThen_ret ?_
          refine andThen_ret ?_
          refine inBlk_ret ?_
          refine andThen_ret ?_
          refine Fin.mk2 (.inl rfl) (τ := []) (keys := [2]) (nx := 480) (sl := [(2, .t (.sc (.int .i64 5)))]) (l := []) (res' := .t (.sc (.int .i64 5))) (by kernel_rfl) ?_ (by kernel_rfl) ?_
          · -- end 3, objects
            first | done | rfl
          · -- end 3, result
            have e3 : ((checkX l) : Int) = 5 := by
              rw [I3.2.2.2.2.2, chkX]; ((repeat' split) <;> first | rfl | omega | (simp_all; done) | (simp_all; omega))
            show AVal.t (.sc (.int .i64 5)) = .t (.sc (.int .i64 (checkX l)))
            rw [e3]
            try rfl
        · (try simp only [decide_eq_true_eq, decide_eq_false_iff_not, Int.not_lt, Int.not_le, gt_iff_lt, Bool.and_eq_true, Bool.and_eq_false_iff, Bool.not_eq_true', Bool.not_eq_false', Bool.or_eq_true, Bool.or_eq_false_iff, beq_iff_eq, beq_eq_false_iff_ne, ne_eq] at h9)
          refine Sim.skip ?_
          refine inBlk_normal ?_
          refine andThen_normal ?_
          refine Sim.seq ?_
          refine Sim.seq ?_
          refine Sim.reg (orcs := []) (keys := [0, 3, 4, 6, 7, 8, 9, 62]) (τ := [(80, 80)]) (nx := 496)
            (sl := [(0, .t (.lst 2 (List.map stepT l))), (3, .t (.sc (.int .i64 b))), (4, .t (.sc (.int .i64 a))), (6, .ptr 80 0), (7, .t (.lst 2 (List.map stepT l))), (8, .t (.sc (.int .i64 (l.length : Int)))), (9, .t (.sc (.int .i64 (i : Int)))), (62, .t (.sc (.bool ((((l.getD i default)).kind) != 1))))]) (l := [(80, .box [.t (.sc (.int .i64 (((l.getD i default)).kind))), .t (.sc (.int .i64 (((l.getD i default)).n)))])])
            (C := []) (by kernel_rfl) ?_ ?_
          · -- region 11
            trivial
          refine andThen_normal ?_
          refine Sim.cond (b := ((((l.getD i default)).kind) != 1)) (by kernel_rfl) (fun h11 => ?_) (fun h11 => ?_)
          · (try simp only [bne_iff_ne, bne_eq_false_iff_eq, ne_eq] at h11)
            refine Sim.reg (orcs := [(3, ⟨some (.t (.sc (.int .i64 (b + (((l.getD i default)).n))))), none, none, none⟩), (4, ⟨some (.t (.sc (.int .i64 (min (b + (((l.getD i default)).n)) 2147483648)))), none, none, none⟩)]) (keys := [0, 3, 4, 6, 7, 8, 9]) (τ := [(80, 80)]) (nx := 544)
              (sl := [(0, .t (.lst 2 (List.map stepT l))), (3, .t (.sc (.int .i64 (min (b + (((l.getD i default)).n)) 2147483648)))), (4, .t (.sc (.int .i64 a))), (6, .ptr 80 0), (7, .t (.lst 2 (List.map stepT l))), (8, .t (.sc (.int .i64 (l.length : Int)))), (9, .t (.sc (.int .i64 (i : Int))))]) (l := [(80, .box [.t (.sc (.int .i64 (((l.getD i default)).kind))), .t (.sc (.int .i64 (((l.getD i default)).n)))])])
              (C := [AVal.t (.sc (.int .i64 (b + (((l.getD i default)).n)))) = .t (.sc (.int .i64 (IntKind.i64.wrap (b + (((l.getD i default)).n))))), AVal.t (.sc (.int .i64 (min (b + (((l.getD i default)).n)) 2147483648))) = .t (.sc (.int .i64 (if 2147483648 < (b + (((l.getD i default)).n)) then 2147483648 else (b + (((l.getD i default)).n)))))]) (by kernel_rfl) ?_ ?_
            · -- region 12
              refine ⟨(nw ?_), min_if, trivial⟩
              all_goals (first | omega | with_reducible exact fun h => h | (intro hg hq; rw [hg, hq]; rfl) | (intro hq; rw [hq]; done) | (intro hq; rw [hq]; rfl) | ((try intro hg); (try simp [-List.getD_eq_getElem?_getD] at hg); (try simp only [List.length_map]); first | done | omega | rfl | (simp; done) | (simp; omega) | (simp [hg]; done) | (intro hq; simp [hg, hq]; done) | (intro hq; simp [hg, hq]; omega)))
            refine andThen_normal ?_
            refine Sim.seq ?_
            refine Sim.reg (orcs := []) (keys := [0, 3, 4, 6, 7, 8, 9, 70]) (τ := [(80, 80)]) (nx := 568)
              (sl := [(0, .t (.lst 2 (List.map stepT l))), (3, .t (.sc (.int .i64 (min (b + (((l.getD i default)).n)) 2147483648)))), (4, .t (.sc (.int .i64 a))), (6, .ptr 80 0), (7, .t (.lst 2 (List.map stepT l))), (8, .t (.sc (.int .i64 (l.length : Int)))), (9, .t (.sc (.int .i64 (i : Int)))), (70, .t (.sc (.bool ((((l.getD i default)).kind) != 2))))]) (l := [(80, .box [.t (.sc (.int .i64 (((l.getD i default)).kind))), .t (.sc (.int .i64 (((l.getD i default)).n)))])])
              (C := []) (by kernel_rfl) ?_ ?_
            · -- region 13
              trivial
            refine andThen_normal ?_
            refine Sim.cond (b := ((((l.getD i default)).kind) != 2)) (by kernel_rfl) (fun h13 => ?_) (fun h13 => ?_)
            · (try simp only [bne_iff_ne, bne_eq_false_iff_eq, ne_eq] at h13)
              refine Sim.reg (orcs := [(3, ⟨some (.t (.sc (.int .i64 (a + (((l.getD i default)).n))))), none, none, none⟩), (4, ⟨some (.t (.sc (.int .i64 (min (a + (((l.getD i default)).n)) 2147483648)))), none, none, none⟩)]) (keys := [0, 3, 4, 7, 8, 9]) (τ := []) (nx := 616)
                (sl := [(0, .t (.lst 2 (List.map stepT l))), (3, .t (.sc (.int .i64 (min (b + (((l.getD i default)).n)) 2147483648)))), (4, .t (.sc (.int .i64 (min (a + (((l.getD i default)).n)) 2147483648)))), (7, .t (.lst 2 (List.map stepT l))), (8, .t (.sc (.int .i64 (l.length : Int)))), (9, .t (.sc (.int .i64 (i : Int))))]) (l := [])
                (C := [AVal.t (.sc (.int .i64 (a + (((l.getD i default)).n)))) = .t (.sc (.int .i64 (IntKind.i64.wrap (a + (((l.getD i default)).n))))), AVal.t (.sc (.int .i64 (min (a + (((l.getD i default)).n)) 2147483648))) = .t (.sc (.int .i64 (if 2147483648 < (a + (((l.getD i default)).n)) then 2147483648 else (a + (((l.getD i default)).n)))))]) (by kernel_rfl) ?_ ?_
              · -- region 14
                refine ⟨(nw ?_), min_if, trivial⟩
                all_goals (first | omega | with_reducible exact fun h => h | (intro hg hq; rw [hg, hq]; rfl) | (intro hq; rw [hq]; done) | (intro hq; rw [hq]; rfl) | ((try intro hg); (try simp [-List.getD_eq_getElem?_getD] at hg); (try simp only [List.length_map]); first | done | omega | rfl | (simp; done) | (simp; omega) | (simp [hg]; done) | (intro hq; simp [hg, hq]; done) | (intro hq; simp [hg, hq]; omega)))
              refine inBlk_normal ?_
              refine andThen_normal ?_
              refine Sim.reg (orcs := [(0, ⟨some (.t (.sc (.int .i64 ((i : Int) + 1)))), none, none, none⟩)]) (keys := [0, 3, 4, 7, 8, 9]) (τ := []) (nx := 632)
                (sl := [(0, .t (.lst 2 (List.map stepT l))), (3, .t (.sc (.int .i64 (min (b + (((l.getD i default)).n)) 2147483648)))), (4, .t (.sc (.int .i64 (min (a + (((l.getD i default)).n)) 2147483648)))), (7, .t (.lst 2 (List.map stepT l))), (8, .t (.sc (.int .i64 (l.length : Int)))), (9, .t (.sc (.int .i64 ((i : Int) + 1))))]) (l := [])
                (C := [AVal.t (.sc (.int .i64 ((i : Int) + 1))) = .t (.sc (.int .i64 (IntKind.i64.wrap ((i : Int) + 1))))]) (by kernel_rfl) ?_ ?_
              · -- region 15
                refine ⟨(nw ?_), trivial⟩
                all_goals (first | omega | with_reducible exact fun h => h | (intro hg hq; rw [hg, hq]; rfl) | (intro hq; rw [hq]; done) | (intro hq; rw [hq]; rfl) | ((try intro hg); (try simp [-List.getD_eq_getElem?_getD] at hg); (try simp only [List.length_map]); first | done | omega | rfl | (simp; done) | (simp; omega) | (simp [hg]; done) | (intro hq; simp [hg, hq]; done) | (intro hq; simp [hg, hq]; omega)))
              refine andThen_normal ?_
              refine LoopSim.weaken (Le.ren (τ := []) (keys := [0, 3, 4, 7, 8, 9]) (nx := 48) (sl := [(0, .t (.lst 2 (List.map stepT l))), (3, .t (.sc (.int .i64 (min (b + (((l.getD i default)).n)) 2147483648)))), (4, .t (.sc (.int .i64 (min (a + (((l.getD i default)).n)) 2147483648)))), (7, .t (.lst 2 (List.map stepT l))), (8, .t (.sc (.int .i64 (l.length : Int)))), (9, .t (.sc (.int .i64 (((i + 1) : Nat) : Int))))]) (l := []) (by kernel_rfl)) ?_
              refine ih3 ((min (b + (((l.getD i default)).n)) 2147483648), (min (a + (((l.getD i default)).n)) 2147483648), (i + 1)) ?_ ?_
              · -- back 3.1, invariant
                refine ⟨by omega, by omega, by omega, by omega, by omega, ?_⟩; rw [I3.2.2.2.2.2, chkX]; ((repeat' split) <;> first | rfl | omega | (simp_all; done) | (simp_all; omega))
              · -- back 3.1, measure
                show (_:Nat) < _; (first | omega | with_reducible exact fun h => h | (intro hq; rw [hq]; done) | (intro hq; rw [hq]; rfl) | (simp only [List.length_map]; done) | (simp only [List.length_map]; omega) | (simp; omega) | (simp; done))
            · (try simp only [bne_iff_ne, bne_eq_false_iff_eq, ne_eq] at h13)
              refine Sim.skip ?_
              refine inBlk_normal ?_
              refine andThen_normal ?_
              refine Sim.reg (orcs := [(0, ⟨some (.t (.sc (.int .i64 ((i : Int) + 1)))), none, none, none⟩)]) (keys := [0, 3, 4, 7, 8, 9]) (τ := []) (nx := 584)
                (sl := [(0, .t (.lst 2 (List.map stepT l))), (3, .t (.sc (.int .i64 (min (b + (((l.getD i default)).n)) 2147483648)))), (4, .t (.sc (.int .i64 a))), (7, .t (.lst 2 (List.map stepT l))), (8, .t (.sc (.int .i64 (l.length : Int)))), (9, .t (.sc (.int .i64 ((i : Int) + 1))))]) (l := [])
                (C := [AVal.t (.sc (.int .i64 ((i : Int) + 1))) = .t (.sc (.int .i64 (IntKind.i64.wrap ((i : Int) + 1))))]) (by kernel_rfl) ?_ ?_
              · -- region 15
                refine ⟨(nw ?_), trivial⟩
                all_goals (first | omega | with_reducible exact fun h => h | (intro hg hq; rw [hg, hq]; rfl) | (intro hq; rw [hq]; done) | (intro hq; rw [hq]; rfl) | ((try intro hg); (try simp [-List.getD_eq_getElem?_getD] at hg); (try simp only [List.length_map]); first | done | omega | rfl | (simp; done) | (simp; omega) | (simp [hg]; done) | (intro hq; simp [hg, hq]; done) | (intro hq; simp [hg, hq]; omega)))
              refine andThen_normal ?_
              refine LoopSim.weaken (Le.ren (τ := []) (keys := [0, 3, 4, 7, 8, 9]) (nx := 48) (sl := [(0, .t (.lst 2 (List.map stepT l))), (3, .t (.sc (.int .i64 (min (b + (((l.getD i default)).n)) 2147483648)))), (4, .t (.sc (.int .i64 a))), (7, .t (.lst 2 (List.map stepT l))), (8, .t (.sc (.int .i64 (l.length : Int)))), (9, .t (.sc (.int .i64 (((i + 1) : Nat) : Int))))]) (l := []) (by kernel_rfl)) ?_
              refine ih3 ((min (b + (((l.getD i default)).n)) 2147483648), a, (i + 1)) ?_ ?_
              · -- back 3.2, invariant
                refine ⟨by omega, by omega, by omega, by omega, by omega, ?_⟩; rw [I3.2.2.2.2.2, chkX]; ((repeat' split) <;> first | rfl | omega | (simp_all; done) | (simp_all; omega))
              · -- back 3.2, measure
                show (_:Nat) < _; (first | omega | with_reducible exact fun h => h | (intro hq; rw [hq]; done) | (intro hq; rw [hq]; rfl) | (simp only [List.length_map]; done) | (simp only [List.length_map]; omega) | (simp; omega) | (simp; done))
          · (try simp only [bne_iff_ne, bne_eq_false_iff_eq, ne_eq] at h11)
            refine Sim.skip ?_
            refine andThen_normal ?_
            refine Sim.seq ?_
            refine Sim.reg (orcs := []) (keys := [0, 3, 4, 6, 7, 8, 9, 70]) (τ := [(80, 80)]) (nx := 520)
              (sl := [(0, .t (.lst 2 (List.map stepT l))), (3, .t (.sc (.int .i64 b))), (4, .t (.sc (.int .i64 a))), (6, .ptr 80 0), (7, .t (.lst 2 (List.map stepT l))), (8, .t (.sc (.int .i64 (l.length : Int)))), (9, .t (.sc (.int .i64 (i : Int)))), (70, .t (.sc (.bool ((((l.getD i default)).kind) != 2))))]) (l := [(80, .box [.t (.sc (.int .i64 (((l.getD i default)).kind))), .t (.sc (.int .i64 (((l.getD i default)).n)))])])
              (C := []) (by kernel_rfl) ?_ ?_
            · -- region 13
              trivial
            refine andThen_normal ?_
            refine Sim.cond (b := ((((l.getD i default)).kind) != 2)) (by kernel_rfl) (fun h13 => ?_) (fun h13 => ?_)
            · (try simp only [bne_iff_ne, bne_eq_false_iff_eq, ne_eq] at h13)
              refine Sim.reg (orcs := [(3, ⟨some (.t (.sc (.int .i64 (a + (((l.getD i default)).n))))), none, none, none⟩), (4, ⟨some (.t (.sc (.int .i64 (min (a + (((l.getD i default)).n)) 2147483648)))), none, none, none⟩)]) (keys := [0, 3, 4, 7, 8, 9]) (τ := []) (nx := 568)
                (sl := [(0, .t (.lst 2 (List.map stepT l))), (3, .t (.sc (.int .i64 b))), (4, .t (.sc (.int .i64 (min (a + (((l.getD i default)).n)) 2147483648)))), (7, .t (.lst 2 (List.map stepT l))), (8, .t (.sc (.int .i64 (l.length : Int)))), (9, .t (.sc (.int .i64 (i : Int))))]) (l := [])
                (C := [AVal.t (.sc (.int .i64 (a + (((l.getD i default)).n)))) = .t (.sc (.int .i64 (IntKind.i64.wrap (a + (((l.getD i default)).n))))), AVal.t (.sc (.int .i64 (min (a + (((l.getD i default)).n)) 2147483648))) = .t (.sc (.int .i64 (if 2147483648 < (a + (((l.getD i default)).n)) then 2147483648 else (a + (((l.getD i default)).n)))))]) (by kernel_rfl) ?_ ?_
              · -- region 14
                refine ⟨(nw ?_), min_if, trivial⟩
                all_goals (first | omega | with_reducible exact fun h => h | (intro hg hq; rw [hg, hq]; rfl) | (intro hq; rw [hq]; done) | (intro hq; rw [hq]; rfl) | ((try intro hg); (try simp [-List.getD_eq_getElem?_getD] at hg); (try simp only [List.length_map]); first | done | omega | rfl | (simp; done) | (simp; omega) | (simp [hg]; done) | (intro hq; simp [hg, hq]; done) | (intro hq; simp [hg, hq]; omega)))
              refine inBlk_normal ?_
              refine andThen_normal ?_
              refine Sim.reg (orcs := [(0, ⟨some (.t (.sc (.int .i64 ((i : Int) + 1)))), none, none, none⟩)]) (keys := [0, 3, 4, 7, 8, 9]) (τ := []) (nx := 584)
                (sl := [(0, .t (.lst 2 (List.map stepT l))), (3, .t (.sc (.int .i64 b))), (4, .t (.sc (.int .i64 (min (a + (((l.getD i default)).n)) 2147483648)))), (7, .t (.lst 2 (List.map stepT l))), (8, .t (.sc (.int .i64 (l.length : Int)))), (9, .t (.sc (.int .i64 ((i : Int) + 1))))]) (l := [])
                (C := [AVal.t (.sc (.int .i64 ((i : Int) + 1))) = .t (.sc (.int .i64 (IntKind.i64.wrap ((i : Int) + 1))))]) (by kernel_rfl) ?_ ?_
              · -- region 15
                refine ⟨(nw ?_), trivial⟩
                all_goals (first | omega | with_reducible exact fun h => h | (intro hg hq; rw [hg, hq]; rfl) | (intro hq; rw [hq]; done) | (intro hq; rw [hq]; rfl) | ((try intro hg); (try simp [-List.getD_eq_getElem?_getD] at hg); (try simp only [List.length_map]); first | done | omega | rfl | (simp; done) | (simp; omega) | (simp [hg]; done) | (intro hq; simp [hg, hq]; done) | (intro hq; simp [hg, hq]; omega)))
              refine andThen_normal ?_
              refine LoopSim.weaken (Le.ren (τ := []) (keys := [0, 3, 4, 7, 8, 9]) (nx := 48) (sl := [(0, .t (.lst 2 (List.map stepT l))), (3, .t (.sc (.int .i64 b))), (4, .t (.sc (.int .i64 (min (a + (((l.getD i default)).n)) 2147483648)))), (7, .t (.lst 2 (List.map stepT l))), (8, .t (.sc (.int .i64 (l.length : Int)))), (9, .t (.sc (.int .i64 (((i + 1) : Nat) : Int))))]) (l := []) (by kernel_rfl)) ?_
              refine ih3 (b, (min (a + (((l.getD i default)).n)) 2147483648), (i + 1)) ?_ ?_
              · -- back 3.3, invariant
                refine ⟨by omega, by omega, by omega, by omega, by omega, ?_⟩; rw [I3.2.2.2.2.2, chkX]; ((repeat' split) <;> first | rfl | omega | (simp_all; done) | (simp_all; omega))
              · -- back 3.3, measure
                show (_:Nat) < _; (first | omega | with_reducible exact fun h => h | (intro hq; rw [hq]; done) | (intro hq; rw [hq]; rfl) | (simp only [List.length_map]; done) | (simp only [List.length_map]; omega) | (simp; omega) | (simp; done))
            · (try simp only [bne_iff_ne, bne_eq_false_iff_eq, ne_eq] at h13)
              refine Sim.skip ?_
              refine inBlk_normal ?_
              refine andThen_normal ?_
              refine Sim.reg (orcs := [(0, ⟨some (.t (.sc (.int .i64 ((i : Int) + 1)))), none, none, none⟩)]) (keys := [0, 3, 4, 7, 8, 9]) (τ := []) (nx := 536)
                (sl := [(0, .t (.lst 2 (List.map stepT l))), (3, .t (.sc (.int .i64 b))), (4, .t (.sc (.int .i64 a))), (7, .t (.lst 2 (List.map stepT l))), (8, .t (.sc (.int .i64 (l.length : Int)))), (9, .t (.sc (.int .i64 ((i : Int) + 1))))]) (l := [])
                (C := [AVal.t (.sc (.int .i64 ((i : Int) + 1))) = .t (.sc (.int .i64 (IntKind.i64.wrap ((i : Int) + 1))))]) (by kernel_rfl) ?_ ?_
              · -- region 15
                refine ⟨(nw ?_), trivial⟩
                all_goals (first | omega | with_reducible exact fun h => h | (intro hg hq; rw [hg, hq]; rfl) | (intro hq; rw [hq]; done) | (intro hq; rw [hq]; rfl) | ((try intro hg); (try simp [-List.getD_eq_getElem?_getD] at hg); (try simp only [List.length_map]); first | done | omega | rfl | (simp; done) | (simp; omega) | (simp [hg]; done) | (intro hq; simp [hg, hq]; done) | (intro hq; simp [hg, hq]; omega)))
              refine andThen_normal ?_
              refine LoopSim.weaken (Le.ren (τ := []) (keys := [0, 3, 4, 7, 8, 9]) (nx := 48) (sl := [(0, .t (.lst 2 (List.map stepT l))), (3, .t (.sc (.int .i64 b))), (4, .t (.sc (.int .i64 a))), (7, .t (.lst 2 (List.map stepT l))), (8, .t (.sc (.int .i64 (l.length : Int)))), (9, .t (.sc (.int .i64 (((i + 1) : Nat) : Int))))]) (l := []) (by kernel_rfl)) ?_
              refine ih3 (b, a, (i + 1)) ?_ ?_
              · -- back 3.4, invariant
                refine ⟨by omega, by omega, by omega, by omega, by omega, ?_⟩; rw [I3.2.2.2.2.2, chkX]; ((repeat' split) <;> first | rfl | omega | (simp_all; done) | (simp_all; omega))
              · -- back 3.4, measure
                show (_:Nat) < _; (first | omega | with_reducible exact fun h => h | (intro hq; rw [hq]; done) | (intro hq; rw [hq]; rfl) | (simp only [List.length_map]; done) | (simp only [List.length_map]; omega) | (simp; omega) | (simp; done))
  · (try simp only [decide_eq_true_eq, decide_eq_false_iff_not, Int.not_lt, Int.not_le] at h3)
    refine Sim.exit ?_
    refine andThen_exit ?_
    refine andThen_exit ?_
    refine inBlk_same ?_
    refine andThen_normal ?_
    refine Sim.seq ?_
    refine Sim.seq ?_
    refine Sim.reg (orcs := []) (keys := [82]) (τ := []) (nx := 104)
      (sl := [(82, .t (.sc (.bool (decide (b > 2147483647) || decide (a > 2147483647)))))]) (l := [])
      (C := [(!(decide (b > 2147483647))) = true → (!(decide (b > 2147483647))) = true, (decide (b > 2147483647)) = false → (!(decide (b > 2147483647))) = true]) (by kernel_rfl) ?_ ?_
    · -- region 16
      refine ⟨?_, ?_, trivial⟩
      all_goals (first | omega | with_reducible exact fun h => h | (intro hg hq; rw [hg, hq]; rfl) | (intro hq; rw [hq]; done) | (intro hq; rw [hq]; rfl) | ((try intro hg); (try simp [-List.getD_eq_getElem?_getD] at hg); (try simp only [List.length_map]); first | done | omega | rfl | (simp; done) | (simp; omega) | (simp [hg]; done) | (intro hq; simp [hg, hq]; done) | (intro hq; simp [hg, hq]; omega)))
    refine andThen_normal ?_
    refine Sim.cond (b := (decide (b > 2147483647) || decide (a > 2147483647))) (by kernel_rfl) (fun h16 => ?_) (fun h16 => ?_)
    · (try simp only [decide_eq_true_eq, decide_eq_false_iff_not, Int.not_lt, Int.not_le, gt_iff_lt, Bool.or_eq_true, Bool.or_eq_false_iff] at h16)
      refine Sim.seq ?_
      refine Sim.reg (orcs := []) (keys := [2]) (τ := []) (nx := 112)
        (sl := [(2, .t (.sc (.int .i64 3)))]) (l := [])
        (C := []) (by kernel_rfl) ?_ ?_
      · -- region 17
        trivial
      refine andThen_normal ?_
      refine Sim.ret ?_
      refine andThen_ret ?_
      refine Fin.mk2 (.inl rfl) (τ := []) (keys := [2]) (nx := 112) (sl := [(2, .t (.sc (.int .i64 3)))]) (l := []) (res' := .t (.sc (.int .i64 3))) (by kernel_rfl) ?_ (by kernel_rfl) ?_
      · -- end 4, objects
        first | done | rfl
      · -- end 4, result
        have e4 : ((checkX l) : Int) = 3 := by
          rw [I3.2.2.2.2.2, chkX]; ((repeat' split) <;> first | rfl | omega | (simp_all; done) | (simp_all; omega))
        show AVal.t (.sc (.int .i64 3)) = .t (.sc (.int .i64 (checkX l)))
        rw [e4]
        try rfl
    · (try simp only [decide_eq_true_eq, decide_eq_false_iff_not, Int.not_lt, Int.not_le, gt_iff_lt, Bool.or_eq_true, Bool.or_eq_false_iff] at h16)
      refine Sim.skip ?_
      refine andThen_normal ?_
      refine Sim.seq ?_
      refine Sim.reg (orcs := []) (keys := [2]) (τ := []) (nx := 112)
        (sl := [(2, .t (.sc (.int .i64 0)))]) (l := [])
        (C := []) (by kernel_rfl) ?_ ?_
      · -- region 18
        trivial
      refine andThen_normal ?_
      refine Sim.ret ?_
      refine Fin.mk2 (.inl rfl) (τ := []) (keys := [2]) (nx := 112) (sl := [(2, .t (.sc (.int .i64 0)))]) (l := []) (res' := .t (.sc (.int .i64 0))) (by kernel_rfl) ?_ (by kernel_rfl) ?_
      · -- end 5, objects
        first | done | rfl
      · -- end 5, result
        have e5 : ((checkX l) : Int) = 0 := by
          rw [I3.2.2.2.2.2, chkX]; ((repeat' split) <;> first | rfl | omega | (simp_all; done) | (simp_all; omega))
        show AVal.t (.sc (.int .i64 0)) = .t (.sc (.int .i64 (checkX l)))
        rw [e5]
        try rfl

theorem ex_at {l : List AxStep} {i : Nat} (h : i < l.length) : ex (l.drop i) = rep (l.getD i default).n.toNat (uOf (l.getD i default).kind) ++ ex (l.drop (i + 1)) := by rw [drop_ats h]; rfl
def oldI (l : List AxStep) : Int := (oldU (ex l) : Int)
def newI (l : List AxStep) : Int := (newU (ex l) : Int)
theorem lens_step {l : List AxStep} {i : Nat} (h : i < l.length) (hf : Form l) : (oldU (ex (l.drop i)) : Int) = (if (l.getD i default).kind = 1 then 0 else (l.getD i default).n) + oldU (ex (l.drop (i + 1))) ∧
    (newU (ex (l.drop i)) : Int) = (if (l.getD i default).kind = 2 then 0 else (l.getD i default).n) + newU (ex (l.drop (i + 1))) ∧ 1 ≤ (l.getD i default).n ∧ 0 ≤ (l.getD i default).kind ∧ (l.getD i default).kind ≤ 2 := by
  have h1 := ((at_of_form hf) i (Nat.zero_le _) h).1
  have hn : ((l.getD i default).n.toNat : Int) = (l.getD i default).n := Int.toNat_of_nonneg (by have := h1.2.2; omega)
  rw [ex_at h, old_rep, new_rep, hn]
  exact ⟨rfl, rfl, h1.2.2, h1.1, h1.2.1⟩
theorem ex_end {l : List AxStep} {i : Nat} (h : l.length ≤ i) : ex (l.drop i) = [] := by rw [List.drop_eq_nil_of_le h]; rfl

theorem fc_axLens (l : List AxStep) (hv : Valid l) : FC Try.prog 90 [.t (.lst 2 (List.map stepT l))] (app emp []) (.tup [.t (.sc (.int .i64 (oldI l))), .t (.sc (.int .i64 (newI l)))]) (app emp []) := by
  refine FC.of_sim (fn := Try.f90) (nx := 0) (by kernel_rfl) rfl (by kernel_rfl) rfl ?_
  show Sim _ _ _ _ ⟨[(0, .t (.lst 2 (List.map stepT l)))], app emp [], 0⟩ _
  refine Sim.len (t := 0) (k := 2) rfl (fun hl0 => ?_)
  rw [List.length_map] at hl0
  refine Sim.seq ?_
  refine Sim.reg (orcs := []) (keys := [0]) (τ := []) (nx := 16)
    (sl := [(0, .t (.lst 2 (List.map stepT l)))]) (l := [])
    (C := []) (by kernel_rfl) ?_ ?_
  · -- region 0
    trivial
  refine andThen_normal ?_
  refine Sim.seq ?_
  refine Sim.reg (orcs := []) (keys := [0, 4, 5]) (τ := []) (nx := 32)
    (sl := [(0, .t (.lst 2 (List.map stepT l))), (4, .t (.sc (.int .i64 0))), (5, .t (.sc (.int .i64 0)))]) (l := [])
    (C := []) (by kernel_rfl) ?_ ?_
  · -- region 1
    trivial
  refine andThen_normal ?_
  refine Sim.seq ?_
  refine Sim.seq ?_
  refine Sim.reg (orcs := [(1, ⟨some (.t (.sc (.int .i64 (l.length : Int)))), none, none, none⟩)]) (keys := [4, 5, 8, 9, 10]) (τ := []) (nx := 56)
    (sl := [(4, .t (.sc (.int .i64 0))), (5, .t (.sc (.int .i64 0))), (8, .t (.lst 2 (List.map stepT l))), (9, .t (.sc (.int .i64 (l.length : Int)))), (10, .t (.sc (.int .i64 0)))]) (l := [])
    (C := [AVal.t (.sc (.int .i64 (l.length : Int))) = .t (.sc (.int .i64 ((List.map stepT l).length : Int)))]) (by kernel_rfl) ?_ ?_
  · -- region 2
    exact ⟨len_map, trivial⟩
  refine andThen_normal ?_
  refine Sim.block ?_
  refine Sim.weaken (Le.ren (τ := []) (keys := [4, 5, 8, 9, 10]) (nx := 56) (sl := [(4, .t (.sc (.int .i64 0))), (5, .t (.sc (.int .i64 0))), (8, .t (.lst 2 (List.map stepT l))), (9, .t (.sc (.int .i64 (l.length : Int)))), (10, .t (.sc (.int .i64 ((0 : Nat) : Int))))]) (l := []) (by kernel_rfl)) ?_
  refine Sim.loop ?_
  refine loop_ind (α := Int × Int × Nat) (fun (b, a, i) => ⟨[(4, .t (.sc (.int .i64 b))), (5, .t (.sc (.int .i64 a))), (8, .t (.lst 2 (List.map stepT l))), (9, .t (.sc (.int .i64 (l.length : Int)))), (10, .t (.sc (.int .i64 (i : Int))))], app emp [], 56⟩) (fun (b, a, i) => i ≤ l.length ∧ 0 ≤ b ∧ 0 ≤ a ∧ oldI l = b + oldU (ex (l.drop i)) ∧ newI l = a + newU (ex (l.drop i))) (fun (b, a, i) => l.length - i) ?_ (0, 0, 0) ?_
  rotate_left
  · -- loop 3, start
    exact ⟨by omega, by decide, by decide, by simp [oldI], by simp [newI]⟩
  rintro ⟨b, a, i⟩ I3 ih3
  show LoopSim _ _ _ _ ⟨[(4, .t (.sc (.int .i64 b))), (5, .t (.sc (.int .i64 a))), (8, .t (.lst 2 (List.map stepT l))), (9, .t (.sc (.int .i64 (l.length : Int)))), (10, .t (.sc (.int .i64 (i : Int))))], app emp [], 56⟩ _
  replace I3 : i ≤ l.length ∧ 0 ≤ b ∧ 0 ≤ a ∧ oldI l = b + oldU (ex (l.drop i)) ∧ newI l = a + newU (ex (l.drop i)) := I3
  have hv1 : oldI l ≤ 2147483647 := by have := hv.2.1; unfold oldI; omega
  have hv2 : newI l ≤ 2147483647 := by have := hv.2.2; unfold newI; omega
  refine LoopSim.step ?_
  refine Sim.seq ?_
  refine Sim.reg (orcs := []) (keys := [4, 5, 8, 9, 10, 11]) (τ := []) (nx := 64)
    (sl := [(4, .t (.sc (.int .i64 b))), (5, .t (.sc (.int .i64 a))), (8, .t (.lst 2 (List.map stepT l))), (9, .t (.sc (.int .i64 (l.length : Int)))), (10, .t (.sc (.int .i64 (i : Int)))), (11, .t (.sc (.bool (decide ((i : Int) < (l.length : Int))))))]) (l := [])
    (C := []) (by kernel_rfl) ?_ ?_
  · -- region 3
    trivial
  refine andThen_normal ?_
  refine Sim.seq ?_
  refine Sim.cond (b := decide ((i : Int) < (l.length : Int))) (by kernel_rfl) (fun h3 => ?_) (fun h3 => ?_)
  · (try simp only [decide_eq_true_eq, decide_eq_false_iff_not, Int.not_lt, Int.not_le] at h3)
    refine Sim.skip ?_
    refine andThen_normal ?_
    refine Sim.seq ?_
    refine Sim.block ?_
    refine Sim.seq ?_
    refine Sim.reg (orcs := [(0, ⟨none, none, some (stepT (l.getD i default)), none⟩)]) (keys := [4, 5, 7, 8, 9, 10]) (τ := [(80, 80)]) (nx := 96)
      (sl := [(4, .t (.sc (.int .i64 b))), (5, .t (.sc (.int .i64 a))), (7, .ptr 80 0), (8, .t (.lst 2 (List.map stepT l))), (9, .t (.sc (.int .i64 (l.length : Int)))), (10, .t (.sc (.int .i64 (i : Int))))]) (l := [(80, .box [.t (.sc (.int .i64 (((l.getD i default)).kind))), .t (.sc (.int .i64 (((l.getD i default)).n)))])])
      (C := [(0:Int) ≤ (i : Int), (List.map stepT l)[i]? = some (stepT (l.getD i default))]) (by kernel_rfl) ?_ ?_
    · -- region 4
      refine ⟨?_, (elt_nat ?_), trivial⟩
      all_goals (first | omega | with_reducible exact fun h => h | (intro hg hq; rw [hg, hq]; rfl) | (intro hq; rw [hq]; done) | (intro hq; rw [hq]; rfl) | ((try intro hg); (try simp [-List.getD_eq_getElem?_getD] at hg); (try simp only [List.length_map]); first | done | omega | rfl | (simp; done) | (simp; omega) | (simp [hg]; done) | (intro hq; simp [hg, hq]; done) | (intro hq; simp [hg, hq]; omega)))
    refine andThen_normal ?_
    refine Sim.seq ?_
    refine Sim.seq ?_
    have hst := lens_step (l := l) (i := i) (by omega) hv.1
    refine Sim.reg (orcs := []) (keys := [4, 5, 7, 8, 9, 10, 16]) (τ := [(80, 80)]) (nx := 120)
      (sl := [(4, .t (.sc (.int .i64 b))), (5, .t (.sc (.int .i64 a))), (7, .ptr 80 0), (8, .t (.lst 2 (List.map stepT l))), (9, .t (.sc (.int .i64 (l.length : Int)))), (10, .t (.sc (.int .i64 (i : Int)))), (16, .t (.sc (.bool ((((l.getD i default)).kind) != 1))))]) (l := [(80, .box [.t (.sc (.int .i64 (((l.getD i default)).kind))), .t (.sc (.int .i64 (((l.getD i default)).n)))])])
      (C := []) (by kernel_rfl) ?_ ?_
    · -- region 5
      trivial
    refine andThen_normal ?_
    refine Sim.cond (b := ((((l.getD i default)).kind) != 1)) (by kernel_rfl) (fun h5 => ?_) (fun h5 => ?_)
    · (try simp only [bne_iff_ne, bne_eq_false_iff_eq, ne_eq] at h5)
      refine Sim.reg (orcs := [(3, ⟨some (.t (.sc (.int .i64 (b + (((l.getD i default)).n))))), none, none, none⟩)]) (keys := [4, 5, 7, 8, 9, 10]) (τ := [(80, 80)]) (nx := 160)
        (sl := [(4, .t (.sc (.int .i64 (b + (((l.getD i default)).n))))), (5, .t (.sc (.int .i64 a))), (7, .ptr 80 0), (8, .t (.lst 2 (List.map stepT l))), (9, .t (.sc (.int .i64 (l.length : Int)))), (10, .t (.sc (.int .i64 (i : Int))))]) (l := [(80, .box [.t (.sc (.int .i64 (((l.getD i default)).kind))), .t (.sc (.int .i64 (((l.getD i default)).n)))])])
        (C := [AVal.t (.sc (.int .i64 (b + (((l.getD i default)).n)))) = .t (.sc (.int .i64 (IntKind.i64.wrap (b + (((l.getD i default)).n)))))]) (by kernel_rfl) ?_ ?_
      · -- region 6
        refine ⟨(nw ?_), trivial⟩
        all_goals (first | omega | with_reducible exact fun h => h | (intro hg hq; rw [hg, hq]; rfl) | (intro hq; rw [hq]; done) | (intro hq; rw [hq]; rfl) | ((try intro hg); (try simp [-List.getD_eq_getElem?_getD] at hg); (try simp only [List.length_map]); first | done | omega | rfl | (simp; done) | (simp; omega) | (simp [hg]; done) | (intro hq; simp [hg, hq]; done) | (intro hq; simp [hg, hq]; omega)))
      refine andThen_normal ?_
      refine Sim.seq ?_
      refine Sim.reg (orcs := []) (keys := [4, 5, 7, 8, 9, 10, 23]) (τ := [(80, 80)]) (nx := 184)
        (sl := [(4, .t (.sc (.int .i64 (b + (((l.getD i default)).n))))), (5, .t (.sc (.int .i64 a))), (7, .ptr 80 0), (8, .t (.lst 2 (List.map stepT l))), (9, .t (.sc (.int .i64 (l.length : Int)))), (10, .t (.sc (.int .i64 (i : Int)))), (23, .t (.sc (.bool ((((l.getD i default)).kind) != 2))))]) (l := [(80, .box [.t (.sc (.int .i64 (((l.getD i default)).kind))), .t (.sc (.int .i64 (((l.getD i default)).n)))])])
        (C := []) (by kernel_rfl) ?_ ?_
      · -- region 7
        trivial
      refine andThen_normal ?_
      refine Sim.cond (b := ((((l.getD i default)).kind) != 2)) (by kernel_rfl) (fun h7 => ?_) (fun h7 => ?_)
      · (try simp only [bne_iff_ne, bne_eq_false_iff_eq, ne_eq] at h7)
        refine Sim.reg (orcs := [(3, ⟨some (.t (.sc (.int .i64 (a + (((l.getD i default)).n))))), none, none, none⟩)]) (keys := [4, 5, 8, 9, 10]) (τ := []) (nx := 224)
          (sl := [(4, .t (.sc (.int .i64 (b + (((l.getD i default)).n))))), (5, .t (.sc (.int .i64 (a + (((l.getD i default)).n))))), (8, .t (.lst 2 (List.map stepT l))), (9, .t (.sc (.int .i64 (l.length : Int)))), (10, .t (.sc (.int .i64 (i : Int))))]) (l := [])
          (C := [AVal.t (.sc (.int .i64 (a + (((l.getD i default)).n)))) = .t (.sc (.int .i64 (IntKind.i64.wrap (a + (((l.getD i default)).n)))))]) (by kernel_rfl) ?_ ?_
        · -- region 8
          refine ⟨(nw ?_), trivial⟩
          all_goals (first | omega | with_reducible exact fun h => h | (intro hg hq; rw [hg, hq]; rfl) | (intro hq; rw [hq]; done) | (intro hq; rw [hq]; rfl) | ((try intro hg); (try simp [-List.getD_eq_getElem?_getD] at hg); (try simp only [List.length_map]); first | done | omega | rfl | (simp; done) | (simp; omega) | (simp [hg]; done) | (intro hq; simp [hg, hq]; done) | (intro hq; simp [hg, hq]; omega)))
        refine inBlk_normal ?_
        refine andThen_normal ?_
        refine Sim.reg (orcs := [(0, ⟨some (.t (.sc (.int .i64 ((i : Int) + 1)))), none, none, none⟩)]) (keys := [4, 5, 8, 9, 10]) (τ := []) (nx := 240)
          (sl := [(4, .t (.sc (.int .i64 (b + (((l.getD i default)).n))))), (5, .t (.sc (.int .i64 (a + (((l.getD i default)).n))))), (8, .t (.lst 2 (List.map stepT l))), (9, .t (.sc (.int .i64 (l.length : Int)))), (10, .t (.sc (.int .i64 ((i : Int) + 1))))]) (l := [])
          (C := [AVal.t (.sc (.int .i64 ((i : Int) + 1))) = .t (.sc (.int .i64 (IntKind.i64.wrap ((i : Int) + 1))))]) (by kernel_rfl) ?_ ?_
        · -- region 9
          refine ⟨(nw ?_), trivial⟩
          all_goals (first | omega | with_reducible exact fun h => h | (intro hg hq; rw [hg, hq]; rfl) | (intro hq; rw [hq]; done) | (intro hq; rw [hq]; rfl) | ((try intro hg); (try simp [-List.getD_eq_getElem?_getD] at hg); (try simp only [List.length_map]); first | done | omega | rfl | (simp; done) | (simp; omega) | (simp [hg]; done) | (intro hq; simp [hg, hq]; done) | (intro hq; simp [hg, hq]; omega)))
        refine andThen_normal ?_
        refine LoopSim.weaken (Le.ren (τ := []) (keys := [4, 5, 8, 9, 10]) (nx := 56) (sl := [(4, .t (.sc (.int .i64 (b + (((l.getD i default)).n))))), (5, .t (.sc (.int .i64 (a + (((l.getD i default)).n))))), (8, .t (.lst 2 (List.map stepT l))), (9, .t (.sc (.int .i64 (l.length : Int)))), (10, .t (.sc (.int .i64 (((i + 1) : Nat) : Int))))]) (l := []) (by kernel_rfl)) ?_
        refine ih3 ((b + (((l.getD i default)).n)), (a + (((l.getD i default)).n)), (i + 1)) ?_ ?_
        · -- back 3.1, invariant
          obtain ⟨s1, s2, s3, s4, s5⟩ := hst
          first | rw [if_pos (by omega)] at s1 | rw [if_neg (by omega)] at s1
          first | rw [if_pos (by omega)] at s2 | rw [if_neg (by omega)] at s2
          refine ⟨by omega, by omega, by omega, by omega, by omega⟩
        · -- back 3.1, measure
          show (_:Nat) < _; (first | omega | with_reducible exact fun h => h | (intro hq; rw [hq]; done) | (intro hq; rw [hq]; rfl) | (simp only [List.length_map]; done) | (simp only [List.length_map]; omega) | (simp; omega) | (simp; done))
      · (try simp only [bne_iff_ne, bne_eq_false_iff_eq, ne_eq] at h7)
        refine Sim.skip ?_
        refine inBlk_normal ?_
        refine andThen_normal ?_
        refine Sim.reg (orcs := [(0, ⟨some (.t (.sc (.int .i64 ((i : Int) + 1)))), none, none, none⟩)]) (keys := [4, 5, 8, 9, 10]) (τ := []) (nx := 200)
          (sl := [(4, .t (.sc (.int .i64 (b + (((l.getD i default)).n))))), (5, .t (.sc (.int .i64 a))), (8, .t (.lst 2 (List.map stepT l))), (9, .t (.sc (.int .i64 (l.length : Int)))), (10, .t (.sc (.int .i64 ((i : Int) + 1))))]) (l := [])
          (C := [AVal.t (.sc (.int .i64 ((i : Int) + 1))) = .t (.sc (.int .i64 (IntKind.i64.wrap ((i : Int) + 1))))]) (by kernel_rfl) ?_ ?_
        · -- region 9
          refine ⟨(nw ?_), trivial⟩
          all_goals (first | omega | with_reducible exact fun h => h | (intro hg hq; rw [hg, hq]; rfl) | (intro hq; rw [hq]; done) | (intro hq; rw [hq]; rfl) | ((try intro hg); (try simp [-List.getD_eq_getElem?_getD] at hg); (try simp only [List.length_map]); first | done | omega | rfl | (simp; done) | (simp; omega) | (simp [hg]; done) | (intro hq; simp [hg, hq]; done) | (intro hq; simp [hg, hq]; omega)))
        refine andThen_normal ?_
        refine LoopSim.weaken (Le.ren (τ := []) (keys := [4, 5, 8, 9, 10]) (nx := 56) (sl := [(4, .t (.sc (.int .i64 (b + (((l.getD i default)).n))))), (5, .t (.sc (.int .i64 a))), (8, .t (.lst 2 (List.map stepT l))), (9, .t (.sc (.int .i64 (l.length : Int)))), (10, .t (.sc (.int .i64 (((i + 1) : Nat) : Int))))]) (l := []) (by kernel_rfl)) ?_
        refine ih3 ((b + (((l.getD i default)).n)), a, (i + 1)) ?_ ?_
        · -- back 3.2, invariant
          obtain ⟨s1, s2, s3, s4, s5⟩ := hst
          first | rw [if_pos (by omega)] at s1 | rw [if_neg (by omega)] at s1
          first | rw [if_pos (by omega)] at s2 | rw [if_neg (by omega)] at s2
          refine ⟨by omega, by omega, by omega, by omega, by omega⟩
        · -- back 3.2, measure
          show (_:Nat) < _; (first | omega | with_reducible exact fun h => h | (intro hq; rw [hq]; done) | (intro hq; rw [hq]; rfl) | (simp only [List.length_map]; done) | (simp only [List.length_map]; omega) | (simp; omega) | (simp; done))
    · (try simp only [bne_iff_ne, bne_eq_false_iff_eq, ne_eq] at h5)
      refine Sim.skip ?_
      refine andThen_normal ?_
      refine Sim.seq ?_
      refine Sim.reg (orcs := []) (keys := [4, 5, 7, 8, 9, 10, 23]) (τ := [(80, 80)]) (nx := 144)
        (sl := [(4, .t (.sc (.int .i64 b))), (5, .t (.sc (.int .i64 a))), (7, .ptr 80 0), (8, .t (.lst 2 (List.map stepT l))), (9, .t (.sc (.int .i64 (l.length : Int)))), (10, .t (.sc (.int .i64 (i : Int)))), (23, .t (.sc (.bool ((((l.getD i default)).kind) != 2))))]) (l := [(80, .box [.t (.sc (.int .i64 (((l.getD i default)).kind))), .t (.sc (.int .i64 (((l.getD i default)).n)))])])
        (C := []) (by kernel_rfl) ?_ ?_
      · -- region 7
        trivial
      refine andThen_normal ?_
      refine Sim.cond (b := ((((l.getD i default)).kind) != 2)) (by kernel_rfl) (fun h7 => ?_) (fun h7 => ?_)
      · (try simp only [bne_iff_ne, bne_eq_false_iff_eq, ne_eq] at h7)
        refine Sim.reg (orcs := [(3, ⟨some (.t (.sc (.int .i64 (a + (((l.getD i default)).n))))), none, none, none⟩)]) (keys := [4, 5, 8, 9, 10]) (τ := []) (nx := 184)
          (sl := [(4, .t (.sc (.int .i64 b))), (5, .t (.sc (.int .i64 (a + (((l.getD i default)).n))))), (8, .t (.lst 2 (List.map stepT l))), (9, .t (.sc (.int .i64 (l.length : Int)))), (10, .t (.sc (.int .i64 (i : Int))))]) (l := [])
          (C := [AVal.t (.sc (.int .i64 (a + (((l.getD i default)).n)))) = .t (.sc (.int .i64 (IntKind.i64.wrap (a + (((l.getD i default)).n)))))]) (by kernel_rfl) ?_ ?_
        · -- region 8
          refine ⟨(nw ?_), trivial⟩
          all_goals (first | omega | with_reducible exact fun h => h | (intro hg hq; rw [hg, hq]; rfl) | (intro hq; rw [hq]; done) | (intro hq; rw [hq]; rfl) | ((try intro hg); (try simp [-List.getD_eq_getElem?_getD] at hg); (try simp only [List.length_map]); first | done | omega | rfl | (simp; done) | (simp; omega) | (simp [hg]; done) | (intro hq; simp [hg, hq]; done) | (intro hq; simp [hg, hq]; omega)))
        refine inBlk_normal ?_
        refine andThen_normal ?_
        refine Sim.reg (orcs := [(0, ⟨some (.t (.sc (.int .i64 ((i : Int) + 1)))), none, none, none⟩)]) (keys := [4, 5, 8, 9, 10]) (τ := []) (nx := 200)
          (sl := [(4, .t (.sc (.int .i64 b))), (5, .t (.sc (.int .i64 (a + (((l.getD i default)).n))))), (8, .t (.lst 2 (List.map stepT l))), (9, .t (.sc (.int .i64 (l.length : Int)))), (10, .t (.sc (.int .i64 ((i : Int) + 1))))]) (l := [])
          (C := [AVal.t (.sc (.int .i64 ((i : Int) + 1))) = .t (.sc (.int .i64 (IntKind.i64.wrap ((i : Int) + 1))))]) (by kernel_rfl) ?_ ?_
        · -- region 9
          refine ⟨(nw ?_), trivial⟩
          all_goals (first | omega | with_reducible exact fun h => h | (intro hg hq; rw [hg, hq]; rfl) | (intro hq; rw [hq]; done) | (intro hq; rw [hq]; rfl) | ((try intro hg); (try simp [-List.getD_eq_getElem?_getD] at hg); (try simp only [List.length_map]); first | done | omega | rfl | (simp; done) | (simp; omega) | (simp [hg]; done) | (intro hq; simp [hg, hq]; done) | (intro hq; simp [hg, hq]; omega)))
        refine andThen_normal ?_
        refine LoopSim.weaken (Le.ren (τ := []) (keys := [4, 5, 8, 9, 10]) (nx := 56) (sl := [(4, .t (.sc (.int .i64 b))), (5, .t (.sc (.int .i64 (a + (((l.getD i default)).n))))), (8, .t (.lst 2 (List.map stepT l))), (9, .t (.sc (.int .i64 (l.length : Int)))), (10, .t (.sc (.int .i64 (((i + 1) : Nat) : Int))))]) (l := []) (by kernel_rfl)) ?_
        refine ih3 (b, (a + (((l.getD i default)).n)), (i + 1)) ?_ ?_
        · -- back 3.3, invariant
          obtain ⟨s1, s2, s3, s4, s5⟩ := hst
          first | rw [if_pos (by omega)] at s1 | rw [if_neg (by omega)] at s1
          first | rw [if_pos (by omega)] at s2 | rw [if_neg (by omega)] at s2
          refine ⟨by omega, by omega, by omega, by omega, by omega⟩
        · -- back 3.3, measure
          show (_:Nat) < _; (first | omega | with_reducible exact fun h => h | (intro hq; rw [hq]; done) | (intro hq; rw [hq]; rfl) | (simp only [List.length_map]; done) | (simp only [List.length_map]; omega) | (simp; omega) | (simp; done))
      · (try simp only [bne_iff_ne, bne_eq_false_iff_eq, ne_eq] at h7)
        refine Sim.skip ?_
        refine inBlk_normal ?_
        refine andThen_normal ?_
        refine Sim.reg (orcs := [(0, ⟨some (.t (.sc (.int .i64 ((i : Int) + 1)))), none, none, none⟩)]) (keys := [4, 5, 8, 9, 10]) (τ := []) (nx := 160)
          (sl := [(4, .t (.sc (.int .i64 b))), (5, .t (.sc (.int .i64 a))), (8, .t (.lst 2 (List.map stepT l))), (9, .t (.sc (.int .i64 (l.length : Int)))), (10, .t (.sc (.int .i64 ((i : Int) + 1))))]) (l := [])
          (C := [AVal.t (.sc (.int .i64 ((i : Int) + 1))) = .t (.sc (.int .i64 (IntKind.i64.wrap ((i : Int) + 1))))]) (by kernel_rfl) ?_ ?_
        · -- region 9
          refine ⟨(nw ?_), trivial⟩
          all_goals (first | omega | with_reducible exact fun h => h | (intro hg hq; rw [hg, hq]; rfl) | (intro hq; rw [hq]; done) | (intro hq; rw [hq]; rfl) | ((try intro hg); (try simp [-List.getD_eq_getElem?_getD] at hg); (try simp only [List.length_map]); first | done | omega | rfl | (simp; done) | (simp; omega) | (simp [hg]; done) | (intro hq; simp [hg, hq]; done) | (intro hq; simp [hg, hq]; omega)))
        refine andThen_normal ?_
        refine LoopSim.weaken (Le.ren (τ := []) (keys := [4, 5, 8, 9, 10]) (nx := 56) (sl := [(4, .t (.sc (.int .i64 b))), (5, .t (.sc (.int .i64 a))), (8, .t (.lst 2 (List.map stepT l))), (9, .t (.sc (.int .i64 (l.length : Int)))), (10, .t (.sc (.int .i64 (((i + 1) : Nat) : Int))))]) (l := []) (by kernel_rfl)) ?_
        refine ih3 (b, a, (i + 1)) ?_ ?_
        · -- back 3.4, invariant
          obtain ⟨s1, s2, s3, s4, s5⟩ := hst
          first | rw [if_pos (by omega)] at s1 | rw [if_neg (by omega)] at s1
          first | rw [if_pos (by omega)] at s2 | rw [if_neg (by omega)] at s2
          refine ⟨by omega, by omega, by omega, by omega, by omega⟩
        · -- back 3.4, measure
          show (_:Nat) < _; (first | omega | with_reducible exact fun h => h | (intro hq; rw [hq]; done) | (intro hq; rw [hq]; rfl) | (simp only [List.length_map]; done) | (simp only [List.length_map]; omega) | (simp; omega) | (simp; done))
  · (try simp only [decide_eq_true_eq, decide_eq_false_iff_not, Int.not_lt, Int.not_le] at h3)
    refine Sim.exit ?_
    refine andThen_exit ?_
    refine andThen_exit ?_
    refine inBlk_same ?_
    refine andThen_normal ?_
    refine Sim.seq ?_
    refine Sim.reg (orcs := []) (keys := [2, 3]) (τ := []) (nx := 96)
      (sl := [(2, .t (.sc (.int .i64 b))), (3, .t (.sc (.int .i64 a)))]) (l := [])
      (C := []) (by kernel_rfl) ?_ ?_
    · -- region 10
      trivial
    refine andThen_normal ?_
    refine Sim.ret ?_
    refine Fin.mk2 (.inl rfl) (τ := []) (keys := [2, 3]) (nx := 96) (sl := [(2, .t (.sc (.int .i64 b))), (3, .t (.sc (.int .i64 a)))]) (l := []) (res' := .tup [.t (.sc (.int .i64 b)), .t (.sc (.int .i64 a))]) (by kernel_rfl) ?_ (by kernel_rfl) ?_
    · -- end 1, objects
      first | done | rfl
    · -- end 1, result
      have e1 : ((oldI l) : Int) = b := by
        have := ex_end (l := l) (i := i) (by omega)
        rw [this] at I3
        have i1 := I3.2.2.2.1
        have i2 := I3.2.2.2.2
        simp only [oldU, newU] at i1 i2
        omega
      have e2 : ((newI l) : Int) = a := by
        have := ex_end (l := l) (i := i) (by omega)
        rw [this] at I3
        have i1 := I3.2.2.2.1
        have i2 := I3.2.2.2.2
        simp only [oldU, newU] at i1 i2
        omega
      show AVal.tup [.t (.sc (.int .i64 b)), .t (.sc (.int .i64 a))] = .tup [.t (.sc (.int .i64 (oldI l))), .t (.sc (.int .i64 (newI l)))]
      rw [e1, e2]
      try rfl

theorem fc_axLengths (l : List AxStep) (hv : Valid l) : FC Try.prog 38 [.t (.lst 2 (List.map stepT l))] (app emp []) (.tup [.t (.sc (.int .i64 (oldI l))), .t (.sc (.int .i64 (newI l))), .t (.sc (.int .i64 0))]) (app emp []) := by
  refine FC.of_sim (fn := Try.f38) (nx := 0) (by kernel_rfl) rfl (by kernel_rfl) rfl ?_
  show Sim _ _ _ _ ⟨[(0, .t (.lst 2 (List.map stepT l)))], app emp [], 0⟩ _
  refine Sim.len (t := 0) (k := 2) rfl (fun hl0 => ?_)
  rw [List.length_map] at hl0
  have hc := check_iff.2 hv
  refine Sim.seq ?_
  refine Sim.reg (orcs := []) (keys := [0]) (τ := []) (nx := 24)
    (sl := [(0, .t (.lst 2 (List.map stepT l)))]) (l := [])
    (C := []) (by kernel_rfl) ?_ ?_
  · -- region 0
    trivial
  refine andThen_normal ?_
  refine Sim.seq ?_
  refine Sim.seq ?_
  refine Sim.reg (orcs := [(1, ⟨none, none, none, some (⟨0, [], .t (.sc (.int .i64 (checkX l))), []⟩)⟩)]) (keys := [0, 5]) (τ := []) (nx := 48)
    (sl := [(0, .t (.lst 2 (List.map stepT l))), (5, .t (.sc (.int .i64 (checkX l))))]) (l := [])
    (C := [callable Try.prog 89 = true, FC Try.prog 89 [.t (.lst 2 (List.map stepT l))] emp (.t (.sc (.int .i64 (checkX l)))) emp]) (by kernel_rfl) ?_ ?_
  · -- region 1
    exact ⟨(by kernel_rfl), (fc_axCheck l), trivial⟩
  refine andThen_normal ?_
  refine Sim.seq ?_
  refine Sim.reg (orcs := []) (keys := [0, 5, 11]) (τ := []) (nx := 64)
    (sl := [(0, .t (.lst 2 (List.map stepT l))), (5, .t (.sc (.int .i64 (checkX l)))), (11, .t (.sc (.bool ((checkX l) != 0))))]) (l := [])
    (C := []) (by kernel_rfl) ?_ ?_
  · -- region 2
    trivial
  refine andThen_normal ?_
  refine Sim.cond (b := ((checkX l) != 0)) (by kernel_rfl) (fun h2 => ?_) (fun h2 => ?_)
  · (try simp only [bne_iff_ne, bne_eq_false_iff_eq, ne_eq] at h2)
    exfalso
    omega
  · (try simp only [bne_iff_ne, bne_eq_false_iff_eq, ne_eq] at h2)
    refine Sim.skip ?_
    refine andThen_normal ?_
    refine Sim.seq ?_
    refine Sim.reg (orcs := [(1, ⟨none, none, none, some (⟨0, [], .tup [.t (.sc (.int .i64 (oldI l))), .t (.sc (.int .i64 (newI l)))], []⟩)⟩)]) (keys := [6, 7]) (τ := []) (nx := 120)
      (sl := [(6, .t (.sc (.int .i64 (oldI l)))), (7, .t (.sc (.int .i64 (newI l))))]) (l := [])
      (C := [callable Try.prog 90 = true, FC Try.prog 90 [.t (.lst 2 (List.map stepT l))] emp (.tup [.t (.sc (.int .i64 (oldI l))), .t (.sc (.int .i64 (newI l)))]) emp]) (by kernel_rfl) ?_ ?_
    · -- region 4
      exact ⟨(by kernel_rfl), (fc_axLens l (by assumption)), trivial⟩
    refine andThen_normal ?_
    refine Sim.seq ?_
    refine Sim.reg (orcs := []) (keys := [2, 3, 4]) (τ := []) (nx := 160)
      (sl := [(2, .t (.sc (.int .i64 (oldI l)))), (3, .t (.sc (.int .i64 (newI l)))), (4, .t (.sc (.int .i64 0)))]) (l := [])
      (C := []) (by kernel_rfl) ?_ ?_
    · -- region 5
      trivial
    refine andThen_normal ?_
    refine Sim.ret ?_
    refine Fin.mk2 (.inl rfl) (τ := []) (keys := [2, 3, 4]) (nx := 160) (sl := [(2, .t (.sc (.int .i64 (oldI l)))), (3, .t (.sc (.int .i64 (newI l)))), (4, .t (.sc (.int .i64 0)))]) (l := []) (res' := .tup [.t (.sc (.int .i64 (oldI l))), .t (.sc (.int .i64 (newI l))), .t (.sc (.int .i64 0))]) (by kernel_rfl) ?_ (by kernel_rfl) ?_
    · -- end 1, objects
      first | done | rfl
    · -- end 1, result
      first | done | rfl

def sameX (a b : List AxStep) (i : Nat) : Bool :=
  if i < a.length then (if (a.getD i default).kind = (b.getD i default).kind ∧ (a.getD i default).n = (b.getD i default).n then sameX a b (i + 1) else false) else true
termination_by a.length - i
def sameS (a b : List AxStep) : Bool := decide (a.length = b.length) && sameX a b 0
theorem sameX_self (a : List AxStep) : ∀ (n i : Nat), a.length - i = n → sameX a a i = true
  | 0, i, h => by rw [sameX, if_neg (by omega)]
  | n + 1, i, h => by
    have hi : i < a.length := by omega
    rw [sameX, if_pos hi, if_pos ⟨rfl, rfl⟩, sameX_self a n (i + 1) (by omega)]
theorem sameS_self (a : List AxStep) : sameS a a = true := by unfold sameS; rw [sameX_self a _ 0 rfl]; simp

theorem fc_sameSteps (a b : List AxStep) : FC Try.prog 41 [.t (.lst 2 (List.map stepT a)), .t (.lst 2 (List.map stepT b))] (app emp []) (.t (.sc (.bool (sameS a b)))) (app emp []) := by
  refine FC.of_sim (fn := Try.f41) (nx := 0) (by kernel_rfl) rfl (by kernel_rfl) rfl ?_
  show Sim _ _ _ _ ⟨[(0, .t (.lst 2 (List.map stepT a))), (1, .t (.lst 2 (List.map stepT b)))], app emp [], 0⟩ _
  refine Sim.len (t := 0) (k := 2) rfl (fun hl0 => ?_)
  rw [List.length_map] at hl0
  refine Sim.len (t := 1) (k := 2) rfl (fun hl1 => ?_)
  rw [List.length_map] at hl1
  refine Sim.seq ?_
  refine Sim.reg (orcs := []) (keys := [0, 1]) (τ := []) (nx := 8)
    (sl := [(0, .t (.lst 2 (List.map stepT a))), (1, .t (.lst 2 (List.map stepT b)))]) (l := [])
    (C := []) (by kernel_rfl) ?_ ?_
  · -- region 0
    trivial
  refine andThen_normal ?_
  refine Sim.seq ?_
  refine Sim.seq ?_
  refine Sim.reg (orcs := [(1, ⟨some (.t (.sc (.int .i64 (a.length : Int)))), none, none, none⟩), (3, ⟨some (.t (.sc (.int .i64 (b.length : Int)))), none, none, none⟩)]) (keys := [0, 1, 10]) (τ := []) (nx := 48)
    (sl := [(0, .t (.lst 2 (List.map stepT a))), (1, .t (.lst 2 (List.map stepT b))), (10, .t (.sc (.bool ((a.length : Int) != (b.length : Int)))))]) (l := [])
    (C := [AVal.t (.sc (.int .i64 (a.length : Int))) = .t (.sc (.int .i64 ((List.map stepT a).length : Int))), AVal.t (.sc (.int .i64 (b.length : Int))) = .t (.sc (.int .i64 ((List.map stepT b).length : Int)))]) (by kernel_rfl) ?_ ?_
  · -- region 1
    exact ⟨len_map, len_map, trivial⟩
  refine andThen_normal ?_
  refine Sim.cond (b := ((a.length : Int) != (b.length : Int))) (by kernel_rfl) (fun h1 => ?_) (fun h1 => ?_)
  · (try simp only [bne_iff_ne, bne_eq_false_iff_eq, ne_eq] at h1)
    refine Sim.seq ?_
    refine Sim.reg (orcs := []) (keys := [4]) (τ := []) (nx := 56)
      (sl := [(4, .t (.sc (.bool false)))]) (l := [])
      (C := []) (by kernel_rfl) ?_ ?_
    · -- region 2
      trivial
    refine andThen_normal ?_
    refine Sim.ret ?_
    refine andThen_ret ?_
    refine Fin.mk2 (.inl rfl) (τ := []) (keys := [4]) (nx := 56) (sl := [(4, .t (.sc (.bool false)))]) (l := []) (res' := .t (.sc (.bool false))) (by kernel_rfl) ?_ (by kernel_rfl) ?_
    · -- end 1, objects
      first | done | rfl
    · -- end 1, result
      have e1 : ((sameS a b) : Bool) = false := by
        unfold sameS; rw [decide_eq_false (by omega)]; rfl
      show AVal.t (.sc (.bool false)) = .t (.sc (.bool (sameS a b)))
      rw [e1]
      try rfl
  · (try simp only [bne_iff_ne, bne_eq_false_iff_eq, ne_eq] at h1)
    refine Sim.skip ?_
    refine andThen_normal ?_
    refine Sim.seq ?_
    refine Sim.seq ?_
    refine Sim.reg (orcs := [(1, ⟨some (.t (.sc (.int .i64 (a.length : Int)))), none, none, none⟩)]) (keys := [0, 1, 12, 13]) (τ := []) (nx := 72)
      (sl := [(0, .t (.lst 2 (List.map stepT a))), (1, .t (.lst 2 (List.map stepT b))), (12, .t (.sc (.int .i64 (a.length : Int)))), (13, .t (.sc (.int .i64 0)))]) (l := [])
      (C := [AVal.t (.sc (.int .i64 (a.length : Int))) = .t (.sc (.int .i64 ((List.map stepT a).length : Int)))]) (by kernel_rfl) ?_ ?_
    · -- region 3
      exact ⟨len_map, trivial⟩
    refine andThen_normal ?_
    refine Sim.block ?_
    refine Sim.weaken (Le.ren (τ := []) (keys := [0, 1, 12, 13]) (nx := 72) (sl := [(0, .t (.lst 2 (List.map stepT a))), (1, .t (.lst 2 (List.map stepT b))), (12, .t (.sc (.int .i64 (a.length : Int)))), (13, .t (.sc (.int .i64 ((0 : Nat) : Int))))]) (l := []) (by kernel_rfl)) ?_
    refine Sim.loop ?_
    refine loop_ind (α := Nat) (fun i => ⟨[(0, .t (.lst 2 (List.map stepT a))), (1, .t (.lst 2 (List.map stepT b))), (12, .t (.sc (.int .i64 (a.length : Int)))), (13, .t (.sc (.int .i64 (i : Int))))], app emp [], 72⟩) (fun i => i ≤ a.length ∧ sameX a b 0 = sameX a b i) (fun i => a.length - i) ?_ (0 : Nat) ?_
    rotate_left
    · -- loop 4, start
      exact ⟨by omega, rfl⟩
    rintro i I4 ih4
    show LoopSim _ _ _ _ ⟨[(0, .t (.lst 2 (List.map stepT a))), (1, .t (.lst 2 (List.map stepT b))), (12, .t (.sc (.int .i64 (a.length : Int)))), (13, .t (.sc (.int .i64 (i : Int))))], app emp [], 72⟩ _
    replace I4 : i ≤ a.length ∧ sameX a b 0 = sameX a b i := I4
    refine LoopSim.step ?_
    refine Sim.seq ?_
    refine Sim.reg (orcs := []) (keys := [0, 1, 12, 13, 14]) (τ := []) (nx := 80)
      (sl := [(0, .t (.lst 2 (List.map stepT a))), (1, .t (.lst 2 (List.map stepT b))), (12, .t (.sc (.int .i64 (a.length : Int)))), (13, .t (.sc (.int .i64 (i : Int)))), (14, .t (.sc (.bool (decide ((i : Int) < (a.length : Int))))))]) (l := [])
      (C := []) (by kernel_rfl) ?_ ?_
    · -- region 4
      trivial
    refine andThen_normal ?_
    refine Sim.seq ?_
    refine Sim.cond (b := decide ((i : Int) < (a.length : Int))) (by kernel_rfl) (fun h4 => ?_) (fun h4 => ?_)
    · (try simp only [decide_eq_true_eq, decide_eq_false_iff_not, Int.not_lt, Int.not_le] at h4)
      refine Sim.skip ?_
      refine andThen_normal ?_
      refine Sim.seq ?_
      refine Sim.block ?_
      refine Sim.seq ?_
      refine Sim.reg (orcs := []) (keys := [0, 1, 5, 12, 13]) (τ := []) (nx := 96)
        (sl := [(0, .t (.lst 2 (List.map stepT a))), (1, .t (.lst 2 (List.map stepT b))), (5, .t (.sc (.int .i64 (i : Int)))), (12, .t (.sc (.int .i64 (a.length : Int)))), (13, .t (.sc (.int .i64 (i : Int))))]) (l := [])
        (C := []) (by kernel_rfl) ?_ ?_
      · -- region 5
        trivial
      refine andThen_normal ?_
      refine Sim.seq ?_
      refine Sim.regD (by kernel_rfl) (orcs := [(2, ⟨none, none, some (stepT (a.getD i default)), none⟩), (6, ⟨none, none, some (stepT (b.getD i default)), none⟩)]) (keys := [0, 1, 12, 13, 24]) (τ := []) (nx := 168)
        (sl := [(0, .t (.lst 2 (List.map stepT a))), (1, .t (.lst 2 (List.map stepT b))), (12, .t (.sc (.int .i64 (a.length : Int)))), (13, .t (.sc (.int .i64 (i : Int)))), (24, .t (.sc (.bool (!((((a.getD i default)).kind) == (((b.getD i default)).kind) && ((((a.getD i default)).n) == (((b.getD i default)).n) && true))))))]) (l := [])
        (C := [(0:Int) ≤ (i : Int), (List.map stepT a)[i]? = some (stepT (a.getD i default)), (0:Int) ≤ (i : Int), (List.map stepT b)[i]? = some (stepT (b.getD i default))]) (by kernel_rfl) ?_ ?_
      · -- region 6
        refine ⟨?_, (elt_nat ?_), ?_, (elt_nat ?_), trivial⟩
        all_goals (first | omega | with_reducible exact fun h => h | (intro hg hq; rw [hg, hq]; rfl) | (intro hq; rw [hq]; done) | (intro hq; rw [hq]; rfl) | ((try intro hg); (try simp [-List.getD_eq_getElem?_getD] at hg); (try simp only [List.length_map]); first | done | omega | rfl | (simp; done) | (simp; omega) | (simp [hg]; done) | (intro hq; simp [hg, hq]; done) | (intro hq; simp [hg, hq]; omega)))
      refine andThen_normal ?_
      refine Sim.cond (b := !((((a.getD i default)).kind) == (((b.getD i default)).kind) && ((((a.getD i default)).n) == (((b.getD i default)).n) && true))) (by kernel_rfl) (fun h6 => ?_) (fun h6 => ?_)
      · (try simp only [Bool.not_eq_true', Bool.not_eq_false', Bool.and_eq_true, Bool.and_eq_false_iff, beq_iff_eq, beq_eq_false_iff_ne, ne_eq] at h6)
        refine Sim.seq ?_
        refine Sim.reg (orcs := []) (keys := [4]) (τ := []) (nx := 176)
          (sl := [(4, .t (.sc (.bool false)))]) (l := [])
          (C := []) (by kernel_rfl) ?_ ?_
        · -- region 7
          trivial
        refine andThen_normal ?_
        refine Sim.ret ?_
        refine inBlk_ret ?_
        refine andThen_ret ?_
        refine andThen_ret ?_
        refine inBlk_ret ?_
        refine andThen_ret ?_
        refine Fin.mk2 (.inl rfl) (τ := []) (keys := [4]) (nx := 176) (sl := [(4, .t (.sc (.bool false)))]) (l := []) (res' := .t (.sc (.bool false))) (by kernel_rfl) ?_ (by kernel_rfl) ?_
        · -- end 2, objects
          first | done | rfl
        · -- end 2, result
          have e2 : ((sameS a b) : Bool) = false := by
            unfold sameS; rw [I4.2, sameX, if_pos (by omega), if_neg (by clear ih4; rintro ⟨q1, q2⟩; rcases h6 with q | q | q; exact q q1; exact q q2; cases q)]; simp
          show AVal.t (.sc (.bool false)) = .t (.sc (.bool (sameS a b)))
          rw [e2]
          try rfl
      · (try simp only [Bool.not_eq_true', Bool.not_eq_false', Bool.and_eq_true, Bool.and_eq_false_iff, beq_iff_eq, beq_eq_false_iff_ne, ne_eq] at h6)
        refine Sim.skip ?_
        refine inBlk_normal ?_
        refine andThen_normal ?_
        refine Sim.reg (orcs := [(0, ⟨some (.t (.sc (.int .i64 ((i : Int) + 1)))), none, none, none⟩)]) (keys := [0, 1, 12, 13]) (τ := []) (nx := 184)
          (sl := [(0, .t (.lst 2 (List.map stepT a))), (1, .t (.lst 2 (List.map stepT b))), (12, .t (.sc (.int .i64 (a.length : Int)))), (13, .t (.sc (.int .i64 ((i : Int) + 1))))]) (l := [])
          (C := [AVal.t (.sc (.int .i64 ((i : Int) + 1))) = .t (.sc (.int .i64 (IntKind.i64.wrap ((i : Int) + 1))))]) (by kernel_rfl) ?_ ?_
        · -- region 8
          refine ⟨(nw ?_), trivial⟩
          all_goals (first | omega | with_reducible exact fun h => h | (intro hg hq; rw [hg, hq]; rfl) | (intro hq; rw [hq]; done) | (intro hq; rw [hq]; rfl) | ((try intro hg); (try simp [-List.getD_eq_getElem?_getD] at hg); (try simp only [List.length_map]); first | done | omega | rfl | (simp; done) | (simp; omega) | (simp [hg]; done) | (intro hq; simp [hg, hq]; done) | (intro hq; simp [hg, hq]; omega)))
        refine andThen_normal ?_
        refine LoopSim.weaken (Le.ren (τ := []) (keys := [0, 1, 12, 13]) (nx := 72) (sl := [(0, .t (.lst 2 (List.map stepT a))), (1, .t (.lst 2 (List.map stepT b))), (12, .t (.sc (.int .i64 (a.length : Int)))), (13, .t (.sc (.int .i64 (((i + 1) : Nat) : Int))))]) (l := []) (by kernel_rfl)) ?_
        refine ih4 ((i + 1) : Nat) ?_ ?_
        · -- back 4.1, invariant
          refine ⟨by omega, ?_⟩; rw [I4.2, sameX, if_pos (by omega), if_pos (by clear ih4; simp_all)]
        · -- back 4.1, measure
          show (_:Nat) < _; (first | omega | with_reducible exact fun h => h | (intro hq; rw [hq]; done) | (intro hq; rw [hq]; rfl) | (simp only [List.length_map]; done) | (simp only [List.length_map]; omega) | (simp; omega) | (simp; done))
    · (try simp only [decide_eq_true_eq, decide_eq_false_iff_not, Int.not_lt, Int.not_le] at h4)
      refine Sim.exit ?_
      refine andThen_exit ?_
      refine andThen_exit ?_
      refine inBlk_same ?_
      refine andThen_normal ?_
      refine Sim.seq ?_
      refine Sim.reg (orcs := []) (keys := [4]) (τ := []) (nx := 88)
        (sl := [(4, .t (.sc (.bool true)))]) (l := [])
        (C := []) (by kernel_rfl) ?_ ?_
      · -- region 9
        trivial
      refine andThen_normal ?_
      refine Sim.ret ?_
      refine Fin.mk2 (.inl rfl) (τ := []) (keys := [4]) (nx := 88) (sl := [(4, .t (.sc (.bool true)))]) (l := []) (res' := .t (.sc (.bool true))) (by kernel_rfl) ?_ (by kernel_rfl) ?_
      · -- end 3, objects
        first | done | rfl
      · -- end 3, result
        have e3 : ((sameS a b) : Bool) = true := by
          unfold sameS; rw [I4.2, sameX, if_neg (by omega), decide_eq_true (by omega)]; rfl
        show AVal.t (.sc (.bool true)) = .t (.sc (.bool (sameS a b)))
        rw [e3]
        try rfl

theorem fc_flush (o : List AxStep) (a c : Int) (ho : o.length ≤ 1000000000000) : FC Try.prog 133 [.ptr 0 0] (app emp [(0, .box [.row 1 o.length, .t (.sc (.int .i64 a)), .t (.sc (.int .i64 c))]), (1, .row 2 false (List.map stepT o))]) (.tup []) (app emp [(0, .box [.row 1 ((flushW ⟨o, a, c⟩).length), .t (.sc (.int .i64 0)), .t (.sc (.int .i64 0))]), (1, .row 2 false (List.map stepT (flushW ⟨o, a, c⟩)))]) := by
  refine FC.of_sim (fn := Try.f133) (nx := 2) (by kernel_rfl) rfl (by kernel_rfl) rfl ?_
  show Sim _ _ _ _ ⟨[(0, .ptr 0 0)], app emp [(0, .box [.row 1 o.length, .t (.sc (.int .i64 a)), .t (.sc (.int .i64 c))]), (1, .row 2 false (List.map stepT o))], 2⟩ _
  refine Sim.seq ?_
  refine Sim.seq ?_
  refine Sim.reg (orcs := []) (keys := [0, 6]) (τ := [(0, 0), (1, 1)]) (nx := 42)
    (sl := [(0, .ptr 0 0), (6, .t (.sc (.bool (decide (a > 0)))))]) (l := [(0, .box [.row 1 o.length, .t (.sc (.int .i64 a)), .t (.sc (.int .i64 c))]), (1, .row 2 false (List.map stepT o))])
    (C := []) (by kernel_rfl) ?_ ?_
  · -- region 0
    trivial
  refine andThen_normal ?_
  refine Sim.cond (b := decide (a > 0)) (by kernel_rfl) (fun h0 => ?_) (fun h0 => ?_)
  · (try simp only [decide_eq_true_eq, decide_eq_false_iff_not, Int.not_lt, Int.not_le, gt_iff_lt] at h0)
    refine Sim.regD (by kernel_rfl) (orcs := [(11, ⟨some (.row 1 ((o ++ [({ kind := 1, n := a } : AxStep)]).length)), some ([(1, .row 2 false (List.map stepT (o ++ [({ kind := 1, n := a } : AxStep)])))]), none, none⟩)]) (keys := [0]) (τ := [(0, 0), (1, 1)]) (nx := 162)
      (sl := [(0, .ptr 0 0)]) (l := [(0, .box [.row 1 ((o ++ [({ kind := 1, n := a } : AxStep)]).length), .t (.sc (.int .i64 a)), .t (.sc (.int .i64 c))]), (1, .row 2 false (List.map stepT (o ++ [({ kind := 1, n := a } : AxStep)])))])
      (C := [1 = (List.map stepT [({ kind := 1, n := a } : AxStep)]).length, (o.length : Nat) = (List.map stepT o).length, (o.length : Nat) + (List.map stepT [({ kind := 1, n := a } : AxStep)]).length ≤ 1099511627776, AVal.row 1 ((o ++ [({ kind := 1, n := a } : AxStep)]).length) = .row 1 (o.length + (List.map stepT [({ kind := 1, n := a } : AxStep)]).length), ([(1, .row 2 false (List.map stepT (o ++ [({ kind := 1, n := a } : AxStep)])))] : List (Nat × Ob)) = [(1, .row 2 false (List.map stepT o ++ List.map stepT [({ kind := 1, n := a } : AxStep)]))]]) (by kernel_rfl) ?_ ?_
    · -- region 1
      refine ⟨?_, ?_, ?_, (by simp), (row_append rfl), trivial⟩
      all_goals (first | omega | with_reducible exact fun h => h | (intro hg hq; rw [hg, hq]; rfl) | (intro hq; rw [hq]; done) | (intro hq; rw [hq]; rfl) | ((try intro hg); (try simp [-List.getD_eq_getElem?_getD] at hg); (try simp only [List.length_map]); first | done | omega | rfl | (simp; done) | (simp; omega) | (simp [hg]; done) | (intro hq; simp [hg, hq]; done) | (intro hq; simp [hg, hq]; omega)))
    refine andThen_normal ?_
    refine Sim.seq ?_
    refine Sim.seq ?_
    refine Sim.reg (orcs := []) (keys := [0, 25]) (τ := [(0, 0), (1, 1)]) (nx := 202)
      (sl := [(0, .ptr 0 0), (25, .t (.sc (.bool (decide (c > 0)))))]) (l := [(0, .box [.row 1 ((o ++ [({ kind := 1, n := a } : AxStep)]).length), .t (.sc (.int .i64 a)), .t (.sc (.int .i64 c))]), (1, .row 2 false (List.map stepT (o ++ [({ kind := 1, n := a } : AxStep)])))])
      (C := []) (by kernel_rfl) ?_ ?_
    · -- region 2
      trivial
    refine andThen_normal ?_
    refine Sim.cond (b := decide (c > 0)) (by kernel_rfl) (fun h2 => ?_) (fun h2 => ?_)
    · (try simp only [decide_eq_true_eq, decide_eq_false_iff_not, Int.not_lt, Int.not_le, gt_iff_lt] at h2)
      refine Sim.regD (by kernel_rfl) (orcs := [(11, ⟨some (.row 1 (((o ++ [({ kind := 1, n := a } : AxStep)]) ++ [({ kind := 2, n := c } : AxStep)]).length)), some ([(1, .row 2 false (List.map stepT ((o ++ [({ kind := 1, n := a } : AxStep)]) ++ [({ kind := 2, n := c } : AxStep)])))]), none, none⟩)]) (keys := [0]) (τ := [(0, 0), (1, 1)]) (nx := 322)
        (sl := [(0, .ptr 0 0)]) (l := [(0, .box [.row 1 (((o ++ [({ kind := 1, n := a } : AxStep)]) ++ [({ kind := 2, n := c } : AxStep)]).length), .t (.sc (.int .i64 a)), .t (.sc (.int .i64 c))]), (1, .row 2 false (List.map stepT ((o ++ [({ kind := 1, n := a } : AxStep)]) ++ [({ kind := 2, n := c } : AxStep)])))])
        (C := [1 = (List.map stepT [({ kind := 2, n := c } : AxStep)]).length, (((o ++ [({ kind := 1, n := a } : AxStep)]).length) : Nat) = (List.map stepT (o ++ [({ kind := 1, n := a } : AxStep)])).length, (((o ++ [({ kind := 1, n := a } : AxStep)]).length) : Nat) + (List.map stepT [({ kind := 2, n := c } : AxStep)]).length ≤ 1099511627776, AVal.row 1 (((o ++ [({ kind := 1, n := a } : AxStep)]) ++ [({ kind := 2, n := c } : AxStep)]).length) = .row 1 ((o ++ [({ kind := 1, n := a } : AxStep)]).length + (List.map stepT [({ kind := 2, n := c } : AxStep)]).length), ([(1, .row 2 false (List.map stepT ((o ++ [({ kind := 1, n := a } : AxStep)]) ++ [({ kind := 2, n := c } : AxStep)])))] : List (Nat × Ob)) = [(1, .row 2 false (List.map stepT (o ++ [({ kind := 1, n := a } : AxStep)]) ++ List.map stepT [({ kind := 2, n := c } : AxStep)]))]]) (by kernel_rfl) ?_ ?_
      · -- region 3
        refine ⟨?_, ?_, ?_, (by simp), (row_append rfl), trivial⟩
        all_goals (first | omega | with_reducible exact fun h => h | (intro hg hq; rw [hg, hq]; rfl) | (intro hq; rw [hq]; done) | (intro hq; rw [hq]; rfl) | ((try intro hg); (try simp [-List.getD_eq_getElem?_getD] at hg); (try simp only [List.length_map]); first | done | omega | rfl | (simp; done) | (simp; omega) | (simp [hg]; done) | (intro hq; simp [hg, hq]; done) | (intro hq; simp [hg, hq]; omega)))
      refine andThen_normal ?_
      refine Sim.reg (orcs := []) (keys := []) (τ := [(0, 0), (1, 1)]) (nx := 386)
        (sl := []) (l := [(0, .box [.row 1 (((o ++ [({ kind := 1, n := a } : AxStep)]) ++ [({ kind := 2, n := c } : AxStep)]).length), .t (.sc (.int .i64 0)), .t (.sc (.int .i64 0))]), (1, .row 2 false (List.map stepT ((o ++ [({ kind := 1, n := a } : AxStep)]) ++ [({ kind := 2, n := c } : AxStep)])))])
        (C := []) (by kernel_rfl) ?_ ?_
      · -- region 4
        trivial
      refine Fin.mk2 (.inr rfl) (τ := [(0, 0), (1, 1)]) (keys := []) (nx := 386) (sl := []) (l := [(0, .box [.row 1 (((o ++ [({ kind := 1, n := a } : AxStep)]) ++ [({ kind := 2, n := c } : AxStep)]).length), .t (.sc (.int .i64 0)), .t (.sc (.int .i64 0))]), (1, .row 2 false (List.map stepT ((o ++ [({ kind := 1, n := a } : AxStep)]) ++ [({ kind := 2, n := c } : AxStep)])))]) (res' := .tup []) (by kernel_rfl) ?_ (by kernel_rfl) ?_
      · -- end 1, objects
        have e1 : ((flushW ⟨o, a, c⟩).length : Nat) = ((o ++ [({ kind := 1, n := a } : AxStep)]) ++ [({ kind := 2, n := c } : AxStep)]).length := by
          unfold flushW; simp only; (repeat (first | rw [if_pos (by omega)] | rw [if_neg (by omega)])); try simp
        have e2 : ((flushW ⟨o, a, c⟩)) = ((o ++ [({ kind := 1, n := a } : AxStep)]) ++ [({ kind := 2, n := c } : AxStep)]) := by
          unfold flushW; simp only; (repeat (first | rw [if_pos (by omega)] | rw [if_neg (by omega)])); try simp
        show ([(0, .box [.row 1 (((o ++ [({ kind := 1, n := a } : AxStep)]) ++ [({ kind := 2, n := c } : AxStep)]).length), .t (.sc (.int .i64 0)), .t (.sc (.int .i64 0))]), (1, .row 2 false (List.map stepT ((o ++ [({ kind := 1, n := a } : AxStep)]) ++ [({ kind := 2, n := c } : AxStep)])))] : List (Nat × Ob)) = [(0, .box [.row 1 ((flushW ⟨o, a, c⟩).length), .t (.sc (.int .i64 0)), .t (.sc (.int .i64 0))]), (1, .row 2 false (List.map stepT (flushW ⟨o, a, c⟩)))]
        rw [e1, e2]
        try rfl
      · -- end 1, result
        first | done | rfl
    · (try simp only [decide_eq_true_eq, decide_eq_false_iff_not, Int.not_lt, Int.not_le, gt_iff_lt] at h2)
      refine Sim.skip ?_
      refine andThen_normal ?_
      refine Sim.reg (orcs := []) (keys := []) (τ := [(0, 0), (1, 1)]) (nx := 266)
        (sl := []) (l := [(0, .box [.row 1 ((o ++ [({ kind := 1, n := a } : AxStep)]).length), .t (.sc (.int .i64 0)), .t (.sc (.int .i64 0))]), (1, .row 2 false (List.map stepT (o ++ [({ kind := 1, n := a } : AxStep)])))])
        (C := []) (by kernel_rfl) ?_ ?_
      · -- region 4
        trivial
      refine Fin.mk2 (.inr rfl) (τ := [(0, 0), (1, 1)]) (keys := []) (nx := 266) (sl := []) (l := [(0, .box [.row 1 ((o ++ [({ kind := 1, n := a } : AxStep)]).length), .t (.sc (.int .i64 0)), .t (.sc (.int .i64 0))]), (1, .row 2 false (List.map stepT (o ++ [({ kind := 1, n := a } : AxStep)])))]) (res' := .tup []) (by kernel_rfl) ?_ (by kernel_rfl) ?_
      · -- end 2, objects
        have e3 : ((flushW ⟨o, a, c⟩).length : Nat) = (o ++ [({ kind := 1, n := a } : AxStep)]).length := by
          unfold flushW; simp only; (repeat (first | rw [if_pos (by omega)] | rw [if_neg (by omega)])); try simp
        have e4 : ((flushW ⟨o, a, c⟩)) = (o ++ [({ kind := 1, n := a } : AxStep)]) := by
          unfold flushW; simp only; (repeat (first | rw [if_pos (by omega)] | rw [if_neg (by omega)])); try simp
        show ([(0, .box [.row 1 ((o ++ [({ kind := 1, n := a } : AxStep)]).length), .t (.sc (.int .i64 0)), .t (.sc (.int .i64 0))]), (1, .row 2 false (List.map stepT (o ++ [({ kind := 1, n := a } : AxStep)])))] : List (Nat × Ob)) = [(0, .box [.row 1 ((flushW ⟨o, a, c⟩).length), .t (.sc (.int .i64 0)), .t (.sc (.int .i64 0))]), (1, .row 2 false (List.map stepT (flushW ⟨o, a, c⟩)))]
        rw [e3, e4]
        try rfl
      · -- end 2, result
        first | done | rfl
  · (try simp only [decide_eq_true_eq, decide_eq_false_iff_not, Int.not_lt, Int.not_le, gt_iff_lt] at h0)
    refine Sim.skip ?_
    refine andThen_normal ?_
    refine Sim.seq ?_
    refine Sim.seq ?_
    refine Sim.reg (orcs := []) (keys := [0, 25]) (τ := [(0, 0), (1, 1)]) (nx := 82)
      (sl := [(0, .ptr 0 0), (25, .t (.sc (.bool (decide (c > 0)))))]) (l := [(0, .box [.row 1 o.length, .t (.sc (.int .i64 a)), .t (.sc (.int .i64 c))]), (1, .row 2 false (List.map stepT o))])
      (C := []) (by kernel_rfl) ?_ ?_
    · -- region 2
      trivial
    refine andThen_normal ?_
    refine Sim.cond (b := decide (c > 0)) (by kernel_rfl) (fun h2 => ?_) (fun h2 => ?_)
    · (try simp only [decide_eq_true_eq, decide_eq_false_iff_not, Int.not_lt, Int.not_le, gt_iff_lt] at h2)
      refine Sim.regD (by kernel_rfl) (orcs := [(11, ⟨some (.row 1 ((o ++ [({ kind := 2, n := c } : AxStep)]).length)), some ([(1, .row 2 false (List.map stepT (o ++ [({ kind := 2, n := c } : AxStep)])))]), none, none⟩)]) (keys := [0]) (τ := [(0, 0), (1, 1)]) (nx := 202)
        (sl := [(0, .ptr 0 0)]) (l := [(0, .box [.row 1 ((o ++ [({ kind := 2, n := c } : AxStep)]).length), .t (.sc (.int .i64 a)), .t (.sc (.int .i64 c))]), (1, .row 2 false (List.map stepT (o ++ [({ kind := 2, n := c } : AxStep)])))])
        (C := [1 = (List.map stepT [({ kind := 2, n := c } : AxStep)]).length, (o.length : Nat) = (List.map stepT o).length, (o.length : Nat) + (List.map stepT [({ kind := 2, n := c } : AxStep)]).length ≤ 1099511627776, AVal.row 1 ((o ++ [({ kind := 2, n := c } : AxStep)]).length) = .row 1 (o.length + (List.map stepT [({ kind := 2, n := c } : AxStep)]).length), ([(1, .row 2 false (List.map stepT (o ++ [({ kind := 2, n := c } : AxStep)])))] : List (Nat × Ob)) = [(1, .row 2 false (List.map stepT o ++ List.map stepT [({ kind := 2, n := c } : AxStep)]))]]) (by kernel_rfl) ?_ ?_
      · -- region 3
        refine ⟨?_, ?_, ?_, (by simp), (row_append rfl), trivial⟩
        all_goals (first | omega | with_reducible exact fun h => h | (intro hg hq; rw [hg, hq]; rfl) | (intro hq; rw [hq]; done) | (intro hq; rw [hq]; rfl) | ((try intro hg); (try simp [-List.getD_eq_getElem?_getD] at hg); (try simp only [List.length_map]); first | done | omega | rfl | (simp; done) | (simp; omega) | (simp [hg]; done) | (intro hq; simp [hg, hq]; done) | (intro hq; simp [hg, hq]; omega)))
      refine andThen_normal ?_
      refine Sim.reg (orcs := []) (keys := []) (τ := [(0, 0), (1, 1)]) (nx := 266)
        (sl := []) (l := [(0, .box [.row 1 ((o ++ [({ kind := 2, n := c } : AxStep)]).length), .t (.sc (.int .i64 0)), .t (.sc (.int .i64 0))]), (1, .row 2 false (List.map stepT (o ++ [({ kind := 2, n := c } : AxStep)])))])
        (C := []) (by kernel_rfl) ?_ ?_
      · -- region 4
        trivial
      refine Fin.mk2 (.inr rfl) (τ := [(0, 0), (1, 1)]) (keys := []) (nx := 266) (sl := []) (l := [(0, .box [.row 1 ((o ++ [({ kind := 2, n := c } : AxStep)]).length), .t (.sc (.int .i64 0)), .t (.sc (.int .i64 0))]), (1, .row 2 false (List.map stepT (o ++ [({ kind := 2, n := c } : AxStep)])))]) (res' := .tup []) (by kernel_rfl) ?_ (by kernel_rfl) ?_
      · -- end 3, objects
        have e5 : ((flushW ⟨o, a, c⟩).length : Nat) = (o ++ [({ kind := 2, n := c } : AxStep)]).length := by
          unfold flushW; simp only; (repeat (first | rw [if_pos (by omega)] | rw [if_neg (by omega)])); try simp
        have e6 : ((flushW ⟨o, a, c⟩)) = (o ++ [({ kind := 2, n := c } : AxStep)]) := by
          unfold flushW; simp only; (repeat (first | rw [if_pos (by omega)] | rw [if_neg (by omega)])); try simp
        show ([(0, .box [.row 1 ((o ++ [({ kind := 2, n := c } : AxStep)]).length), .t (.sc (.int .i64 0)), .t (.sc (.int .i64 0))]), (1, .row 2 false (List.map stepT (o ++ [({ kind := 2, n := c } : AxStep)])))] : List (Nat × Ob)) = [(0, .box [.row 1 ((flushW ⟨o, a, c⟩).length), .t (.sc (.int .i64 0)), .t (.sc (.int .i64 0))]), (1, .row 2 false (List.map stepT (flushW ⟨o, a, c⟩)))]
        rw [e5, e6]
        try rfl
      · -- end 3, result
        first | done | rfl
    · (try simp only [decide_eq_true_eq, decide_eq_false_iff_not, Int.not_lt, Int.not_le, gt_iff_lt] at h2)
      refine Sim.skip ?_
      refine andThen_normal ?_
      refine Sim.reg (orcs := []) (keys := []) (τ := [(0, 0), (1, 1)]) (nx := 146)
        (sl := []) (l := [(0, .box [.row 1 o.length, .t (.sc (.int .i64 0)), .t (.sc (.int .i64 0))]), (1, .row 2 false (List.map stepT o))])
        (C := []) (by kernel_rfl) ?_ ?_
      · -- region 4
        trivial
      refine Fin.mk2 (.inr rfl) (τ := [(0, 0), (1, 1)]) (keys := []) (nx := 146) (sl := []) (l := [(0, .box [.row 1 o.length, .t (.sc (.int .i64 0)), .t (.sc (.int .i64 0))]), (1, .row 2 false (List.map stepT o))]) (res' := .tup []) (by kernel_rfl) ?_ (by kernel_rfl) ?_
      · -- end 4, objects
        have e7 : ((flushW ⟨o, a, c⟩).length : Nat) = o.length := by
          unfold flushW; simp only; (repeat (first | rw [if_pos (by omega)] | rw [if_neg (by omega)])); try simp
        have e8 : ((flushW ⟨o, a, c⟩)) = o := by
          unfold flushW; simp only; (repeat (first | rw [if_pos (by omega)] | rw [if_neg (by omega)])); try simp
        show ([(0, .box [.row 1 o.length, .t (.sc (.int .i64 0)), .t (.sc (.int .i64 0))]), (1, .row 2 false (List.map stepT o))] : List (Nat × Ob)) = [(0, .box [.row 1 ((flushW ⟨o, a, c⟩).length), .t (.sc (.int .i64 0)), .t (.sc (.int .i64 0))]), (1, .row 2 false (List.map stepT (flushW ⟨o, a, c⟩)))]
        rw [e7, e8]
        try rfl
      · -- end 4, result
        first | done | rfl

theorem flushW_len (w : Wr) : (flushW w).length ≤ w.out.length + 2 := by
  unfold flushW; simp only [List.length_append]; split <;> split <;> simp
theorem exW_bd {w : Wr} (h : GoodW w) : w.out.length ≤ (exW w).length ∧ w.add ≤ (exW w).length ∧ w.cut ≤ (exW w).length ∧ 0 ≤ w.add ∧ 0 ≤ w.cut := by
  have h1 := ex_len' h.form
  have h2 := h.add
  have h3 := h.cut
  unfold exW
  simp only [List.length_append, List.length_replicate]
  omega
theorem exW_n {w : Wr} (h : GoodW w) {s : AxStep} (hs : s ∈ flushW w) : s.n ≤ (exW w).length := by
  rw [← flushW_ex h]; exact n_le hs
theorem last_mem {l : List AxStep} (h : 0 < l.length) : l.getD (l.length - 1) default ∈ l := by
  rw [show l.getD (l.length - 1) default = l[l.length - 1] by simp [List.getD, List.getElem?_eq_getElem (show l.length - 1 < l.length by omega)]]
  exact List.getElem_mem _

theorem fc_put (o : List AxStep) (a c k n : Int) (hg : GoodW ⟨o, a, c⟩) (hk : 0 ≤ k ∧ k ≤ 2) (hn : 0 ≤ n) (hl : ((exW ⟨o, a, c⟩).length : Int) + n ≤ 100000000000) : FC Try.prog 92 [.ptr 0 0, .t (.sc (.int .i64 k)), .t (.sc (.int .i64 n))] (app emp [(0, .box [.row 1 o.length, .t (.sc (.int .i64 a)), .t (.sc (.int .i64 c))]), (1, .row 2 false (List.map stepT o))]) (.tup []) (app emp [(0, .box [.row 1 (((putW ⟨o, a, c⟩ k n).out).length), .t (.sc (.int .i64 ((putW ⟨o, a, c⟩ k n).add))), .t (.sc (.int .i64 ((putW ⟨o, a, c⟩ k n).cut)))]), (1, .row 2 false (List.map stepT ((putW ⟨o, a, c⟩ k n).out)))]) := by
  refine FC.of_sim (fn := Try.f92) (nx := 2) (by kernel_rfl) rfl (by kernel_rfl) rfl ?_
  show Sim _ _ _ _ ⟨[(0, .ptr 0 0), (1, .t (.sc (.int .i64 k))), (2, .t (.sc (.int .i64 n)))], app emp [(0, .box [.row 1 o.length, .t (.sc (.int .i64 a)), .t (.sc (.int .i64 c))]), (1, .row 2 false (List.map stepT o))], 2⟩ _
  have hb := exW_bd hg
  have hfl := flushW_len ⟨o, a, c⟩
  simp only at hb hfl
  refine Sim.block ?_
  refine Sim.seq ?_
  refine Sim.reg (orcs := []) (keys := [0, 1, 2, 51]) (τ := [(0, 0), (1, 1)]) (nx := 26)
    (sl := [(0, .ptr 0 0), (1, .t (.sc (.int .i64 k))), (2, .t (.sc (.int .i64 n))), (51, .t (.sc (.bool (n == 0))))]) (l := [(0, .box [.row 1 o.length, .t (.sc (.int .i64 a)), .t (.sc (.int .i64 c))]), (1, .row 2 false (List.map stepT o))])
    (C := []) (by kernel_rfl) ?_ ?_
  · -- region 5
    trivial
  refine andThen_normal ?_
  refine Sim.cond (b := (n == 0)) (by kernel_rfl) (fun h5 => ?_) (fun h5 => ?_)
  · (try simp only [beq_iff_eq, beq_eq_false_iff_ne, ne_eq] at h5)
    refine Sim.skip ?_
    refine inBlk_normal ?_
    refine Fin.mk2 (.inr rfl) (τ := [(0, 0), (1, 1)]) (keys := []) (nx := 26) (sl := []) (l := [(0, .box [.row 1 o.length, .t (.sc (.int .i64 a)), .t (.sc (.int .i64 c))]), (1, .row 2 false (List.map stepT o))]) (res' := .tup []) (by kernel_rfl) ?_ (by kernel_rfl) ?_
    · -- end 1, objects
      have e1 : (((putW ⟨o, a, c⟩ k n).out).length : Nat) = o.length := by
        (try unfold putW); (try unfold keepW); ((repeat' split) <;> first | rfl | omega | (simp_all; done) | (simp_all; omega))
      have e2 : ((putW ⟨o, a, c⟩ k n).add : Int) = a := by
        (try unfold putW); (try unfold keepW); ((repeat' split) <;> first | rfl | omega | (simp_all; done) | (simp_all; omega))
      have e3 : ((putW ⟨o, a, c⟩ k n).cut : Int) = c := by
        (try unfold putW); (try unfold keepW); ((repeat' split) <;> first | rfl | omega | (simp_all; done) | (simp_all; omega))
      have e4 : ((putW ⟨o, a, c⟩ k n).out) = o := by
        (try unfold putW); (try unfold keepW); ((repeat' split) <;> first | rfl | omega | (simp_all; done) | (simp_all; omega))
      show ([(0, .box [.row 1 o.length, .t (.sc (.int .i64 a)), .t (.sc (.int .i64 c))]), (1, .row 2 false (List.map stepT o))] : List (Nat × Ob)) = [(0, .box [.row 1 (((putW ⟨o, a, c⟩ k n).out).length), .t (.sc (.int .i64 ((putW ⟨o, a, c⟩ k n).add))), .t (.sc (.int .i64 ((putW ⟨o, a, c⟩ k n).cut)))]), (1, .row 2 false (List.map stepT ((putW ⟨o, a, c⟩ k n).out)))]
      rw [e1, e2, e3, e4]
      try rfl
    · -- end 1, result
      first | done | rfl
  · (try simp only [beq_iff_eq, beq_eq_false_iff_ne, ne_eq] at h5)
    refine Sim.seq ?_
    refine Sim.reg (orcs := []) (keys := [0, 1, 2, 54]) (τ := [(0, 0), (1, 1)]) (nx := 50)
      (sl := [(0, .ptr 0 0), (1, .t (.sc (.int .i64 k))), (2, .t (.sc (.int .i64 n))), (54, .t (.sc (.bool (k == 1))))]) (l := [(0, .box [.row 1 o.length, .t (.sc (.int .i64 a)), .t (.sc (.int .i64 c))]), (1, .row 2 false (List.map stepT o))])
      (C := []) (by kernel_rfl) ?_ ?_
    · -- region 6
      trivial
    refine andThen_normal ?_
    refine Sim.cond (b := (k == 1)) (by kernel_rfl) (fun h6 => ?_) (fun h6 => ?_)
    · (try simp only [beq_iff_eq, beq_eq_false_iff_ne, ne_eq] at h6)
      refine Sim.reg (orcs := [(5, ⟨some (.t (.sc (.int .i64 (a + n)))), none, none, none⟩)]) (keys := []) (τ := [(0, 0), (1, 1)]) (nx := 122)
        (sl := []) (l := [(0, .box [.row 1 o.length, .t (.sc (.int .i64 (a + n))), .t (.sc (.int .i64 c))]), (1, .row 2 false (List.map stepT o))])
        (C := [AVal.t (.sc (.int .i64 (a + n))) = .t (.sc (.int .i64 (IntKind.i64.wrap (a + n))))]) (by kernel_rfl) ?_ ?_
      · -- region 7
        refine ⟨(nw ?_), trivial⟩
        all_goals (first | omega | with_reducible exact fun h => h | (intro hg hq; rw [hg, hq]; rfl) | (intro hq; rw [hq]; done) | (intro hq; rw [hq]; rfl) | ((try intro hg); (try simp [-List.getD_eq_getElem?_getD] at hg); (try simp only [List.length_map]); first | done | omega | rfl | (simp; done) | (simp; omega) | (simp [hg]; done) | (intro hq; simp [hg, hq]; done) | (intro hq; simp [hg, hq]; omega)))
      refine inBlk_normal ?_
      refine Fin.mk2 (.inr rfl) (τ := [(0, 0), (1, 1)]) (keys := []) (nx := 122) (sl := []) (l := [(0, .box [.row 1 o.length, .t (.sc (.int .i64 (a + n))), .t (.sc (.int .i64 c))]), (1, .row 2 false (List.map stepT o))]) (res' := .tup []) (by kernel_rfl) ?_ (by kernel_rfl) ?_
      · -- end 2, objects
        have e5 : (((putW ⟨o, a, c⟩ k n).out).length : Nat) = o.length := by
          (try unfold putW); (try unfold keepW); ((repeat' split) <;> first | rfl | omega | (simp_all; done) | (simp_all; omega))
        have e6 : ((putW ⟨o, a, c⟩ k n).add : Int) = (a + n) := by
          (try unfold putW); (try unfold keepW); ((repeat' split) <;> first | rfl | omega | (simp_all; done) | (simp_all; omega))
        have e7 : ((putW ⟨o, a, c⟩ k n).cut : Int) = c := by
          (try unfold putW); (try unfold keepW); ((repeat' split) <;> first | rfl | omega | (simp_all; done) | (simp_all; omega))
        have e8 : ((putW ⟨o, a, c⟩ k n).out) = o := by
          (try unfold putW); (try unfold keepW); ((repeat' split) <;> first | rfl | omega | (simp_all; done) | (simp_all; omega))
        show ([(0, .box [.row 1 o.length, .t (.sc (.int .i64 (a + n))), .t (.sc (.int .i64 c))]), (1, .row 2 false (List.map stepT o))] : List (Nat × Ob)) = [(0, .box [.row 1 (((putW ⟨o, a, c⟩ k n).out).length), .t (.sc (.int .i64 ((putW ⟨o, a, c⟩ k n).add))), .t (.sc (.int .i64 ((putW ⟨o, a, c⟩ k n).cut)))]), (1, .row 2 false (List.map stepT ((putW ⟨o, a, c⟩ k n).out)))]
        rw [e5, e6, e7, e8]
        try rfl
      · -- end 2, result
        first | done | rfl
    · (try simp only [beq_iff_eq, beq_eq_false_iff_ne, ne_eq] at h6)
      refine Sim.seq ?_
      refine Sim.reg (orcs := []) (keys := [0, 2, 65]) (τ := [(0, 0), (1, 1)]) (nx := 74)
        (sl := [(0, .ptr 0 0), (2, .t (.sc (.int .i64 n))), (65, .t (.sc (.bool (k == 2))))]) (l := [(0, .box [.row 1 o.length, .t (.sc (.int .i64 a)), .t (.sc (.int .i64 c))]), (1, .row 2 false (List.map stepT o))])
        (C := []) (by kernel_rfl) ?_ ?_
      · -- region 8
        trivial
      refine andThen_normal ?_
      refine Sim.cond (b := (k == 2)) (by kernel_rfl) (fun h8 => ?_) (fun h8 => ?_)
      · (try simp only [beq_iff_eq, beq_eq_false_iff_ne, ne_eq] at h8)
        refine Sim.reg (orcs := [(5, ⟨some (.t (.sc (.int .i64 (c + n)))), none, none, none⟩)]) (keys := []) (τ := [(0, 0), (1, 1)]) (nx := 146)
          (sl := []) (l := [(0, .box [.row 1 o.length, .t (.sc (.int .i64 a)), .t (.sc (.int .i64 (c + n)))]), (1, .row 2 false (List.map stepT o))])
          (C := [AVal.t (.sc (.int .i64 (c + n))) = .t (.sc (.int .i64 (IntKind.i64.wrap (c + n))))]) (by kernel_rfl) ?_ ?_
        · -- region 9
          refine ⟨(nw ?_), trivial⟩
          all_goals (first | omega | with_reducible exact fun h => h | (intro hg hq; rw [hg, hq]; rfl) | (intro hq; rw [hq]; done) | (intro hq; rw [hq]; rfl) | ((try intro hg); (try simp [-List.getD_eq_getElem?_getD] at hg); (try simp only [List.length_map]); first | done | omega | rfl | (simp; done) | (simp; omega) | (simp [hg]; done) | (intro hq; simp [hg, hq]; done) | (intro hq; simp [hg, hq]; omega)))
        refine inBlk_normal ?_
        refine Fin.mk2 (.inr rfl) (τ := [(0, 0), (1, 1)]) (keys := []) (nx := 146) (sl := []) (l := [(0, .box [.row 1 o.length, .t (.sc (.int .i64 a)), .t (.sc (.int .i64 (c + n)))]), (1, .row 2 false (List.map stepT o))]) (res' := .tup []) (by kernel_rfl) ?_ (by kernel_rfl) ?_
        · -- end 3, objects
          have e9 : (((putW ⟨o, a, c⟩ k n).out).length : Nat) = o.length := by
            (try unfold putW); (try unfold keepW); ((repeat' split) <;> first | rfl | omega | (simp_all; done) | (simp_all; omega))
          have e10 : ((putW ⟨o, a, c⟩ k n).add : Int) = a := by
            (try unfold putW); (try unfold keepW); ((repeat' split) <;> first | rfl | omega | (simp_all; done) | (simp_all; omega))
          have e11 : ((putW ⟨o, a, c⟩ k n).cut : Int) = (c + n) := by
            (try unfold putW); (try unfold keepW); ((repeat' split) <;> first | rfl | omega | (simp_all; done) | (simp_all; omega))
          have e12 : ((putW ⟨o, a, c⟩ k n).out) = o := by
            (try unfold putW); (try unfold keepW); ((repeat' split) <;> first | rfl | omega | (simp_all; done) | (simp_all; omega))
          show ([(0, .box [.row 1 o.length, .t (.sc (.int .i64 a)), .t (.sc (.int .i64 (c + n)))]), (1, .row 2 false (List.map stepT o))] : List (Nat × Ob)) = [(0, .box [.row 1 (((putW ⟨o, a, c⟩ k n).out).length), .t (.sc (.int .i64 ((putW ⟨o, a, c⟩ k n).add))), .t (.sc (.int .i64 ((putW ⟨o, a, c⟩ k n).cut)))]), (1, .row 2 false (List.map stepT ((putW ⟨o, a, c⟩ k n).out)))]
          rw [e9, e10, e11, e12]
          try rfl
        · -- end 3, result
          first | done | rfl
      · (try simp only [beq_iff_eq, beq_eq_false_iff_ne, ne_eq] at h8)
        refine Sim.seq ?_
        refine Sim.reg (orcs := [(1, ⟨none, none, none, some (⟨2, [0, 1], .tup [], [(0, .box [.row 1 ((flushW ⟨o, a, c⟩).length), .t (.sc (.int .i64 0)), .t (.sc (.int .i64 0))]), (1, .row 2 false (List.map stepT (flushW ⟨o, a, c⟩)))]⟩)⟩)]) (keys := [0, 2]) (τ := [(0, 0), (1, 1)]) (nx := 90)
          (sl := [(0, .ptr 0 0), (2, .t (.sc (.int .i64 n)))]) (l := [(0, .box [.row 1 ((flushW ⟨o, a, c⟩).length), .t (.sc (.int .i64 0)), .t (.sc (.int .i64 0))]), (1, .row 2 false (List.map stepT (flushW ⟨o, a, c⟩)))])
          (C := [callable Try.prog 133 = true, FC Try.prog 133 [.ptr 0 0] (only (only (app emp [(0, .box [.row 1 o.length, .t (.sc (.int .i64 a)), .t (.sc (.int .i64 c))]), (1, .row 2 false (List.map stepT o))]) [0, 0, 1]) [0, 1]) (.tup []) (app (only (only (app emp [(0, .box [.row 1 o.length, .t (.sc (.int .i64 a)), .t (.sc (.int .i64 c))]), (1, .row 2 false (List.map stepT o))]) [0, 0, 1]) [0, 1]) [(0, .box [.row 1 ((flushW ⟨o, a, c⟩).length), .t (.sc (.int .i64 0)), .t (.sc (.int .i64 0))]), (1, .row 2 false (List.map stepT (flushW ⟨o, a, c⟩)))])]) (by kernel_rfl) ?_ ?_
        · -- region 0
          exact ⟨(by kernel_rfl), (FC.at (FC.ren (fc_flush o a c (by omega)) [(0, 0), (1, 1)] [(0, 0), (1, 1)] (l0' := [(0, .box [.row 1 o.length, .t (.sc (.int .i64 a)), .t (.sc (.int .i64 c))]), (1, .row 2 false (List.map stepT o))]) (args' := [.ptr 0 0]) (res' := .tup []) (l1' := [(0, .box [.row 1 ((flushW ⟨o, a, c⟩).length), .t (.sc (.int .i64 0)), .t (.sc (.int .i64 0))]), (1, .row 2 false (List.map stepT (flushW ⟨o, a, c⟩)))]) (by kernel_rfl) (by kernel_rfl) (by kernel_rfl) (by kernel_rfl) (by kernel_rfl) (by kernel_rfl)) (fun i => by by_cases e0 : i = 0; (subst e0; rfl); by_cases e1 : i = 1; (subst e1; rfl); simp only [only, app, upd, emp, hasId, cond_false, beq_ne e0, beq_ne (Ne.symm e0), beq_ne e1, beq_ne (Ne.symm e1)]) (fun i => by by_cases e0 : i = 0; (subst e0; rfl); by_cases e1 : i = 1; (subst e1; rfl); simp only [only, app, upd, emp, hasId, cond_false, beq_ne e0, beq_ne (Ne.symm e0), beq_ne e1, beq_ne (Ne.symm e1)])), trivial⟩
        refine andThen_normal ?_
        refine Sim.seq ?_
        refine Sim.seq ?_
        refine Sim.reg (orcs := [(5, ⟨some (.t (.sc (.int .i64 (((flushW ⟨o, a, c⟩).length : Int) - 1)))), none, none, none⟩)]) (keys := [0, 2, 6]) (τ := [(0, 0), (1, 1)]) (nx := 146)
          (sl := [(0, .ptr 0 0), (2, .t (.sc (.int .i64 n))), (6, .t (.sc (.int .i64 (((flushW ⟨o, a, c⟩).length : Int) - 1))))]) (l := [(0, .box [.row 1 ((flushW ⟨o, a, c⟩).length), .t (.sc (.int .i64 0)), .t (.sc (.int .i64 0))]), (1, .row 2 false (List.map stepT (flushW ⟨o, a, c⟩)))])
          (C := [AVal.t (.sc (.int .i64 (((flushW ⟨o, a, c⟩).length : Int) - 1))) = .t (.sc (.int .i64 (IntKind.i64.wrap (((flushW ⟨o, a, c⟩).length : Int) - 1))))]) (by kernel_rfl) ?_ ?_
        · -- region 1
          refine ⟨(nw ?_), trivial⟩
          all_goals (first | omega | with_reducible exact fun h => h | (intro hg hq; rw [hg, hq]; rfl) | (intro hq; rw [hq]; done) | (intro hq; rw [hq]; rfl) | ((try intro hg); (try simp [-List.getD_eq_getElem?_getD] at hg); (try simp only [List.length_map]); first | done | omega | rfl | (simp; done) | (simp; omega) | (simp [hg]; done) | (intro hq; simp [hg, hq]; done) | (intro hq; simp [hg, hq]; omega)))
        refine andThen_normal ?_
        refine Sim.seq ?_
        have hlast : 0 < (flushW ⟨o, a, c⟩).length → _ := fun h => exW_n hg (last_mem h)
        have hok : 0 < (flushW ⟨o, a, c⟩).length → _ := fun h => (flushW_form hg).all _ (last_mem h)
        unfold Ok1 at hok
        refine Sim.reg (orcs := [(8, ⟨some (.eptr 1 ((flushW ⟨o, a, c⟩).length) (((flushW ⟨o, a, c⟩).length) - 1) 0), none, none, none⟩), (10, ⟨none, none, some (stepT ((flushW ⟨o, a, c⟩).getD (((flushW ⟨o, a, c⟩).length) - 1) default)), none⟩)]) (keys := [0, 2, 6, 27]) (τ := [(0, 0), (1, 1)]) (nx := 250)
          (sl := [(0, .ptr 0 0), (2, .t (.sc (.int .i64 n))), (6, .t (.sc (.int .i64 (((flushW ⟨o, a, c⟩).length : Int) - 1)))), (27, .t (.sc (.bool (decide ((((flushW ⟨o, a, c⟩).length : Int) - 1) ≥ 0) && (((((flushW ⟨o, a, c⟩).getD (((flushW ⟨o, a, c⟩).length) - 1) default)).kind) == 0)))))]) (l := [(0, .box [.row 1 ((flushW ⟨o, a, c⟩).length), .t (.sc (.int .i64 0)), .t (.sc (.int .i64 0))]), (1, .row 2 false (List.map stepT (flushW ⟨o, a, c⟩)))])
          (C := [(decide ((((flushW ⟨o, a, c⟩).length : Int) - 1) ≥ 0)) = true → (decide ((((flushW ⟨o, a, c⟩).length : Int) - 1) ≥ 0)) = true, (decide ((((flushW ⟨o, a, c⟩).length : Int) - 1) ≥ 0)) = true → (decide ((((flushW ⟨o, a, c⟩).length : Int) - 1) ≥ 0)) = true, (decide ((((flushW ⟨o, a, c⟩).length : Int) - 1) ≥ 0)) = true → (decide ((((flushW ⟨o, a, c⟩).length : Int) - 1) ≥ 0)) = true, (decide ((((flushW ⟨o, a, c⟩).length : Int) - 1) ≥ 0)) = true → (decide ((((flushW ⟨o, a, c⟩).length : Int) - 1) ≥ 0)) = true, (decide ((((flushW ⟨o, a, c⟩).length : Int) - 1) ≥ 0)) = true → (decide ((((flushW ⟨o, a, c⟩).length : Int) - 1) ≥ 0)) = true, (decide ((((flushW ⟨o, a, c⟩).length : Int) - 1) ≥ 0)) = true → (((flushW ⟨o, a, c⟩).length) : Nat) = (List.map stepT (flushW ⟨o, a, c⟩)).length, (decide ((((flushW ⟨o, a, c⟩).length : Int) - 1) ≥ 0)) = true → (0:Int) ≤ (((flushW ⟨o, a, c⟩).length : Int) - 1), (decide ((((flushW ⟨o, a, c⟩).length : Int) - 1) ≥ 0)) = true → (((flushW ⟨o, a, c⟩).length : Int) - 1) < (((flushW ⟨o, a, c⟩).length : Nat) : Int), (decide ((((flushW ⟨o, a, c⟩).length : Int) - 1) ≥ 0)) = true → AVal.eptr 1 ((flushW ⟨o, a, c⟩).length) (((flushW ⟨o, a, c⟩).length) - 1) 0 = .eptr 1 ((flushW ⟨o, a, c⟩).length) (Int.toNat (((flushW ⟨o, a, c⟩).length : Int) - 1)) 0, (decide ((((flushW ⟨o, a, c⟩).length : Int) - 1) ≥ 0)) = true → (decide ((((flushW ⟨o, a, c⟩).length : Int) - 1) ≥ 0)) = true, (decide ((((flushW ⟨o, a, c⟩).length : Int) - 1) ≥ 0)) = true → (decide ((((flushW ⟨o, a, c⟩).length : Int) - 1) ≥ 0)) = true, (decide ((((flushW ⟨o, a, c⟩).length : Int) - 1) ≥ 0)) = true → (((flushW ⟨o, a, c⟩).length) : Nat) = (List.map stepT (flushW ⟨o, a, c⟩)).length, (decide ((((flushW ⟨o, a, c⟩).length : Int) - 1) ≥ 0)) = true → (List.map stepT (flushW ⟨o, a, c⟩))[(((flushW ⟨o, a, c⟩).length) - 1)]? = some (stepT ((flushW ⟨o, a, c⟩).getD (((flushW ⟨o, a, c⟩).length) - 1) default)), (decide ((((flushW ⟨o, a, c⟩).length : Int) - 1) ≥ 0)) = true → (decide ((((flushW ⟨o, a, c⟩).length : Int) - 1) ≥ 0)) = true, (decide ((((flushW ⟨o, a, c⟩).length : Int) - 1) ≥ 0)) = true → (decide ((((flushW ⟨o, a, c⟩).length : Int) - 1) ≥ 0)) = true]) (by kernel_rfl) ?_ ?_
        · -- region 2
          refine ⟨?_, ?_, ?_, ?_, ?_, ?_, ?_, ?_, (fun hg => (eptr_eq ?_)), ?_, ?_, ?_, (fun hg => (elt_nat ?_)), ?_, ?_, trivial⟩
          all_goals (first | omega | with_reducible exact fun h => h | (intro hg hq; rw [hg, hq]; rfl) | (intro hq; rw [hq]; done) | (intro hq; rw [hq]; rfl) | ((try intro hg); (try simp [-List.getD_eq_getElem?_getD] at hg); (try simp only [List.length_map]); first | done | omega | rfl | (simp; done) | (simp; omega) | (simp [hg]; done) | (intro hq; simp [hg, hq]; done) | (intro hq; simp [hg, hq]; omega)))
        refine andThen_normal ?_
        refine Sim.cond (b := (decide ((((flushW ⟨o, a, c⟩).length : Int) - 1) ≥ 0) && (((((flushW ⟨o, a, c⟩).getD (((flushW ⟨o, a, c⟩).length) - 1) default)).kind) == 0))) (by kernel_rfl) (fun h2 => ?_) (fun h2 => ?_)
        · (try simp only [decide_eq_true_eq, decide_eq_false_iff_not, Int.not_lt, Int.not_le, ge_iff_le, Bool.and_eq_true, Bool.and_eq_false_iff, Bool.not_eq_true', Bool.not_eq_false', beq_iff_eq, beq_eq_false_iff_ne, ne_eq] at h2)
          refine Sim.seq ?_
          refine Sim.reg (orcs := [(5, ⟨some (.eptr 1 ((flushW ⟨o, a, c⟩).length) (((flushW ⟨o, a, c⟩).length) - 1) 0), none, none, none⟩), (7, ⟨none, none, some (stepT ((flushW ⟨o, a, c⟩).getD (((flushW ⟨o, a, c⟩).length) - 1) default)), none⟩), (9, ⟨some (.t (.sc (.int .i64 (((((flushW ⟨o, a, c⟩).getD (((flushW ⟨o, a, c⟩).length) - 1) default)).n) + n)))), none, none, none⟩), (10, ⟨some (.eptr 1 ((flushW ⟨o, a, c⟩).length) (((flushW ⟨o, a, c⟩).length) - 1) 0), none, none, none⟩), (12, ⟨none, some ([(1, .row 2 false (List.map stepT ((flushW ⟨o, a, c⟩).set (((flushW ⟨o, a, c⟩).length) - 1) ({ kind := (((flushW ⟨o, a, c⟩).getD (((flushW ⟨o, a, c⟩).length) - 1) default)).kind, n := (((((flushW ⟨o, a, c⟩).getD (((flushW ⟨o, a, c⟩).length) - 1) default)).n) + n) } : AxStep))))]), some (stepT ((flushW ⟨o, a, c⟩).getD (((flushW ⟨o, a, c⟩).length) - 1) default)), none⟩)]) (keys := []) (τ := [(0, 0), (1, 1)]) (nx := 354)
            (sl := []) (l := [(0, .box [.row 1 ((flushW ⟨o, a, c⟩).length), .t (.sc (.int .i64 0)), .t (.sc (.int .i64 0))]), (1, .row 2 false (List.map stepT ((flushW ⟨o, a, c⟩).set (((flushW ⟨o, a, c⟩).length) - 1) ({ kind := (((flushW ⟨o, a, c⟩).getD (((flushW ⟨o, a, c⟩).length) - 1) default)).kind, n := (((((flushW ⟨o, a, c⟩).getD (((flushW ⟨o, a, c⟩).length) - 1) default)).n) + n) } : AxStep))))])
            (C := [(((flushW ⟨o, a, c⟩).length) : Nat) = (List.map stepT (flushW ⟨o, a, c⟩)).length, (0:Int) ≤ (((flushW ⟨o, a, c⟩).length : Int) - 1), (((flushW ⟨o, a, c⟩).length : Int) - 1) < (((flushW ⟨o, a, c⟩).length : Nat) : Int), AVal.eptr 1 ((flushW ⟨o, a, c⟩).length) (((flushW ⟨o, a, c⟩).length) - 1) 0 = .eptr 1 ((flushW ⟨o, a, c⟩).length) (Int.toNat (((flushW ⟨o, a, c⟩).length : Int) - 1)) 0, (((flushW ⟨o, a, c⟩).length) : Nat) = (List.map stepT (flushW ⟨o, a, c⟩)).length, (List.map stepT (flushW ⟨o, a, c⟩))[(((flushW ⟨o, a, c⟩).length) - 1)]? = some (stepT ((flushW ⟨o, a, c⟩).getD (((flushW ⟨o, a, c⟩).length) - 1) default)), AVal.t (.sc (.int .i64 (((((flushW ⟨o, a, c⟩).getD (((flushW ⟨o, a, c⟩).length) - 1) default)).n) + n))) = .t (.sc (.int .i64 (IntKind.i64.wrap (((((flushW ⟨o, a, c⟩).getD (((flushW ⟨o, a, c⟩).length) - 1) default)).n) + n)))), (((flushW ⟨o, a, c⟩).length) : Nat) = (List.map stepT (flushW ⟨o, a, c⟩)).length, (0:Int) ≤ (((flushW ⟨o, a, c⟩).length : Int) - 1), (((flushW ⟨o, a, c⟩).length : Int) - 1) < (((flushW ⟨o, a, c⟩).length : Nat) : Int), AVal.eptr 1 ((flushW ⟨o, a, c⟩).length) (((flushW ⟨o, a, c⟩).length) - 1) 0 = .eptr 1 ((flushW ⟨o, a, c⟩).length) (Int.toNat (((flushW ⟨o, a, c⟩).length : Int) - 1)) 0, (((flushW ⟨o, a, c⟩).length) : Nat) = (List.map stepT (flushW ⟨o, a, c⟩)).length, (List.map stepT (flushW ⟨o, a, c⟩))[(((flushW ⟨o, a, c⟩).length) - 1)]? = some (stepT ((flushW ⟨o, a, c⟩).getD (((flushW ⟨o, a, c⟩).length) - 1) default)), ([(1, .row 2 false (List.map stepT ((flushW ⟨o, a, c⟩).set (((flushW ⟨o, a, c⟩).length) - 1) ({ kind := (((flushW ⟨o, a, c⟩).getD (((flushW ⟨o, a, c⟩).length) - 1) default)).kind, n := (((((flushW ⟨o, a, c⟩).getD (((flushW ⟨o, a, c⟩).length) - 1) default)).n) + n) } : AxStep))))] : List (Nat × Ob)) = [(1, .row 2 false ((List.map stepT (flushW ⟨o, a, c⟩)).set (((flushW ⟨o, a, c⟩).length) - 1) (.agg [.sc (.int .i64 ((((flushW ⟨o, a, c⟩).getD (((flushW ⟨o, a, c⟩).length) - 1) default)).kind)), .sc (.int .i64 (((((flushW ⟨o, a, c⟩).getD (((flushW ⟨o, a, c⟩).length) - 1) default)).n) + n))])))]]) (by kernel_rfl) ?_ ?_
          · -- region 3
            refine ⟨?_, ?_, ?_, (eptr_eq ?_), ?_, (elt_nat ?_), (nw ?_), ?_, ?_, ?_, (eptr_eq ?_), ?_, (elt_nat ?_), (row_set rfl), trivial⟩
            all_goals (first | omega | with_reducible exact fun h => h | (intro hg hq; rw [hg, hq]; rfl) | (intro hq; rw [hq]; done) | (intro hq; rw [hq]; rfl) | ((try intro hg); (try simp [-List.getD_eq_getElem?_getD] at hg); (try simp only [List.length_map]); first | done | omega | rfl | (simp; done) | (simp; omega) | (simp [hg]; done) | (intro hq; simp [hg, hq]; done) | (intro hq; simp [hg, hq]; omega)))
          refine andThen_normal ?_
          refine Sim.ret ?_
          refine andThen_ret ?_
          refine inBlk_ret ?_
          refine Fin.mk2 (.inl rfl) (τ := [(0, 0), (1, 1)]) (keys := []) (nx := 354) (sl := []) (l := [(0, .box [.row 1 ((flushW ⟨o, a, c⟩).length), .t (.sc (.int .i64 0)), .t (.sc (.int .i64 0))]), (1, .row 2 false (List.map stepT ((flushW ⟨o, a, c⟩).set (((flushW ⟨o, a, c⟩).length) - 1) ({ kind := (((flushW ⟨o, a, c⟩).getD (((flushW ⟨o, a, c⟩).length) - 1) default)).kind, n := (((((flushW ⟨o, a, c⟩).getD (((flushW ⟨o, a, c⟩).length) - 1) default)).n) + n) } : AxStep))))]) (res' := .tup []) (by kernel_rfl) ?_ (by kernel_rfl) ?_
          · -- end 4, objects
            have e13 : (((putW ⟨o, a, c⟩ k n).out).length : Nat) = (flushW ⟨o, a, c⟩).length := by
              (try unfold putW); (try unfold keepW); ((repeat' split) <;> first | rfl | omega | (simp_all; done) | (simp_all; omega))
            have e14 : ((putW ⟨o, a, c⟩ k n).add : Int) = 0 := by
              (try unfold putW); (try unfold keepW); ((repeat' split) <;> first | rfl | omega | (simp_all; done) | (simp_all; omega))
            have e15 : ((putW ⟨o, a, c⟩ k n).cut : Int) = 0 := by
              (try unfold putW); (try unfold keepW); ((repeat' split) <;> first | rfl | omega | (simp_all; done) | (simp_all; omega))
            have e16 : ((putW ⟨o, a, c⟩ k n).out) = ((flushW ⟨o, a, c⟩).set (((flushW ⟨o, a, c⟩).length) - 1) ({ kind := (((flushW ⟨o, a, c⟩).getD (((flushW ⟨o, a, c⟩).length) - 1) default)).kind, n := (((((flushW ⟨o, a, c⟩).getD (((flushW ⟨o, a, c⟩).length) - 1) default)).n) + n) } : AxStep)) := by
              (try unfold putW); (try unfold keepW); ((repeat' split) <;> first | rfl | omega | (simp_all; done) | (simp_all; omega))
            show ([(0, .box [.row 1 ((flushW ⟨o, a, c⟩).length), .t (.sc (.int .i64 0)), .t (.sc (.int .i64 0))]), (1, .row 2 false (List.map stepT ((flushW ⟨o, a, c⟩).set (((flushW ⟨o, a, c⟩).length) - 1) ({ kind := (((flushW ⟨o, a, c⟩).getD (((flushW ⟨o, a, c⟩).length) - 1) default)).kind, n := (((((flushW ⟨o, a, c⟩).getD (((flushW ⟨o, a, c⟩).length) - 1) default)).n) + n) } : AxStep))))] : List (Nat × Ob)) = [(0, .box [.row 1 (((putW ⟨o, a, c⟩ k n).out).length), .t (.sc (.int .i64 ((putW ⟨o, a, c⟩ k n).add))), .t (.sc (.int .i64 ((putW ⟨o, a, c⟩ k n).cut)))]), (1, .row 2 false (List.map stepT ((putW ⟨o, a, c⟩ k n).out)))]
            rw [e13, e14, e15, e16]
            try rfl
          · -- end 4, result
            first | done | rfl
        · (try simp only [decide_eq_true_eq, decide_eq_false_iff_not, Int.not_lt, Int.not_le, ge_iff_le, Bool.and_eq_true, Bool.and_eq_false_iff, Bool.not_eq_true', Bool.not_eq_false', beq_iff_eq, beq_eq_false_iff_ne, ne_eq] at h2)
          refine Sim.skip ?_
          refine andThen_normal ?_
          refine Sim.reg (orcs := [(8, ⟨some (.row 1 (((flushW ⟨o, a, c⟩) ++ [({ kind := 0, n := n } : AxStep)]).length)), some ([(1, .row 2 false (List.map stepT ((flushW ⟨o, a, c⟩) ++ [({ kind := 0, n := n } : AxStep)])))]), none, none⟩)]) (keys := []) (τ := [(0, 0), (1, 1)]) (nx := 346)
            (sl := []) (l := [(0, .box [.row 1 (((flushW ⟨o, a, c⟩) ++ [({ kind := 0, n := n } : AxStep)]).length), .t (.sc (.int .i64 0)), .t (.sc (.int .i64 0))]), (1, .row 2 false (List.map stepT ((flushW ⟨o, a, c⟩) ++ [({ kind := 0, n := n } : AxStep)])))])
            (C := [1 = (List.map stepT [({ kind := 0, n := n } : AxStep)]).length, (((flushW ⟨o, a, c⟩).length) : Nat) = (List.map stepT (flushW ⟨o, a, c⟩)).length, (((flushW ⟨o, a, c⟩).length) : Nat) + (List.map stepT [({ kind := 0, n := n } : AxStep)]).length ≤ 1099511627776, AVal.row 1 (((flushW ⟨o, a, c⟩) ++ [({ kind := 0, n := n } : AxStep)]).length) = .row 1 ((flushW ⟨o, a, c⟩).length + (List.map stepT [({ kind := 0, n := n } : AxStep)]).length), ([(1, .row 2 false (List.map stepT ((flushW ⟨o, a, c⟩) ++ [({ kind := 0, n := n } : AxStep)])))] : List (Nat × Ob)) = [(1, .row 2 false (List.map stepT (flushW ⟨o, a, c⟩) ++ List.map stepT [({ kind := 0, n := n } : AxStep)]))]]) (by kernel_rfl) ?_ ?_
          · -- region 4
            refine ⟨?_, ?_, ?_, (by simp), (row_append rfl), trivial⟩
            all_goals (first | omega | with_reducible exact fun h => h | (intro hg hq; rw [hg, hq]; rfl) | (intro hq; rw [hq]; done) | (intro hq; rw [hq]; rfl) | ((try intro hg); (try simp [-List.getD_eq_getElem?_getD] at hg); (try simp only [List.length_map]); first | done | omega | rfl | (simp; done) | (simp; omega) | (simp [hg]; done) | (intro hq; simp [hg, hq]; done) | (intro hq; simp [hg, hq]; omega)))
          refine inBlk_normal ?_
          refine Fin.mk2 (.inr rfl) (τ := [(0, 0), (1, 1)]) (keys := []) (nx := 346) (sl := []) (l := [(0, .box [.row 1 (((flushW ⟨o, a, c⟩) ++ [({ kind := 0, n := n } : AxStep)]).length), .t (.sc (.int .i64 0)), .t (.sc (.int .i64 0))]), (1, .row 2 false (List.map stepT ((flushW ⟨o, a, c⟩) ++ [({ kind := 0, n := n } : AxStep)])))]) (res' := .tup []) (by kernel_rfl) ?_ (by kernel_rfl) ?_
          · -- end 5, objects
            have e17 : (((putW ⟨o, a, c⟩ k n).out).length : Nat) = ((flushW ⟨o, a, c⟩) ++ [({ kind := 0, n := n } : AxStep)]).length := by
              (try unfold putW); (try unfold keepW); ((repeat' split) <;> first | rfl | omega | (simp_all; done) | (simp_all; omega))
            have e18 : ((putW ⟨o, a, c⟩ k n).add : Int) = 0 := by
              (try unfold putW); (try unfold keepW); ((repeat' split) <;> first | rfl | omega | (simp_all; done) | (simp_all; omega))
            have e19 : ((putW ⟨o, a, c⟩ k n).cut : Int) = 0 := by
              (try unfold putW); (try unfold keepW); ((repeat' split) <;> first | rfl | omega | (simp_all; done) | (simp_all; omega))
            have e20 : ((putW ⟨o, a, c⟩ k n).out) = ((flushW ⟨o, a, c⟩) ++ [({ kind := 0, n := n } : AxStep)]) := by
              (try unfold putW); (try unfold keepW); ((repeat' split) <;> first | rfl | omega | (simp_all; done) | (simp_all; omega))
            show ([(0, .box [.row 1 (((flushW ⟨o, a, c⟩) ++ [({ kind := 0, n := n } : AxStep)]).length), .t (.sc (.int .i64 0)), .t (.sc (.int .i64 0))]), (1, .row 2 false (List.map stepT ((flushW ⟨o, a, c⟩) ++ [({ kind := 0, n := n } : AxStep)])))] : List (Nat × Ob)) = [(0, .box [.row 1 (((putW ⟨o, a, c⟩ k n).out).length), .t (.sc (.int .i64 ((putW ⟨o, a, c⟩ k n).add))), .t (.sc (.int .i64 ((putW ⟨o, a, c⟩ k n).cut)))]), (1, .row 2 false (List.map stepT ((putW ⟨o, a, c⟩ k n).out)))]
            rw [e17, e18, e19, e20]
            try rfl
          · -- end 5, result
            first | done | rfl

theorem fc_done (o : List AxStep) (a c : Int) (ho : o.length ≤ 1000000000000) (hc : checkX (flushW ⟨o, a, c⟩) = 0) : FC Try.prog 95 [.ptr 0 0] (app emp [(0, .box [.row 1 o.length, .t (.sc (.int .i64 a)), .t (.sc (.int .i64 c))]), (1, .row 2 false (List.map stepT o))]) (.tup [.row 1 ((flushW ⟨o, a, c⟩).length), .t (.sc (.int .i64 0))]) (app emp [(0, .box [.row 1 ((flushW ⟨o, a, c⟩).length), .t (.sc (.int .i64 0)), .t (.sc (.int .i64 0))]), (1, .row 2 false (List.map stepT (flushW ⟨o, a, c⟩)))]) := by
  refine FC.of_sim (fn := Try.f95) (nx := 2) (by kernel_rfl) rfl (by kernel_rfl) rfl ?_
  show Sim _ _ _ _ ⟨[(0, .ptr 0 0)], app emp [(0, .box [.row 1 o.length, .t (.sc (.int .i64 a)), .t (.sc (.int .i64 c))]), (1, .row 2 false (List.map stepT o))], 2⟩ _
  refine Sim.seq ?_
  refine Sim.reg (orcs := []) (keys := [0]) (τ := [(0, 0), (1, 1)]) (nx := 18)
    (sl := [(0, .ptr 0 0)]) (l := [(0, .box [.row 1 o.length, .t (.sc (.int .i64 a)), .t (.sc (.int .i64 c))]), (1, .row 2 false (List.map stepT o))])
    (C := []) (by kernel_rfl) ?_ ?_
  · -- region 0
    trivial
  refine andThen_normal ?_
  refine Sim.seq ?_
  refine Sim.reg (orcs := [(1, ⟨none, none, none, some (⟨2, [0, 1], .tup [], [(0, .box [.row 1 ((flushW ⟨o, a, c⟩).length), .t (.sc (.int .i64 0)), .t (.sc (.int .i64 0))]), (1, .row 2 false (List.map stepT (flushW ⟨o, a, c⟩)))]⟩)⟩)]) (keys := [0]) (τ := [(0, 0), (1, 1)]) (nx := 34)
    (sl := [(0, .ptr 0 0)]) (l := [(0, .box [.row 1 ((flushW ⟨o, a, c⟩).length), .t (.sc (.int .i64 0)), .t (.sc (.int .i64 0))]), (1, .row 2 false (List.map stepT (flushW ⟨o, a, c⟩)))])
    (C := [callable Try.prog 133 = true, FC Try.prog 133 [.ptr 0 0] (only (only (app emp [(0, .box [.row 1 o.length, .t (.sc (.int .i64 a)), .t (.sc (.int .i64 c))]), (1, .row 2 false (List.map stepT o))]) [0, 0, 1]) [0, 1]) (.tup []) (app (only (only (app emp [(0, .box [.row 1 o.length, .t (.sc (.int .i64 a)), .t (.sc (.int .i64 c))]), (1, .row 2 false (List.map stepT o))]) [0, 0, 1]) [0, 1]) [(0, .box [.row 1 ((flushW ⟨o, a, c⟩).length), .t (.sc (.int .i64 0)), .t (.sc (.int .i64 0))]), (1, .row 2 false (List.map stepT (flushW ⟨o, a, c⟩)))])]) (by kernel_rfl) ?_ ?_
  · -- region 1
    exact ⟨(by kernel_rfl), (FC.at (FC.ren (fc_flush o a c (by omega)) [(0, 0), (1, 1)] [(0, 0), (1, 1)] (l0' := [(0, .box [.row 1 o.length, .t (.sc (.int .i64 a)), .t (.sc (.int .i64 c))]), (1, .row 2 false (List.map stepT o))]) (args' := [.ptr 0 0]) (res' := .tup []) (l1' := [(0, .box [.row 1 ((flushW ⟨o, a, c⟩).length), .t (.sc (.int .i64 0)), .t (.sc (.int .i64 0))]), (1, .row 2 false (List.map stepT (flushW ⟨o, a, c⟩)))]) (by kernel_rfl) (by kernel_rfl) (by kernel_rfl) (by kernel_rfl) (by kernel_rfl) (by kernel_rfl)) (fun i => by by_cases e0 : i = 0; (subst e0; rfl); by_cases e1 : i = 1; (subst e1; rfl); simp only [only, app, upd, emp, hasId, cond_false, beq_ne e0, beq_ne (Ne.symm e0), beq_ne e1, beq_ne (Ne.symm e1)]) (fun i => by by_cases e0 : i = 0; (subst e0; rfl); by_cases e1 : i = 1; (subst e1; rfl); simp only [only, app, upd, emp, hasId, cond_false, beq_ne e0, beq_ne (Ne.symm e0), beq_ne e1, beq_ne (Ne.symm e1)])), trivial⟩
  refine andThen_normal ?_
  refine Sim.seq ?_
  refine Sim.seq ?_
  refine Sim.reg (orcs := [(4, ⟨none, none, none, some (⟨0, [], .t (.sc (.int .i64 (checkX (flushW ⟨o, a, c⟩)))), []⟩)⟩)]) (keys := [0, 11]) (τ := [(0, 0), (1, 1)]) (nx := 82)
    (sl := [(0, .ptr 0 0), (11, .t (.sc (.bool ((checkX (flushW ⟨o, a, c⟩)) != 0))))]) (l := [(0, .box [.row 1 ((flushW ⟨o, a, c⟩).length), .t (.sc (.int .i64 0)), .t (.sc (.int .i64 0))]), (1, .row 2 false (List.map stepT (flushW ⟨o, a, c⟩)))])
    (C := [callable Try.prog 89 = true, (((flushW ⟨o, a, c⟩).length) : Nat) = (List.map stepT (flushW ⟨o, a, c⟩)).length, FC Try.prog 89 [.t (.lst 2 (List.map stepT (flushW ⟨o, a, c⟩)))] emp (.t (.sc (.int .i64 (checkX (flushW ⟨o, a, c⟩))))) emp]) (by kernel_rfl) ?_ ?_
  · -- region 2
    refine ⟨(by kernel_rfl), ?_, (fc_axCheck (flushW ⟨o, a, c⟩)), trivial⟩
    all_goals (first | omega | with_reducible exact fun h => h | (intro hg hq; rw [hg, hq]; rfl) | (intro hq; rw [hq]; done) | (intro hq; rw [hq]; rfl) | ((try intro hg); (try simp [-List.getD_eq_getElem?_getD] at hg); (try simp only [List.length_map]); first | done | omega | rfl | (simp; done) | (simp; omega) | (simp [hg]; done) | (intro hq; simp [hg, hq]; done) | (intro hq; simp [hg, hq]; omega)))
  refine andThen_normal ?_
  refine Sim.cond (b := ((checkX (flushW ⟨o, a, c⟩)) != 0)) (by kernel_rfl) (fun h2 => ?_) (fun h2 => ?_)
  · (try simp only [bne_iff_ne, bne_eq_false_iff_eq, ne_eq] at h2)
    exfalso
    omega
  · (try simp only [bne_iff_ne, bne_eq_false_iff_eq, ne_eq] at h2)
    refine Sim.skip ?_
    refine andThen_normal ?_
    refine Sim.seq ?_
    refine Sim.reg (orcs := []) (keys := [2, 3]) (τ := [(0, 0), (1, 1)]) (nx := 130)
      (sl := [(2, .row 1 ((flushW ⟨o, a, c⟩).length)), (3, .t (.sc (.int .i64 0)))]) (l := [(0, .box [.row 1 ((flushW ⟨o, a, c⟩).length), .t (.sc (.int .i64 0)), .t (.sc (.int .i64 0))]), (1, .row 2 false (List.map stepT (flushW ⟨o, a, c⟩)))])
      (C := []) (by kernel_rfl) ?_ ?_
    · -- region 4
      trivial
    refine andThen_normal ?_
    refine Sim.ret ?_
    refine Fin.mk2 (.inl rfl) (τ := [(0, 0), (1, 1)]) (keys := [2, 3]) (nx := 130) (sl := [(2, .row 1 ((flushW ⟨o, a, c⟩).length)), (3, .t (.sc (.int .i64 0)))]) (l := [(0, .box [.row 1 ((flushW ⟨o, a, c⟩).length), .t (.sc (.int .i64 0)), .t (.sc (.int .i64 0))]), (1, .row 2 false (List.map stepT (flushW ⟨o, a, c⟩)))]) (res' := .tup [.row 1 ((flushW ⟨o, a, c⟩).length), .t (.sc (.int .i64 0))]) (by kernel_rfl) ?_ (by kernel_rfl) ?_
    · -- end 1, objects
      first | done | rfl
    · -- end 1, result
      first | done | rfl

def kindR (l : List AxStep) : Int := if l.length = 0 then -1 else (l.getD 0 default).kind
def tkS (l : List AxStep) (u n : Int) : List AxStep := if u + n = (l.getD 0 default).n then l.drop 1 else l
def tkU (l : List AxStep) (u n : Int) : Int := if u + n = (l.getD 0 default).n then 0 else u + n

theorem fc_kind (l : List AxStep) (u : Int) : FC Try.prog 91 [.ptr 0 0] (app emp [(0, .box [.t (.lst 2 (List.map stepT l)), .t (.sc (.int .i64 u))])]) (.t (.sc (.int .i64 (kindR l)))) (app emp [(0, .box [.t (.lst 2 (List.map stepT l)), .t (.sc (.int .i64 u))])]) := by
  refine FC.of_sim (fn := Try.f91) (nx := 1) (by kernel_rfl) rfl (by kernel_rfl) rfl ?_
  show Sim _ _ _ _ ⟨[(0, .ptr 0 0)], app emp [(0, .box [.t (.lst 2 (List.map stepT l)), .t (.sc (.int .i64 u))])], 1⟩ _
  refine Sim.seq ?_
  refine Sim.reg (orcs := []) (keys := [0]) (τ := [(0, 0)]) (nx := 9)
    (sl := [(0, .ptr 0 0)]) (l := [(0, .box [.t (.lst 2 (List.map stepT l)), .t (.sc (.int .i64 u))])])
    (C := []) (by kernel_rfl) ?_ ?_
  · -- region 0
    trivial
  refine andThen_normal ?_
  refine Sim.seq ?_
  refine Sim.seq ?_
  refine Sim.reg (orcs := [(4, ⟨some (.t (.sc (.int .i64 (l.length : Int)))), none, none, none⟩)]) (keys := [0, 8]) (τ := [(0, 0)]) (nx := 57)
    (sl := [(0, .ptr 0 0), (8, .t (.sc (.bool ((l.length : Int) == 0))))]) (l := [(0, .box [.t (.lst 2 (List.map stepT l)), .t (.sc (.int .i64 u))])])
    (C := [AVal.t (.sc (.int .i64 (l.length : Int))) = .t (.sc (.int .i64 ((List.map stepT l).length : Int)))]) (by kernel_rfl) ?_ ?_
  · -- region 1
    exact ⟨len_map, trivial⟩
  refine andThen_normal ?_
  refine Sim.cond (b := ((l.length : Int) == 0)) (by kernel_rfl) (fun h1 => ?_) (fun h1 => ?_)
  · (try simp only [beq_iff_eq, beq_eq_false_iff_ne, ne_eq] at h1)
    refine Sim.seq ?_
    refine Sim.reg (orcs := []) (keys := [2]) (τ := [(0, 0)]) (nx := 65)
      (sl := [(2, .t (.sc (.int .i64 (-1))))]) (l := [(0, .box [.t (.lst 2 (List.map stepT l)), .t (.sc (.int .i64 u))])])
      (C := []) (by kernel_rfl) ?_ ?_
    · -- region 2
      trivial
    refine andThen_normal ?_
    refine Sim.ret ?_
    refine andThen_ret ?_
    refine Fin.mk2 (.inl rfl) (τ := [(0, 0)]) (keys := [2]) (nx := 65) (sl := [(2, .t (.sc (.int .i64 (-1))))]) (l := [(0, .box [.t (.lst 2 (List.map stepT l)), .t (.sc (.int .i64 u))])]) (res' := .t (.sc (.int .i64 (-1)))) (by kernel_rfl) ?_ (by kernel_rfl) ?_
    · -- end 1, objects
      first | done | rfl
    · -- end 1, result
      have e1 : ((kindR l) : Int) = -1 := by
        unfold kindR; ((repeat' split) <;> first | rfl | omega | (simp_all; done) | (simp_all; omega))
      show AVal.t (.sc (.int .i64 (-1))) = .t (.sc (.int .i64 (kindR l)))
      rw [e1]
      try rfl
  · (try simp only [beq_iff_eq, beq_eq_false_iff_ne, ne_eq] at h1)
    refine Sim.skip ?_
    refine andThen_normal ?_
    refine Sim.seq ?_
    refine Sim.reg (orcs := [(4, ⟨none, none, some (stepT (l.getD 0 default)), none⟩)]) (keys := [2]) (τ := [(0, 0)]) (nx := 121)
      (sl := [(2, .t (.sc (.int .i64 (((l.getD 0 default)).kind))))]) (l := [(0, .box [.t (.lst 2 (List.map stepT l)), .t (.sc (.int .i64 u))])])
      (C := [(0:Int) ≤ 0, (List.map stepT l)[0]? = some (stepT (l.getD 0 default))]) (by kernel_rfl) ?_ ?_
    · -- region 3
      refine ⟨?_, (elt_nat ?_), trivial⟩
      all_goals (first | omega | with_reducible exact fun h => h | (intro hg hq; rw [hg, hq]; rfl) | (intro hq; rw [hq]; done) | (intro hq; rw [hq]; rfl) | ((try intro hg); (try simp [-List.getD_eq_getElem?_getD] at hg); (try simp only [List.length_map]); first | done | omega | rfl | (simp; done) | (simp; omega) | (simp [hg]; done) | (intro hq; simp [hg, hq]; done) | (intro hq; simp [hg, hq]; omega)))
    refine andThen_normal ?_
    refine Sim.ret ?_
    refine Fin.mk2 (.inl rfl) (τ := [(0, 0)]) (keys := [2]) (nx := 121) (sl := [(2, .t (.sc (.int .i64 (((l.getD 0 default)).kind))))]) (l := [(0, .box [.t (.lst 2 (List.map stepT l)), .t (.sc (.int .i64 u))])]) (res' := .t (.sc (.int .i64 (((l.getD 0 default)).kind)))) (by kernel_rfl) ?_ (by kernel_rfl) ?_
    · -- end 2, objects
      first | done | rfl
    · -- end 2, result
      have e2 : ((kindR l) : Int) = ((l.getD 0 default)).kind := by
        unfold kindR; ((repeat' split) <;> first | rfl | omega | (simp_all; done) | (simp_all; omega))
      show AVal.t (.sc (.int .i64 (((l.getD 0 default)).kind))) = .t (.sc (.int .i64 (kindR l)))
      rw [e2]
      try rfl

theorem fc_left (l : List AxStep) (u : Int) (h0 : 0 < l.length) (hb : -9223372036854775808 ≤ (l.getD 0 default).n - u ∧ (l.getD 0 default).n - u ≤ 9223372036854775807) : FC Try.prog 93 [.ptr 0 0] (app emp [(0, .box [.t (.lst 2 (List.map stepT l)), .t (.sc (.int .i64 u))])]) (.t (.sc (.int .i64 ((l.getD 0 default).n - u)))) (app emp [(0, .box [.t (.lst 2 (List.map stepT l)), .t (.sc (.int .i64 u))])]) := by
  refine FC.of_sim (fn := Try.f93) (nx := 1) (by kernel_rfl) rfl (by kernel_rfl) rfl ?_
  show Sim _ _ _ _ ⟨[(0, .ptr 0 0)], app emp [(0, .box [.t (.lst 2 (List.map stepT l)), .t (.sc (.int .i64 u))])], 1⟩ _
  refine Sim.seq ?_
  refine Sim.reg (orcs := []) (keys := [0]) (τ := [(0, 0)]) (nx := 9)
    (sl := [(0, .ptr 0 0)]) (l := [(0, .box [.t (.lst 2 (List.map stepT l)), .t (.sc (.int .i64 u))])])
    (C := []) (by kernel_rfl) ?_ ?_
  · -- region 0
    trivial
  refine andThen_normal ?_
  refine Sim.seq ?_
  refine Sim.regD (by kernel_rfl) (orcs := [(4, ⟨none, none, some (stepT (l.getD 0 default)), none⟩), (11, ⟨some (.t (.sc (.int .i64 ((((l.getD 0 default)).n) - u)))), none, none, none⟩)]) (keys := [2]) (τ := [(0, 0)]) (nx := 113)
    (sl := [(2, .t (.sc (.int .i64 ((((l.getD 0 default)).n) - u))))]) (l := [(0, .box [.t (.lst 2 (List.map stepT l)), .t (.sc (.int .i64 u))])])
    (C := [(0:Int) ≤ 0, (List.map stepT l)[0]? = some (stepT (l.getD 0 default)), AVal.t (.sc (.int .i64 ((((l.getD 0 default)).n) - u))) = .t (.sc (.int .i64 (IntKind.i64.wrap ((((l.getD 0 default)).n) - u))))]) (by kernel_rfl) ?_ ?_
  · -- region 1
    refine ⟨?_, (elt_nat ?_), (nw ?_), trivial⟩
    all_goals (first | omega | with_reducible exact fun h => h | (intro hg hq; rw [hg, hq]; rfl) | (intro hq; rw [hq]; done) | (intro hq; rw [hq]; rfl) | ((try intro hg); (try simp [-List.getD_eq_getElem?_getD] at hg); (try simp only [List.length_map]); first | done | omega | rfl | (simp; done) | (simp; omega) | (simp [hg]; done) | (intro hq; simp [hg, hq]; done) | (intro hq; simp [hg, hq]; omega)))
  refine andThen_normal ?_
  refine Sim.ret ?_
  refine Fin.mk2 (.inl rfl) (τ := [(0, 0)]) (keys := [2]) (nx := 113) (sl := [(2, .t (.sc (.int .i64 ((((l.getD 0 default)).n) - u))))]) (l := [(0, .box [.t (.lst 2 (List.map stepT l)), .t (.sc (.int .i64 u))])]) (res' := .t (.sc (.int .i64 ((((l.getD 0 default)).n) - u)))) (by kernel_rfl) ?_ (by kernel_rfl) ?_
  · -- end 1, objects
    first | done | rfl
  · -- end 1, result
    have e1 : (((l.getD 0 default).n - u) : Int) = ((((l.getD 0 default)).n) - u) := by
      (first | omega | with_reducible exact fun h => h | (intro hq; rw [hq]; done) | (intro hq; rw [hq]; rfl) | (simp only [List.length_map]; done) | (simp only [List.length_map]; omega) | (simp; omega) | (simp; done))
    show AVal.t (.sc (.int .i64 ((((l.getD 0 default)).n) - u))) = .t (.sc (.int .i64 ((l.getD 0 default).n - u)))
    rw [e1]
    try rfl

theorem fc_take (l : List AxStep) (u n : Int) (h0 : 0 < l.length) (hb : -9223372036854775808 ≤ u + n ∧ u + n ≤ 9223372036854775807) : FC Try.prog 94 [.ptr 0 0, .t (.sc (.int .i64 n))] (app emp [(0, .box [.t (.lst 2 (List.map stepT l)), .t (.sc (.int .i64 u))])]) (.tup []) (app emp [(0, .box [.t (.lst 2 (List.map stepT (tkS l u n))), .t (.sc (.int .i64 (tkU l u n)))])]) := by
  refine FC.of_sim (fn := Try.f94) (nx := 1) (by kernel_rfl) rfl (by kernel_rfl) rfl ?_
  show Sim _ _ _ _ ⟨[(0, .ptr 0 0), (1, .t (.sc (.int .i64 n)))], app emp [(0, .box [.t (.lst 2 (List.map stepT l)), .t (.sc (.int .i64 u))])], 1⟩ _
  refine Sim.seq ?_
  refine Sim.reg (orcs := [(5, ⟨some (.t (.sc (.int .i64 (u + n)))), none, none, none⟩)]) (keys := [0]) (τ := [(0, 0)]) (nx := 73)
    (sl := [(0, .ptr 0 0)]) (l := [(0, .box [.t (.lst 2 (List.map stepT l)), .t (.sc (.int .i64 (u + n)))])])
    (C := [AVal.t (.sc (.int .i64 (u + n))) = .t (.sc (.int .i64 (IntKind.i64.wrap (u + n))))]) (by kernel_rfl) ?_ ?_
  · -- region 0
    refine ⟨(nw ?_), trivial⟩
    all_goals (first | omega | with_reducible exact fun h => h | (intro hg hq; rw [hg, hq]; rfl) | (intro hq; rw [hq]; done) | (intro hq; rw [hq]; rfl) | ((try intro hg); (try simp [-List.getD_eq_getElem?_getD] at hg); (try simp only [List.length_map]); first | done | omega | rfl | (simp; done) | (simp; omega) | (simp [hg]; done) | (intro hq; simp [hg, hq]; done) | (intro hq; simp [hg, hq]; omega)))
  refine andThen_normal ?_
  refine Sim.seq ?_
  refine Sim.regD (by kernel_rfl) (orcs := [(8, ⟨none, none, some (stepT (l.getD 0 default)), none⟩)]) (keys := [0, 23]) (τ := [(0, 0)]) (nx := 169)
    (sl := [(0, .ptr 0 0), (23, .t (.sc (.bool ((u + n) == (((l.getD 0 default)).n)))))]) (l := [(0, .box [.t (.lst 2 (List.map stepT l)), .t (.sc (.int .i64 (u + n)))])])
    (C := [(0:Int) ≤ 0, (List.map stepT l)[0]? = some (stepT (l.getD 0 default))]) (by kernel_rfl) ?_ ?_
  · -- region 1
    refine ⟨?_, (elt_nat ?_), trivial⟩
    all_goals (first | omega | with_reducible exact fun h => h | (intro hg hq; rw [hg, hq]; rfl) | (intro hq; rw [hq]; done) | (intro hq; rw [hq]; rfl) | ((try intro hg); (try simp [-List.getD_eq_getElem?_getD] at hg); (try simp only [List.length_map]); first | done | omega | rfl | (simp; done) | (simp; omega) | (simp [hg]; done) | (intro hq; simp [hg, hq]; done) | (intro hq; simp [hg, hq]; omega)))
  refine andThen_normal ?_
  refine Sim.cond (b := ((u + n) == (((l.getD 0 default)).n))) (by kernel_rfl) (fun h1 => ?_) (fun h1 => ?_)
  · (try simp only [beq_iff_eq, beq_eq_false_iff_ne, ne_eq] at h1)
    refine Sim.reg (orcs := [(6, ⟨some (.t (.lst 2 (List.map stepT (l.drop 1)))), none, none, none⟩)]) (keys := []) (τ := [(0, 0)]) (nx := 273)
      (sl := []) (l := [(0, .box [.t (.lst 2 (List.map stepT (l.drop 1))), .t (.sc (.int .i64 0))])])
      (C := [(0:Int) ≤ 1, 1 ≤ (((List.map stepT l).length : Nat) : Int), AVal.t (.lst 2 (List.map stepT (l.drop 1))) = .t (.lst 2 ((List.map stepT l).drop 1))]) (by kernel_rfl) ?_ ?_
    · -- region 2
      refine ⟨?_, ?_, sl_drop, trivial⟩
      all_goals (first | omega | with_reducible exact fun h => h | (intro hg hq; rw [hg, hq]; rfl) | (intro hq; rw [hq]; done) | (intro hq; rw [hq]; rfl) | ((try intro hg); (try simp [-List.getD_eq_getElem?_getD] at hg); (try simp only [List.length_map]); first | done | omega | rfl | (simp; done) | (simp; omega) | (simp [hg]; done) | (intro hq; simp [hg, hq]; done) | (intro hq; simp [hg, hq]; omega)))
    refine Fin.mk2 (.inr rfl) (τ := [(0, 0)]) (keys := []) (nx := 273) (sl := []) (l := [(0, .box [.t (.lst 2 (List.map stepT (l.drop 1))), .t (.sc (.int .i64 0))])]) (res' := .tup []) (by kernel_rfl) ?_ (by kernel_rfl) ?_
    · -- end 1, objects
      have e1 : ((tkS l u n)) = (l.drop 1) := by
        simp only [tkS, tkU]; ((repeat' split) <;> first | rfl | omega | (simp_all; done) | (simp_all; omega))
      have e2 : ((tkU l u n) : Int) = 0 := by
        simp only [tkS, tkU]; ((repeat' split) <;> first | rfl | omega | (simp_all; done) | (simp_all; omega))
      show ([(0, .box [.t (.lst 2 (List.map stepT (l.drop 1))), .t (.sc (.int .i64 0))])] : List (Nat × Ob)) = [(0, .box [.t (.lst 2 (List.map stepT (tkS l u n))), .t (.sc (.int .i64 (tkU l u n)))])]
      rw [e1, e2]
      try rfl
    · -- end 1, result
      first | done | rfl
  · (try simp only [beq_iff_eq, beq_eq_false_iff_ne, ne_eq] at h1)
    refine Sim.skip ?_
    refine Fin.mk2 (.inr rfl) (τ := [(0, 0)]) (keys := []) (nx := 169) (sl := []) (l := [(0, .box [.t (.lst 2 (List.map stepT l)), .t (.sc (.int .i64 (u + n)))])]) (res' := .tup []) (by kernel_rfl) ?_ (by kernel_rfl) ?_
    · -- end 2, objects
      have e3 : ((tkS l u n)) = l := by
        simp only [tkS, tkU]; ((repeat' split) <;> first | rfl | omega | (simp_all; done) | (simp_all; omega))
      have e4 : ((tkU l u n) : Int) = (u + n) := by
        simp only [tkS, tkU]; ((repeat' split) <;> first | rfl | omega | (simp_all; done) | (simp_all; omega))
      show ([(0, .box [.t (.lst 2 (List.map stepT l)), .t (.sc (.int .i64 (u + n)))])] : List (Nat × Ob)) = [(0, .box [.t (.lst 2 (List.map stepT (tkS l u n))), .t (.sc (.int .i64 (tkU l u n)))])]
      rw [e3, e4]
      try rfl
    · -- end 2, result
      first | done | rfl
end Go.Ch
