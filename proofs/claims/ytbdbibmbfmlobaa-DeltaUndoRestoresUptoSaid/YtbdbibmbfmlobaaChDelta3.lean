import Derived.Test.YtbdbibmbfmlobaaChDelta2
set_option linter.unusedVariables false
set_option linter.unusedSimpArgs false
set_option maxRecDepth 100000
set_option maxHeartbeats 4000000
open Go Go.Proofs Go.Ab
namespace Go.Ch
theorem fc_refD (l : List DStep) (hd : DN 400000000000 l) (hz : DSz l) : FC Try.prog 51 [.t (.lst 4 (List.map dstepT l))] (app emp []) (.t (.sc (.int .i64 (refD l)))) (app emp []) := by
  refine FC.of_sim (fn := Try.f51) (nx := 0) (by kernel_rfl) rfl (by kernel_rfl) rfl ?_
  show Sim _ _ _ _ ⟨[(0, .t (.lst 4 (List.map dstepT l)))], app emp [], 0⟩ _
  refine Sim.len (t := 0) (k := 4) rfl (fun hl0 => ?_)
  rw [List.length_map] at hl0
  refine Sim.seq ?_
  refine Sim.reg (orcs := []) (keys := [0]) (τ := []) (nx := 8)
    (sl := [(0, .t (.lst 4 (List.map dstepT l)))]) (l := [])
    (C := []) (by kernel_rfl) ?_ ?_
  · -- region 0
    trivial
  refine andThen_normal ?_
  refine Sim.seq ?_
  refine Sim.reg (orcs := []) (keys := [0, 3, 4]) (τ := []) (nx := 24)
    (sl := [(0, .t (.lst 4 (List.map dstepT l))), (3, .t (.sc (.int .i64 0))), (4, .t (.sc (.int .i64 0)))]) (l := [])
    (C := []) (by kernel_rfl) ?_ ?_
  · -- region 1
    trivial
  refine andThen_normal ?_
  refine Sim.seq ?_
  refine Sim.seq ?_
  refine Sim.reg (orcs := [(1, ⟨some (.t (.sc (.int .i64 (l.length : Int)))), none, none, none⟩)]) (keys := [0, 3, 4, 10, 11]) (τ := []) (nx := 48)
    (sl := [(0, .t (.lst 4 (List.map dstepT l))), (3, .t (.sc (.int .i64 0))), (4, .t (.sc (.int .i64 0))), (10, .t (.sc (.int .i64 (l.length : Int)))), (11, .t (.sc (.int .i64 0)))]) (l := [])
    (C := [Weak (.t (.sc (.int .i64 ((List.map dstepT l).length : Int)))) (.t (.sc (.int .i64 (l.length : Int))))]) (by kernel_rfl) ?_ ?_
  · -- region 2
    exact ⟨(Weak.of_eq len_map), trivial⟩
  refine andThen_normal ?_
  refine Sim.block ?_
  refine Sim.weaken (Le.ren (τ := []) (keys := [0, 3, 4, 10, 11]) (nx := 48) (sl := [(0, .t (.lst 4 (List.map dstepT l))), (3, .t (.sc (.int .i64 0))), (4, .t (.sc (.int .i64 0))), (10, .t (.sc (.int .i64 (l.length : Int)))), (11, .t (.sc (.int .i64 ((0 : Nat) : Int))))]) (l := []) (by kernel_rfl)) ?_
  refine Sim.loop ?_
  refine loop_ind (α := Int × Int × Nat) (fun (b, a, i) => ⟨[(0, .t (.lst 4 (List.map dstepT l))), (3, .t (.sc (.int .i64 b))), (4, .t (.sc (.int .i64 a))), (10, .t (.sc (.int .i64 (l.length : Int)))), (11, .t (.sc (.int .i64 (i : Int))))], app emp [], 48⟩) (fun (b, a, i) => i ≤ l.length ∧ 0 ≤ b ∧ b ≤ 1000000000000 ∧ 0 ≤ a ∧ a ≤ 1000000000000 ∧ refD l = chkR l i b a) (fun (b, a, i) => l.length - i) ?_ (0, 0, 0) ?_
  rotate_left
  · -- loop 3, start
    exact ⟨by omega, by decide, by decide, by decide, by decide, rfl⟩
  rintro ⟨b, a, i⟩ I3 ih3
  show LoopSim _ _ _ _ ⟨[(0, .t (.lst 4 (List.map dstepT l))), (3, .t (.sc (.int .i64 b))), (4, .t (.sc (.int .i64 a))), (10, .t (.sc (.int .i64 (l.length : Int)))), (11, .t (.sc (.int .i64 (i : Int))))], app emp [], 48⟩ _
  replace I3 : i ≤ l.length ∧ 0 ≤ b ∧ b ≤ 1000000000000 ∧ 0 ≤ a ∧ a ≤ 1000000000000 ∧ refD l = chkR l i b a := I3
  refine LoopSim.step ?_
  refine Sim.seq ?_
  refine Sim.reg (orcs := []) (keys := [0, 3, 4, 10, 11, 12]) (τ := []) (nx := 56)
    (sl := [(0, .t (.lst 4 (List.map dstepT l))), (3, .t (.sc (.int .i64 b))), (4, .t (.sc (.int .i64 a))), (10, .t (.sc (.int .i64 (l.length : Int)))), (11, .t (.sc (.int .i64 (i : Int)))), (12, .t (.sc (.bool (decide ((i : Int) < (l.length : Int))))))]) (l := [])
    (C := []) (by kernel_rfl) ?_ ?_
  · -- region 3
    trivial
  refine andThen_normal ?_
  refine Sim.seq ?_
  refine Sim.cond (b := decide ((i : Int) < (l.length : Int))) (by kernel_rfl) (fun h3 => ?_) (fun h3 => ?_)
  · (try simp only [decide_eq_true_eq, decide_eq_false_iff_not, Int.not_lt, Int.not_le] at h3)
    refine Sim.skip ?_
    refine andThen_normal ?_
    refine Sim.seq ?_
    refine Sim.block ?_
    refine Sim.seq ?_
    refine Sim.reg (orcs := []) (keys := [0, 3, 4, 5, 10, 11]) (τ := []) (nx := 72)
      (sl := [(0, .t (.lst 4 (List.map dstepT l))), (3, .t (.sc (.int .i64 b))), (4, .t (.sc (.int .i64 a))), (5, .t (.sc (.int .i64 (i : Int)))), (10, .t (.sc (.int .i64 (l.length : Int)))), (11, .t (.sc (.int .i64 (i : Int))))]) (l := [])
      (C := []) (by kernel_rfl) ?_ ?_
    · -- region 4
      trivial
    refine andThen_normal ?_
    refine Sim.seq ?_
    refine Sim.reg (orcs := [(2, ⟨none, none, some (dstepT (l.getD i default)), none⟩)]) (keys := [0, 3, 4, 5, 6, 10, 11]) (τ := [(104, 104)]) (nx := 120)
      (sl := [(0, .t (.lst 4 (List.map dstepT l))), (3, .t (.sc (.int .i64 b))), (4, .t (.sc (.int .i64 a))), (5, .t (.sc (.int .i64 (i : Int)))), (6, .ptr 104 0), (10, .t (.sc (.int .i64 (l.length : Int)))), (11, .t (.sc (.int .i64 (i : Int))))]) (l := [(104, .box [.t (.sc (.int .i64 (((l.getD i default)).kind))), .t (.sc (.int .i64 (((l.getD i default)).n))), .t (.lst 2 (List.map attrT (((l.getD i default)).attrs))), .t (.lst 3 (List.map elemT (((l.getD i default)).elems)))])])
      (C := [(0:Int) ≤ (i : Int), (List.map dstepT l)[i]? = some (dstepT (l.getD i default))]) (by kernel_rfl) ?_ ?_
    · -- region 5
      refine ⟨?_, (elt_nat ?_), trivial⟩
      all_goals omega
    refine andThen_normal ?_
    refine Sim.seq ?_
    refine Sim.seq ?_
    obtain ⟨hq1, hq2⟩ := hz.at_ (k := i) (by omega)
    refine Sim.reg (orcs := [(1, ⟨none, none, none, some (⟨0, [], .t (.sc (.int .i64 (stepD ((l.getD i default))))), []⟩)⟩)]) (keys := [0, 3, 4, 5, 6, 7, 10, 11]) (τ := [(104, 104)]) (nx := 144)
      (sl := [(0, .t (.lst 4 (List.map dstepT l))), (3, .t (.sc (.int .i64 b))), (4, .t (.sc (.int .i64 a))), (5, .t (.sc (.int .i64 (i : Int)))), (6, .ptr 104 0), (7, .t (.sc (.int .i64 (stepD ((l.getD i default)))))), (10, .t (.sc (.int .i64 (l.length : Int)))), (11, .t (.sc (.int .i64 (i : Int))))]) (l := [(104, .box [.t (.sc (.int .i64 (((l.getD i default)).kind))), .t (.sc (.int .i64 (((l.getD i default)).n))), .t (.lst 2 (List.map attrT (((l.getD i default)).attrs))), .t (.lst 3 (List.map elemT (((l.getD i default)).elems)))])])
      (C := [callable Try.prog 106 = true, FC Try.prog 106 [.t (dstepT ((l.getD i default)))] emp (.t (.sc (.int .i64 (stepD ((l.getD i default)))))) emp]) (by kernel_rfl) ?_ ?_
    · -- region 6
      exact ⟨(by kernel_rfl), (fc_stepR ((l.getD i default)) (by assumption) (by assumption)), trivial⟩
    refine andThen_normal ?_
    refine Sim.seq ?_
    refine Sim.reg (orcs := []) (keys := [0, 3, 4, 5, 6, 7, 10, 11, 21]) (τ := [(104, 104)]) (nx := 160)
      (sl := [(0, .t (.lst 4 (List.map dstepT l))), (3, .t (.sc (.int .i64 b))), (4, .t (.sc (.int .i64 a))), (5, .t (.sc (.int .i64 (i : Int)))), (6, .ptr 104 0), (7, .t (.sc (.int .i64 (stepD ((l.getD i default)))))), (10, .t (.sc (.int .i64 (l.length : Int)))), (11, .t (.sc (.int .i64 (i : Int)))), (21, .t (.sc (.bool ((stepD ((l.getD i default))) != 0))))]) (l := [(104, .box [.t (.sc (.int .i64 (((l.getD i default)).kind))), .t (.sc (.int .i64 (((l.getD i default)).n))), .t (.lst 2 (List.map attrT (((l.getD i default)).attrs))), .t (.lst 3 (List.map elemT (((l.getD i default)).elems)))])])
      (C := []) (by kernel_rfl) ?_ ?_
    · -- region 7
      trivial
    refine andThen_normal ?_
    refine Sim.cond (b := ((stepD ((l.getD i default))) != 0)) (by kernel_rfl) (fun h7 => ?_) (fun h7 => ?_)
    · (try simp only [bne_iff_ne, bne_eq_false_iff_eq, ne_eq] at h7)
      refine Sim.seq ?_
      refine Sim.reg (orcs := []) (keys := [2]) (τ := []) (nx := 176)
        (sl := [(2, .t (.sc (.int .i64 (stepD ((l.getD i default))))))]) (l := [])
        (C := []) (by kernel_rfl) ?_ ?_
      · -- region 8
        trivial
      refine andThen_normal ?_
      refine Sim.ret ?_
      refine andThen_ret ?_
      refine inBlk_ret ?_
      refine andThen_ret ?_
      refine andThen_ret ?_
      refine inBlk_ret ?_
      refine andThen_ret ?_
      refine Fin.mk2 (.inl rfl) (τ := []) (keys := [2]) (nx := 176) (sl := [(2, .t (.sc (.int .i64 (stepD ((l.getD i default))))))]) (l := []) (res' := .t (.sc (.int .i64 (stepD ((l.getD i default)))))) (by kernel_rfl) ?_ (by kernel_rfl) ?_
      · -- end 1, objects
        first | done | rfl
      · -- end 1, result
        have e1 : ((refD l) : Int) = (stepD ((l.getD i default))) := by
          first | (rw [I3.2.2.2.2.2, chkR, if_pos (by omega), if_neg (by omega), if_pos ⟨by omega, by first | exact adjR_1 (by omega) (by omega) | exact adjR_2 (by omega) (by omega) | exact adjR_0 (by omega) (by omega) (by assumption)⟩]; done) | (rw [I3.2.2.2.2.2, chkR]; ((repeat' split) <;> first | rfl | omega | (simp_all; done) | (simp_all; omega)))
        show AVal.t (.sc (.int .i64 (stepD ((l.getD i default))))) = .t (.sc (.int .i64 (refD l)))
        rw [e1]
        try rfl
    · (try simp only [bne_iff_ne, bne_eq_false_iff_eq, ne_eq] at h7)
      refine Sim.skip ?_
      refine andThen_normal ?_
      refine Sim.seq ?_
      refine Sim.seq ?_
      have hzz := stepD_sz (s := l.getD i default) (by omega)
      obtain ⟨hx, _, _⟩ := hd.at_ (k := i) (by omega)
      refine Sim.reg (orcs := []) (keys := [0, 3, 4, 5, 6, 10, 11, 24]) (τ := [(104, 104)]) (nx := 176)
        (sl := [(0, .t (.lst 4 (List.map dstepT l))), (3, .t (.sc (.int .i64 b))), (4, .t (.sc (.int .i64 a))), (5, .t (.sc (.int .i64 (i : Int)))), (6, .ptr 104 0), (10, .t (.sc (.int .i64 (l.length : Int)))), (11, .t (.sc (.int .i64 (i : Int)))), (24, .t (.sc (.bool (decide ((i : Int) > 0)))))]) (l := [(104, .box [.t (.sc (.int .i64 (((l.getD i default)).kind))), .t (.sc (.int .i64 (((l.getD i default)).n))), .t (.lst 2 (List.map attrT (((l.getD i default)).attrs))), .t (.lst 3 (List.map elemT (((l.getD i default)).elems)))])])
        (C := []) (by kernel_rfl) ?_ ?_
      · -- region 9
        trivial
      refine andThen_normal ?_
      refine Sim.cond (b := decide ((i : Int) > 0)) (by kernel_rfl) (fun h9 => ?_) (fun h9 => ?_)
      · (try simp only [decide_eq_true_eq, decide_eq_false_iff_not, Int.not_lt, Int.not_le, gt_iff_lt] at h9)
        refine Sim.seq ?_
        refine Sim.reg (orcs := [(2, ⟨some (.t (.sc (.int .i64 ((i : Int) - 1)))), none, none, none⟩), (3, ⟨none, none, some (dstepT (l.getD (i - 1) default)), none⟩)]) (keys := [0, 3, 4, 6, 8, 10, 11]) (τ := [(104, 104), (216, 216)]) (nx := 232)
          (sl := [(0, .t (.lst 4 (List.map dstepT l))), (3, .t (.sc (.int .i64 b))), (4, .t (.sc (.int .i64 a))), (6, .ptr 104 0), (8, .ptr 216 0), (10, .t (.sc (.int .i64 (l.length : Int)))), (11, .t (.sc (.int .i64 (i : Int))))]) (l := [(104, .box [.t (.sc (.int .i64 (((l.getD i default)).kind))), .t (.sc (.int .i64 (((l.getD i default)).n))), .t (.lst 2 (List.map attrT (((l.getD i default)).attrs))), .t (.lst 3 (List.map elemT (((l.getD i default)).elems)))]), (216, .box [.t (.sc (.int .i64 (((l.getD (i - 1) default)).kind))), .t (.sc (.int .i64 (((l.getD (i - 1) default)).n))), .t (.lst 2 (List.map attrT (((l.getD (i - 1) default)).attrs))), .t (.lst 3 (List.map elemT (((l.getD (i - 1) default)).elems)))])])
          (C := [Weak (.t (.sc (.int .i64 (IntKind.i64.wrap ((i : Int) - 1))))) (.t (.sc (.int .i64 ((i : Int) - 1)))), (0:Int) ≤ ((i : Int) - 1), (List.map dstepT l)[(Int.toNat ((i : Int) - 1))]? = some (dstepT (l.getD (i - 1) default))]) (by kernel_rfl) ?_ ?_
        · -- region 10
          refine ⟨(Weak.of_eq (nw ?_)), ?_, (elt_map' ?_ ?_), trivial⟩
          all_goals omega
        refine andThen_normal ?_
        refine Sim.seq ?_
        refine Sim.reg (orcs := []) (keys := [0, 3, 4, 6, 8, 10, 11, 31]) (τ := [(104, 104), (216, 216)]) (nx := 248)
          (sl := [(0, .t (.lst 4 (List.map dstepT l))), (3, .t (.sc (.int .i64 b))), (4, .t (.sc (.int .i64 a))), (6, .ptr 104 0), (8, .ptr 216 0), (10, .t (.sc (.int .i64 (l.length : Int)))), (11, .t (.sc (.int .i64 (i : Int)))), (31, .t (.sc (.int .i64 (((l.getD i default)).kind))))]) (l := [(104, .box [.t (.sc (.int .i64 (((l.getD i default)).kind))), .t (.sc (.int .i64 (((l.getD i default)).n))), .t (.lst 2 (List.map attrT (((l.getD i default)).attrs))), .t (.lst 3 (List.map elemT (((l.getD i default)).elems)))]), (216, .box [.t (.sc (.int .i64 (((l.getD (i - 1) default)).kind))), .t (.sc (.int .i64 (((l.getD (i - 1) default)).n))), .t (.lst 2 (List.map attrT (((l.getD (i - 1) default)).attrs))), .t (.lst 3 (List.map elemT (((l.getD (i - 1) default)).elems)))])])
          (C := []) (by kernel_rfl) ?_ ?_
        · -- region 11
          trivial
        refine andThen_normal ?_
        refine Sim.block ?_
        refine Sim.seq ?_
        refine Sim.reg (orcs := []) (keys := [0, 3, 4, 6, 8, 10, 11, 31, 42]) (τ := [(104, 104), (216, 216)]) (nx := 264)
          (sl := [(0, .t (.lst 4 (List.map dstepT l))), (3, .t (.sc (.int .i64 b))), (4, .t (.sc (.int .i64 a))), (6, .ptr 104 0), (8, .ptr 216 0), (10, .t (.sc (.int .i64 (l.length : Int)))), (11, .t (.sc (.int .i64 (i : Int)))), (31, .t (.sc (.int .i64 (((l.getD i default)).kind)))), (42, .t (.sc (.bool ((((l.getD i default)).kind) == 1))))]) (l := [(104, .box [.t (.sc (.int .i64 (((l.getD i default)).kind))), .t (.sc (.int .i64 (((l.getD i default)).n))), .t (.lst 2 (List.map attrT (((l.getD i default)).attrs))), .t (.lst 3 (List.map elemT (((l.getD i default)).elems)))]), (216, .box [.t (.sc (.int .i64 (((l.getD (i - 1) default)).kind))), .t (.sc (.int .i64 (((l.getD (i - 1) default)).n))), .t (.lst 2 (List.map attrT (((l.getD (i - 1) default)).attrs))), .t (.lst 3 (List.map elemT (((l.getD (i - 1) default)).elems)))])])
          (C := []) (by kernel_rfl) ?_ ?_
        · -- region 14
          trivial
        refine andThen_normal ?_
        refine Sim.cond (b := ((((l.getD i default)).kind) == 1)) (by kernel_rfl) (fun h14 => ?_) (fun h14 => ?_)
        · (try simp only [beq_iff_eq, beq_eq_false_iff_ne, ne_eq] at h14)
          refine Sim.seq ?_
          refine Sim.reg (orcs := []) (keys := [0, 3, 4, 6, 10, 11, 46]) (τ := [(104, 104)]) (nx := 288)
            (sl := [(0, .t (.lst 4 (List.map dstepT l))), (3, .t (.sc (.int .i64 b))), (4, .t (.sc (.int .i64 a))), (6, .ptr 104 0), (10, .t (.sc (.int .i64 (l.length : Int)))), (11, .t (.sc (.int .i64 (i : Int)))), (46, .t (.sc (.bool ((((l.getD (i - 1) default)).kind) != 0))))]) (l := [(104, .box [.t (.sc (.int .i64 (((l.getD i default)).kind))), .t (.sc (.int .i64 (((l.getD i default)).n))), .t (.lst 2 (List.map attrT (((l.getD i default)).attrs))), .t (.lst 3 (List.map elemT (((l.getD i default)).elems)))])])
            (C := []) (by kernel_rfl) ?_ ?_
          · -- region 15
            trivial
          refine andThen_normal ?_
          refine Sim.cond (b := ((((l.getD (i - 1) default)).kind) != 0)) (by kernel_rfl) (fun h15 => ?_) (fun h15 => ?_)
          · (try simp only [bne_iff_ne, bne_eq_false_iff_eq, ne_eq] at h15)
            refine Sim.seq ?_
            refine Sim.reg (orcs := []) (keys := [2]) (τ := []) (nx := 296)
              (sl := [(2, .t (.sc (.int .i64 5)))]) (l := [])
              (C := []) (by kernel_rfl) ?_ ?_
            · -- region 16
              trivial
            refine andThen_normal ?_
            refine Sim.ret ?_
            refine inBlk_ret ?_
            refine andThen_ret ?_
            refine inBlk_ret ?_
            refine andThen_ret ?_
            refine andThen_ret ?_
            refine inBlk_ret ?_
            refine andThen_ret ?_
            refine Fin.mk2 (.inl rfl) (τ := []) (keys := [2]) (nx := 296) (sl := [(2, .t (.sc (.int .i64 5)))]) (l := []) (res' := .t (.sc (.int .i64 5))) (by kernel_rfl) ?_ (by kernel_rfl) ?_
            · -- end 2, objects
              first | done | rfl
            · -- end 2, result
              have e2 : ((refD l) : Int) = 5 := by
                first | (rw [I3.2.2.2.2.2, chkR, if_pos (by omega), if_neg (by omega), if_pos ⟨by omega, by first | exact adjR_1 (by omega) (by omega) | exact adjR_2 (by omega) (by omega) | exact adjR_0 (by omega) (by omega) (by assumption)⟩]; done) | (rw [I3.2.2.2.2.2, chkR]; ((repeat' split) <;> first | rfl | omega | (simp_all; done) | (simp_all; omega)))
              show AVal.t (.sc (.int .i64 5)) = .t (.sc (.int .i64 (refD l)))
              rw [e2]
              try rfl
          · (try simp only [bne_iff_ne, bne_eq_false_iff_eq, ne_eq] at h15)
            refine Sim.skip ?_
            refine inBlk_normal ?_
            refine andThen_normal ?_
            refine Sim.seq ?_
            refine Sim.seq ?_
            refine Sim.reg (orcs := []) (keys := [0, 3, 4, 6, 10, 11, 58]) (τ := [(104, 104)]) (nx := 344)
              (sl := [(0, .t (.lst 4 (List.map dstepT l))), (3, .t (.sc (.int .i64 b))), (4, .t (.sc (.int .i64 a))), (6, .ptr 104 0), (10, .t (.sc (.int .i64 (l.length : Int)))), (11, .t (.sc (.int .i64 (i : Int)))), (58, .t (.sc (.bool (((((l.getD i default)).kind) != 1) && decide (b < 2147483648)))))]) (l := [(104, .box [.t (.sc (.int .i64 (((l.getD i default)).kind))), .t (.sc (.int .i64 (((l.getD i default)).n))), .t (.lst 2 (List.map attrT (((l.getD i default)).attrs))), .t (.lst 3 (List.map elemT (((l.getD i default)).elems)))])])
              (C := [((((l.getD i default)).kind) != 1) = true → ((((l.getD i default)).kind) != 1) = true, ((((l.getD i default)).kind) != 1) = true → ((((l.getD i default)).kind) != 1) = true]) (by kernel_rfl) ?_ ?_
            · -- region 20
              refine ⟨?_, ?_, trivial⟩
              all_goals (first | omega | with_reducible exact fun h => h | (intro hg hq; rw [hg, hq]; rfl) | (intro hq; rw [hq]; done) | (intro hq; rw [hq]; rfl) | ((try intro hg); (try simp [-List.getD_eq_getElem?_getD] at hg); (try simp only [List.length_map]); first | done | omega | rfl | (simp; done) | (simp; omega) | (simp [hg]; done) | (intro hq; simp [hg, hq]; done) | (intro hq; simp [hg, hq]; omega)))
            refine andThen_normal ?_
            refine Sim.cond (b := (((((l.getD i default)).kind) != 1) && decide (b < 2147483648))) (by kernel_rfl) (fun h20 => ?_) (fun h20 => ?_)
            · (try simp only [decide_eq_true_eq, decide_eq_false_iff_not, Int.not_lt, Int.not_le, Bool.and_eq_true, Bool.and_eq_false_iff, Bool.not_eq_true', Bool.not_eq_false', bne_iff_ne, bne_eq_false_iff_eq, ne_eq] at h20)
              refine Sim.reg (orcs := [(3, ⟨some (.t (.sc (.int .i64 (b + (((l.getD i default)).n))))), none, none, none⟩)]) (keys := [0, 3, 4, 6, 10, 11]) (τ := [(104, 104)]) (nx := 384)
                (sl := [(0, .t (.lst 4 (List.map dstepT l))), (3, .t (.sc (.int .i64 (b + (((l.getD i default)).n))))), (4, .t (.sc (.int .i64 a))), (6, .ptr 104 0), (10, .t (.sc (.int .i64 (l.length : Int)))), (11, .t (.sc (.int .i64 (i : Int))))]) (l := [(104, .box [.t (.sc (.int .i64 (((l.getD i default)).kind))), .t (.sc (.int .i64 (((l.getD i default)).n))), .t (.lst 2 (List.map attrT (((l.getD i default)).attrs))), .t (.lst 3 (List.map elemT (((l.getD i default)).elems)))])])
                (C := [Weak (.t (.sc (.int .i64 (IntKind.i64.wrap (b + (((l.getD i default)).n)))))) (.t (.sc (.int .i64 (b + (((l.getD i default)).n)))))]) (by kernel_rfl) ?_ ?_
              · -- region 21
                refine ⟨(Weak.of_eq (nw ?_)), trivial⟩
                all_goals omega
              refine andThen_normal ?_
              refine Sim.seq ?_
              refine Sim.reg (orcs := []) (keys := [0, 3, 4, 6, 10, 11, 69]) (τ := [(104, 104)]) (nx := 440)
                (sl := [(0, .t (.lst 4 (List.map dstepT l))), (3, .t (.sc (.int .i64 (b + (((l.getD i default)).n))))), (4, .t (.sc (.int .i64 a))), (6, .ptr 104 0), (10, .t (.sc (.int .i64 (l.length : Int)))), (11, .t (.sc (.int .i64 (i : Int)))), (69, .t (.sc (.bool (((((l.getD i default)).kind) != 2) && decide (a < 2147483648)))))]) (l := [(104, .box [.t (.sc (.int .i64 (((l.getD i default)).kind))), .t (.sc (.int .i64 (((l.getD i default)).n))), .t (.lst 2 (List.map attrT (((l.getD i default)).attrs))), .t (.lst 3 (List.map elemT (((l.getD i default)).elems)))])])
                (C := [((((l.getD i default)).kind) != 2) = true → ((((l.getD i default)).kind) != 2) = true, ((((l.getD i default)).kind) != 2) = true → ((((l.getD i default)).kind) != 2) = true]) (by kernel_rfl) ?_ ?_
              · -- region 22
                refine ⟨?_, ?_, trivial⟩
                all_goals omega
              refine andThen_normal ?_
              refine Sim.cond (b := (((((l.getD i default)).kind) != 2) && decide (a < 2147483648))) (by kernel_rfl) (fun h22 => ?_) (fun h22 => ?_)
              · (try simp only [decide_eq_true_eq, decide_eq_false_iff_not, Int.not_lt, Int.not_le, Bool.and_eq_true, Bool.and_eq_false_iff, Bool.not_eq_true', Bool.not_eq_false', bne_iff_ne, bne_eq_false_iff_eq, ne_eq] at h22)
                refine Sim.reg (orcs := [(5, ⟨some (.t (.sc (.int .i64 ((((l.getD i default)).elems).length : Int)))), none, none, none⟩), (6, ⟨some (.t (.sc (.int .i64 ((((l.getD i default)).n) + ((((l.getD i default)).elems).length : Int))))), none, none, none⟩), (7, ⟨some (.t (.sc (.int .i64 (a + ((((l.getD i default)).n) + ((((l.getD i default)).elems).length : Int)))))), none, none, none⟩)]) (keys := [0, 3, 4, 10, 11]) (τ := []) (nx := 512)
                  (sl := [(0, .t (.lst 4 (List.map dstepT l))), (3, .t (.sc (.int .i64 (b + (((l.getD i default)).n))))), (4, .t (.sc (.int .i64 (a + ((((l.getD i default)).n) + ((((l.getD i default)).elems).length : Int)))))), (10, .t (.sc (.int .i64 (l.length : Int)))), (11, .t (.sc (.int .i64 (i : Int))))]) (l := [])
                  (C := [Weak (.t (.sc (.int .i64 ((List.map elemT (((l.getD i default)).elems)).length : Int)))) (.t (.sc (.int .i64 ((((l.getD i default)).elems).length : Int)))), Weak (.t (.sc (.int .i64 (IntKind.i64.wrap ((((l.getD i default)).n) + ((((l.getD i default)).elems).length : Int)))))) (.t (.sc (.int .i64 ((((l.getD i default)).n) + ((((l.getD i default)).elems).length : Int))))), Weak (.t (.sc (.int .i64 (IntKind.i64.wrap (a + ((((l.getD i default)).n) + ((((l.getD i default)).elems).length : Int))))))) (.t (.sc (.int .i64 (a + ((((l.getD i default)).n) + ((((l.getD i default)).elems).length : Int))))))]) (by kernel_rfl) ?_ ?_
                · -- region 23
                  refine ⟨(Weak.of_eq len_map), (Weak.of_eq (nw ?_)), (Weak.of_eq (nw ?_)), trivial⟩
                  all_goals omega
                refine inBlk_normal ?_
                refine andThen_normal ?_
                refine Sim.reg (orcs := [(0, ⟨some (.t (.sc (.int .i64 ((i : Int) + 1)))), none, none, none⟩)]) (keys := [0, 3, 4, 10, 11]) (τ := []) (nx := 528)
                  (sl := [(0, .t (.lst 4 (List.map dstepT l))), (3, .t (.sc (.int .i64 (b + (((l.getD i default)).n))))), (4, .t (.sc (.int .i64 (a + ((((l.getD i default)).n) + ((((l.getD i default)).elems).length : Int)))))), (10, .t (.sc (.int .i64 (l.length : Int)))), (11, .t (.sc (.int .i64 ((i : Int) + 1))))]) (l := [])
                  (C := [Weak (.t (.sc (.int .i64 (IntKind.i64.wrap ((i : Int) + 1))))) (.t (.sc (.int .i64 ((i : Int) + 1))))]) (by kernel_rfl) ?_ ?_
                · -- region 24
                  refine ⟨(Weak.of_eq (nw ?_)), trivial⟩
                  all_goals omega
                refine andThen_normal ?_
                refine LoopSim.weaken (Le.ren (τ := []) (keys := [0, 3, 4, 10, 11]) (nx := 48) (sl := [(0, .t (.lst 4 (List.map dstepT l))), (3, .t (.sc (.int .i64 (b + (((l.getD i default)).n))))), (4, .t (.sc (.int .i64 (a + ((((l.getD i default)).n) + ((((l.getD i default)).elems).length : Int)))))), (10, .t (.sc (.int .i64 (l.length : Int)))), (11, .t (.sc (.int .i64 (((i + 1) : Nat) : Int))))]) (l := []) (by kernel_rfl)) ?_
                refine ih3 ((b + (((l.getD i default)).n)), (a + ((((l.getD i default)).n) + ((((l.getD i default)).elems).length : Int))), (i + 1)) ?_ ?_
                · -- back 3.1, invariant
                  refine ⟨by omega, by omega, by omega, by omega, by omega, ?_⟩
                  rw [I3.2.2.2.2.2, chkR, if_pos (by omega), if_neg (by omega), if_neg (by first | omega | exact fun hh => adjR_n1 (by omega) (by omega) hh.2 | exact fun hh => adjR_n2 (by omega) (by omega) hh.2 | exact fun hh => adjR_n0 (by omega) (by omega) (by assumption) hh.2)]
                  first | (exfalso; omega) | ((first | rw [if_pos (by omega)] | rw [if_neg (by omega)]); (first | rw [if_pos (by omega)] | rw [if_neg (by omega)]))
                · -- back 3.1, measure
                  show (_:Nat) < _; omega
              · (try simp only [decide_eq_true_eq, decide_eq_false_iff_not, Int.not_lt, Int.not_le, Bool.and_eq_true, Bool.and_eq_false_iff, Bool.not_eq_true', Bool.not_eq_false', bne_iff_ne, bne_eq_false_iff_eq, ne_eq] at h22)
                refine Sim.skip ?_
                refine inBlk_normal ?_
                refine andThen_normal ?_
                refine Sim.reg (orcs := [(0, ⟨some (.t (.sc (.int .i64 ((i : Int) + 1)))), none, none, none⟩)]) (keys := [0, 3, 4, 10, 11]) (τ := []) (nx := 456)
                  (sl := [(0, .t (.lst 4 (List.map dstepT l))), (3, .t (.sc (.int .i64 (b + (((l.getD i default)).n))))), (4, .t (.sc (.int .i64 a))), (10, .t (.sc (.int .i64 (l.length : Int)))), (11, .t (.sc (.int .i64 ((i : Int) + 1))))]) (l := [])
                  (C := [Weak (.t (.sc (.int .i64 (IntKind.i64.wrap ((i : Int) + 1))))) (.t (.sc (.int .i64 ((i : Int) + 1))))]) (by kernel_rfl) ?_ ?_
                · -- region 24
                  refine ⟨(Weak.of_eq (nw ?_)), trivial⟩
                  all_goals omega
                refine andThen_normal ?_
                refine LoopSim.weaken (Le.ren (τ := []) (keys := [0, 3, 4, 10, 11]) (nx := 48) (sl := [(0, .t (.lst 4 (List.map dstepT l))), (3, .t (.sc (.int .i64 (b + (((l.getD i default)).n))))), (4, .t (.sc (.int .i64 a))), (10, .t (.sc (.int .i64 (l.length : Int)))), (11, .t (.sc (.int .i64 (((i + 1) : Nat) : Int))))]) (l := []) (by kernel_rfl)) ?_
                refine ih3 ((b + (((l.getD i default)).n)), a, (i + 1)) ?_ ?_
                · -- back 3.2, invariant
                  refine ⟨by omega, by omega, by omega, by omega, by omega, ?_⟩
                  rw [I3.2.2.2.2.2, chkR, if_pos (by omega), if_neg (by omega), if_neg (by first | omega | exact fun hh => adjR_n1 (by omega) (by omega) hh.2 | exact fun hh => adjR_n2 (by omega) (by omega) hh.2 | exact fun hh => adjR_n0 (by omega) (by omega) (by assumption) hh.2)]
                  first | (exfalso; omega) | ((first | rw [if_pos (by omega)] | rw [if_neg (by omega)]); (first | rw [if_pos (by omega)] | rw [if_neg (by omega)]))
                · -- back 3.2, measure
                  show (_:Nat) < _; omega
            · (try simp only [decide_eq_true_eq, decide_eq_false_iff_not, Int.not_lt, Int.not_le, Bool.and_eq_true, Bool.and_eq_false_iff, Bool.not_eq_true', Bool.not_eq_false', bne_iff_ne, bne_eq_false_iff_eq, ne_eq] at h20)
              refine Sim.skip ?_
              refine andThen_normal ?_
              refine Sim.seq ?_
              refine Sim.reg (orcs := []) (keys := [0, 3, 4, 6, 10, 11, 69]) (τ := [(104, 104)]) (nx := 400)
                (sl := [(0, .t (.lst 4 (List.map dstepT l))), (3, .t (.sc (.int .i64 b))), (4, .t (.sc (.int .i64 a))), (6, .ptr 104 0), (10, .t (.sc (.int .i64 (l.length : Int)))), (11, .t (.sc (.int .i64 (i : Int)))), (69, .t (.sc (.bool (((((l.getD i default)).kind) != 2) && decide (a < 2147483648)))))]) (l := [(104, .box [.t (.sc (.int .i64 (((l.getD i default)).kind))), .t (.sc (.int .i64 (((l.getD i default)).n))), .t (.lst 2 (List.map attrT (((l.getD i default)).attrs))), .t (.lst 3 (List.map elemT (((l.getD i default)).elems)))])])
                (C := [((((l.getD i default)).kind) != 2) = true → ((((l.getD i default)).kind) != 2) = true, ((((l.getD i default)).kind) != 2) = true → ((((l.getD i default)).kind) != 2) = true]) (by kernel_rfl) ?_ ?_
              · -- region 22
                refine ⟨?_, ?_, trivial⟩
                all_goals (first | omega | with_reducible exact fun h => h | (intro hg hq; rw [hg, hq]; rfl) | (intro hq; rw [hq]; done) | (intro hq; rw [hq]; rfl) | ((try intro hg); (try simp [-List.getD_eq_getElem?_getD] at hg); (try simp only [List.length_map]); first | done | omega | rfl | (simp; done) | (simp; omega) | (simp [hg]; done) | (intro hq; simp [hg, hq]; done) | (intro hq; simp [hg, hq]; omega)))
              refine andThen_normal ?_
              refine Sim.cond (b := (((((l.getD i default)).kind) != 2) && decide (a < 2147483648))) (by kernel_rfl) (fun h22 => ?_) (fun h22 => ?_)
              · (try simp only [decide_eq_true_eq, decide_eq_false_iff_not, Int.not_lt, Int.not_le, Bool.and_eq_true, Bool.and_eq_false_iff, Bool.not_eq_true', Bool.not_eq_false', bne_iff_ne, bne_eq_false_iff_eq, ne_eq] at h22)
                refine Sim.reg (orcs := [(5, ⟨some (.t (.sc (.int .i64 ((((l.getD i default)).elems).length : Int)))), none, none, none⟩), (6, ⟨some (.t (.sc (.int .i64 ((((l.getD i default)).n) + ((((l.getD i default)).elems).length : Int))))), none, none, none⟩), (7, ⟨some (.t (.sc (.int .i64 (a + ((((l.getD i default)).n) + ((((l.getD i default)).elems).length : Int)))))), none, none, none⟩)]) (keys := [0, 3, 4, 10, 11]) (τ := []) (nx := 472)
                  (sl := [(0, .t (.lst 4 (List.map dstepT l))), (3, .t (.sc (.int .i64 b))), (4, .t (.sc (.int .i64 (a + ((((l.getD i default)).n) + ((((l.getD i default)).elems).length : Int)))))), (10, .t (.sc (.int .i64 (l.length : Int)))), (11, .t (.sc (.int .i64 (i : Int))))]) (l := [])
                  (C := [Weak (.t (.sc (.int .i64 ((List.map elemT (((l.getD i default)).elems)).length : Int)))) (.t (.sc (.int .i64 ((((l.getD i default)).elems).length : Int)))), Weak (.t (.sc (.int .i64 (IntKind.i64.wrap ((((l.getD i default)).n) + ((((l.getD i default)).elems).length : Int)))))) (.t (.sc (.int .i64 ((((l.getD i default)).n) + ((((l.getD i default)).elems).length : Int))))), Weak (.t (.sc (.int .i64 (IntKind.i64.wrap (a + ((((l.getD i default)).n) + ((((l.getD i default)).elems).length : Int))))))) (.t (.sc (.int .i64 (a + ((((l.getD i default)).n) + ((((l.getD i default)).elems).length : Int))))))]) (by kernel_rfl) ?_ ?_
                · -- region 23
                  refine ⟨(Weak.of_eq len_map), (Weak.of_eq (nw ?_)), (Weak.of_eq (nw ?_)), trivial⟩
                  all_goals omega
                refine inBlk_normal ?_
                refine andThen_normal ?_
                refine Sim.reg (orcs := [(0, ⟨some (.t (.sc (.int .i64 ((i : Int) + 1)))), none, none, none⟩)]) (keys := [0, 3, 4, 10, 11]) (τ := []) (nx := 488)
                  (sl := [(0, .t (.lst 4 (List.map dstepT l))), (3, .t (.sc (.int .i64 b))), (4, .t (.sc (.int .i64 (a + ((((l.getD i default)).n) + ((((l.getD i default)).elems).length : Int)))))), (10, .t (.sc (.int .i64 (l.length : Int)))), (11, .t (.sc (.int .i64 ((i : Int) + 1))))]) (l := [])
                  (C := [Weak (.t (.sc (.int .i64 (IntKind.i64.wrap ((i : Int) + 1))))) (.t (.sc (.int .i64 ((i : Int) + 1))))]) (by kernel_rfl) ?_ ?_
                · -- region 24
                  refine ⟨(Weak.of_eq (nw ?_)), trivial⟩
                  all_goals omega
                refine andThen_normal ?_
                refine LoopSim.weaken (Le.ren (τ := []) (keys := [0, 3, 4, 10, 11]) (nx := 48) (sl := [(0, .t (.lst 4 (List.map dstepT l))), (3, .t (.sc (.int .i64 b))), (4, .t (.sc (.int .i64 (a + ((((l.getD i default)).n) + ((((l.getD i default)).elems).length : Int)))))), (10, .t (.sc (.int .i64 (l.length : Int)))), (11, .t (.sc (.int .i64 (((i + 1) : Nat) : Int))))]) (l := []) (by kernel_rfl)) ?_
                refine ih3 (b, (a + ((((l.getD i default)).n) + ((((l.getD i default)).elems).length : Int))), (i + 1)) ?_ ?_
                · -- back 3.3, invariant
                  refine ⟨by omega, by omega, by omega, by omega, by omega, ?_⟩
                  rw [I3.2.2.2.2.2, chkR, if_pos (by omega), if_neg (by omega), if_neg (by first | omega | exact fun hh => adjR_n1 (by omega) (by omega) hh.2 | exact fun hh => adjR_n2 (by omega) (by omega) hh.2 | exact fun hh => adjR_n0 (by omega) (by omega) (by assumption) hh.2)]
                  first | (exfalso; omega) | ((first | rw [if_pos (by omega)] | rw [if_neg (by omega)]); (first | rw [if_pos (by omega)] | rw [if_neg (by omega)]))
                · -- back 3.3, measure
                  show (_:Nat) < _; (first | omega | with_reducible exact fun h => h | (intro hq; rw [hq]; done) | (intro hq; rw [hq]; rfl) | (simp only [List.length_map]; done) | (simp only [List.length_map]; omega) | (simp; omega) | (simp; done))
              · (try simp only [decide_eq_true_eq, decide_eq_false_iff_not, Int.not_lt, Int.not_le, Bool.and_eq_true, Bool.and_eq_false_iff, Bool.not_eq_true', Bool.not_eq_false', bne_iff_ne, bne_eq_false_iff_eq, ne_eq] at h22)
                refine Sim.skip ?_
                refine inBlk_normal ?_
                refine andThen_normal ?_
                refine Sim.reg (orcs := [(0, ⟨some (.t (.sc (.int .i64 ((i : Int) + 1)))), none, none, none⟩)]) (keys := [0, 3, 4, 10, 11]) (τ := []) (nx := 416)
                  (sl := [(0, .t (.lst 4 (List.map dstepT l))), (3, .t (.sc (.int .i64 b))), (4, .t (.sc (.int .i64 a))), (10, .t (.sc (.int .i64 (l.length : Int)))), (11, .t (.sc (.int .i64 ((i : Int) + 1))))]) (l := [])
                  (C := [Weak (.t (.sc (.int .i64 (IntKind.i64.wrap ((i : Int) + 1))))) (.t (.sc (.int .i64 ((i : Int) + 1))))]) (by kernel_rfl) ?_ ?_
                · -- region 24
                  refine ⟨(Weak.of_eq (nw ?_)), trivial⟩
                  all_goals omega
                refine andThen_normal ?_
                refine LoopSim.weaken (Le.ren (τ := []) (keys := [0, 3, 4, 10, 11]) (nx := 48) (sl := [(0, .t (.lst 4 (List.map dstepT l))), (3, .t (.sc (.int .i64 b))), (4, .t (.sc (.int .i64 a))), (10, .t (.sc (.int .i64 (l.length : Int)))), (11, .t (.sc (.int .i64 (((i + 1) : Nat) : Int))))]) (l := []) (by kernel_rfl)) ?_
                refine ih3 (b, a, (i + 1)) ?_ ?_
                · -- back 3.4, invariant
                  refine ⟨by omega, by omega, by omega, by omega, by omega, ?_⟩
                  rw [I3.2.2.2.2.2, chkR, if_pos (by omega), if_neg (by omega), if_neg (by first | omega | exact fun hh => adjR_n1 (by omega) (by omega) hh.2 | exact fun hh => adjR_n2 (by omega) (by omega) hh.2 | exact fun hh => adjR_n0 (by omega) (by omega) (by assumption) hh.2)]
                  first | (exfalso; omega) | ((first | rw [if_pos (by omega)] | rw [if_neg (by omega)]); (first | rw [if_pos (by omega)] | rw [if_neg (by omega)]))
                · -- back 3.4, measure
                  show (_:Nat) < _; (first | omega | with_reducible exact fun h => h | (intro hq; rw [hq]; done) | (intro hq; rw [hq]; rfl) | (simp only [List.length_map]; done) | (simp only [List.length_map]; omega) | (simp; omega) | (simp; done))
        · (try simp only [beq_iff_eq, beq_eq_false_iff_ne, ne_eq] at h14)
          refine Sim.seq ?_
          refine Sim.reg (orcs := []) (keys := [0, 3, 4, 6, 8, 10, 11, 47]) (τ := [(104, 104), (216, 216)]) (nx := 280)
            (sl := [(0, .t (.lst 4 (List.map dstepT l))), (3, .t (.sc (.int .i64 b))), (4, .t (.sc (.int .i64 a))), (6, .ptr 104 0), (8, .ptr 216 0), (10, .t (.sc (.int .i64 (l.length : Int)))), (11, .t (.sc (.int .i64 (i : Int)))), (47, .t (.sc (.bool ((((l.getD i default)).kind) == 2))))]) (l := [(104, .box [.t (.sc (.int .i64 (((l.getD i default)).kind))), .t (.sc (.int .i64 (((l.getD i default)).n))), .t (.lst 2 (List.map attrT (((l.getD i default)).attrs))), .t (.lst 3 (List.map elemT (((l.getD i default)).elems)))]), (216, .box [.t (.sc (.int .i64 (((l.getD (i - 1) default)).kind))), .t (.sc (.int .i64 (((l.getD (i - 1) default)).n))), .t (.lst 2 (List.map attrT (((l.getD (i - 1) default)).attrs))), .t (.lst 3 (List.map elemT (((l.getD (i - 1) default)).elems)))])])
            (C := []) (by kernel_rfl) ?_ ?_
          · -- region 17
            trivial
          refine andThen_normal ?_
          refine Sim.cond (b := ((((l.getD i default)).kind) == 2)) (by kernel_rfl) (fun h17 => ?_) (fun h17 => ?_)
          · (try simp only [beq_iff_eq, beq_eq_false_iff_ne, ne_eq] at h17)
            refine Sim.seq ?_
            refine Sim.reg (orcs := []) (keys := [0, 3, 4, 6, 10, 11, 51]) (τ := [(104, 104)]) (nx := 304)
              (sl := [(0, .t (.lst 4 (List.map dstepT l))), (3, .t (.sc (.int .i64 b))), (4, .t (.sc (.int .i64 a))), (6, .ptr 104 0), (10, .t (.sc (.int .i64 (l.length : Int)))), (11, .t (.sc (.int .i64 (i : Int)))), (51, .t (.sc (.bool ((((l.getD (i - 1) default)).kind) == 2))))]) (l := [(104, .box [.t (.sc (.int .i64 (((l.getD i default)).kind))), .t (.sc (.int .i64 (((l.getD i default)).n))), .t (.lst 2 (List.map attrT (((l.getD i default)).attrs))), .t (.lst 3 (List.map elemT (((l.getD i default)).elems)))])])
              (C := []) (by kernel_rfl) ?_ ?_
            · -- region 18
              trivial
            refine andThen_normal ?_
            refine Sim.cond (b := ((((l.getD (i - 1) default)).kind) == 2)) (by kernel_rfl) (fun h18 => ?_) (fun h18 => ?_)
            · (try simp only [beq_iff_eq, beq_eq_false_iff_ne, ne_eq] at h18)
              refine Sim.seq ?_
              refine Sim.reg (orcs := []) (keys := [2]) (τ := []) (nx := 312)
                (sl := [(2, .t (.sc (.int .i64 5)))]) (l := [])
                (C := []) (by kernel_rfl) ?_ ?_
              · -- region 19
                trivial
              refine andThen_normal ?_
              refine Sim.ret ?_
              refine inBlk_ret ?_
              refine andThen_ret ?_
              refine inBlk_ret ?_
              refine andThen_ret ?_
              refine andThen_ret ?_
              refine inBlk_ret ?_
              refine andThen_ret ?_
              refine Fin.mk2 (.inl rfl) (τ := []) (keys := [2]) (nx := 312) (sl := [(2, .t (.sc (.int .i64 5)))]) (l := []) (res' := .t (.sc (.int .i64 5))) (by kernel_rfl) ?_ (by kernel_rfl) ?_
              · -- end 3, objects
                first | done | rfl
              · -- end 3, result
                have e3 : ((refD l) : Int) = 5 := by
                  first | (rw [I3.2.2.2.2.2, chkR, if_pos (by omega), if_neg (by omega), if_pos ⟨by omega, by first | exact adjR_1 (by omega) (by omega) | exact adjR_2 (by omega) (by omega) | exact adjR_0 (by omega) (by omega) (by assumption)⟩]; done) | (rw [I3.2.2.2.2.2, chkR]; ((repeat' split) <;> first | rfl | omega | (simp_all; done) | (simp_all; omega)))
                show AVal.t (.sc (.int .i64 5)) = .t (.sc (.int .i64 (refD l)))
                rw [e3]
                try rfl
            · (try simp only [beq_iff_eq, beq_eq_false_iff_ne, ne_eq] at h18)
              refine Sim.skip ?_
              refine inBlk_normal ?_
              refine andThen_normal ?_
              refine Sim.seq ?_
              refine Sim.seq ?_
              refine Sim.reg (orcs := []) (keys := [0, 3, 4, 6, 10, 11, 58]) (τ := [(104, 104)]) (nx := 360)
                (sl := [(0, .t (.lst 4 (List.map dstepT l))), (3, .t (.sc (.int .i64 b))), (4, .t (.sc (.int .i64 a))), (6, .ptr 104 0), (10, .t (.sc (.int .i64 (l.length : Int)))), (11, .t (.sc (.int .i64 (i : Int)))), (58, .t (.sc (.bool (((((l.getD i default)).kind) != 1) && decide (b < 2147483648)))))]) (l := [(104, .box [.t (.sc (.int .i64 (((l.getD i default)).kind))), .t (.sc (.int .i64 (((l.getD i default)).n))), .t (.lst 2 (List.map attrT (((l.getD i default)).attrs))), .t (.lst 3 (List.map elemT (((l.getD i default)).elems)))])])
                (C := [((((l.getD i default)).kind) != 1) = true → ((((l.getD i default)).kind) != 1) = true, ((((l.getD i default)).kind) != 1) = true → ((((l.getD i default)).kind) != 1) = true]) (by kernel_rfl) ?_ ?_
              · -- region 20
                refine ⟨?_, ?_, trivial⟩
                all_goals (first | omega | with_reducible exact fun h => h | (intro hg hq; rw [hg, hq]; rfl) | (intro hq; rw [hq]; done) | (intro hq; rw [hq]; rfl) | ((try intro hg); (try simp [-List.getD_eq_getElem?_getD] at hg); (try simp only [List.length_map]); first | done | omega | rfl | (simp; done) | (simp; omega) | (simp [hg]; done) | (intro hq; simp [hg, hq]; done) | (intro hq; simp [hg, hq]; omega)))
              refine andThen_normal ?_
              refine Sim.cond (b := (((((l.getD i default)).kind) != 1) && decide (b < 2147483648))) (by kernel_rfl) (fun h20 => ?_) (fun h20 => ?_)
              · (try simp only [decide_eq_true_eq, decide_eq_false_iff_not, Int.not_lt, Int.not_le, Bool.and_eq_true, Bool.and_eq_false_iff, Bool.not_eq_true', Bool.not_eq_false', bne_iff_ne, bne_eq_false_iff_eq, ne_eq] at h20)
                refine Sim.reg (orcs := [(3, ⟨some (.t (.sc (.int .i64 (b + (((l.getD i default)).n))))), none, none, none⟩)]) (keys := [0, 3, 4, 6, 10, 11]) (τ := [(104, 104)]) (nx := 400)
                  (sl := [(0, .t (.lst 4 (List.map dstepT l))), (3, .t (.sc (.int .i64 (b + (((l.getD i default)).n))))), (4, .t (.sc (.int .i64 a))), (6, .ptr 104 0), (10, .t (.sc (.int .i64 (l.length : Int)))), (11, .t (.sc (.int .i64 (i : Int))))]) (l := [(104, .box [.t (.sc (.int .i64 (((l.getD i default)).kind))), .t (.sc (.int .i64 (((l.getD i default)).n))), .t (.lst 2 (List.map attrT (((l.getD i default)).attrs))), .t (.lst 3 (List.map elemT (((l.getD i default)).elems)))])])
                  (C := [Weak (.t (.sc (.int .i64 (IntKind.i64.wrap (b + (((l.getD i default)).n)))))) (.t (.sc (.int .i64 (b + (((l.getD i default)).n)))))]) (by kernel_rfl) ?_ ?_
                · -- region 21
                  refine ⟨(Weak.of_eq (nw ?_)), trivial⟩
                  all_goals omega
                refine andThen_normal ?_
                refine Sim.seq ?_
                refine Sim.reg (orcs := []) (keys := [0, 3, 4, 6, 10, 11, 69]) (τ := [(104, 104)]) (nx := 456)
                  (sl := [(0, .t (.lst 4 (List.map dstepT l))), (3, .t (.sc (.int .i64 (b + (((l.getD i default)).n))))), (4, .t (.sc (.int .i64 a))), (6, .ptr 104 0), (10, .t (.sc (.int .i64 (l.length : Int)))), (11, .t (.sc (.int .i64 (i : Int)))), (69, .t (.sc (.bool (((((l.getD i default)).kind) != 2) && decide (a < 2147483648)))))]) (l := [(104, .box [.t (.sc (.int .i64 (((l.getD i default)).kind))), .t (.sc (.int .i64 (((l.getD i default)).n))), .t (.lst 2 (List.map attrT (((l.getD i default)).attrs))), .t (.lst 3 (List.map elemT (((l.getD i default)).elems)))])])
                  (C := [((((l.getD i default)).kind) != 2) = true → ((((l.getD i default)).kind) != 2) = true, ((((l.getD i default)).kind) != 2) = true → ((((l.getD i default)).kind) != 2) = true]) (by kernel_rfl) ?_ ?_
                · -- region 22
                  refine ⟨?_, ?_, trivial⟩
                  all_goals (first | omega | with_reducible exact fun h => h | (intro hg hq; rw [hg, hq]; rfl) | (intro hq; rw [hq]; done) | (intro hq; rw [hq]; rfl) | ((try intro hg); (try simp [-List.getD_eq_getElem?_getD] at hg); (try simp only [List.length_map]); first | done | omega | rfl | (simp; done) | (simp; omega) | (simp [hg]; done) | (intro hq; simp [hg, hq]; done) | (intro hq; simp [hg, hq]; omega)))
                refine andThen_normal ?_
                refine Sim.cond (b := (((((l.getD i default)).kind) != 2) && decide (a < 2147483648))) (by kernel_rfl) (fun h22 => ?_) (fun h22 => ?_)
                · (try simp only [decide_eq_true_eq, decide_eq_false_iff_not, Int.not_lt, Int.not_le, Bool.and_eq_true, Bool.and_eq_false_iff, Bool.not_eq_true', Bool.not_eq_false', bne_iff_ne, bne_eq_false_iff_eq, ne_eq] at h22)
                  refine Sim.reg (orcs := [(5, ⟨some (.t (.sc (.int .i64 ((((l.getD i default)).elems).length : Int)))), none, none, none⟩), (6, ⟨some (.t (.sc (.int .i64 ((((l.getD i default)).n) + ((((l.getD i default)).elems).length : Int))))), none, none, none⟩), (7, ⟨some (.t (.sc (.int .i64 (a + ((((l.getD i default)).n) + ((((l.getD i default)).elems).length : Int)))))), none, none, none⟩)]) (keys := [0, 3, 4, 10, 11]) (τ := []) (nx := 528)
                    (sl := [(0, .t (.lst 4 (List.map dstepT l))), (3, .t (.sc (.int .i64 (b + (((l.getD i default)).n))))), (4, .t (.sc (.int .i64 (a + ((((l.getD i default)).n) + ((((l.getD i default)).elems).length : Int)))))), (10, .t (.sc (.int .i64 (l.length : Int)))), (11, .t (.sc (.int .i64 (i : Int))))]) (l := [])
                    (C := [Weak (.t (.sc (.int .i64 ((List.map elemT (((l.getD i default)).elems)).length : Int)))) (.t (.sc (.int .i64 ((((l.getD i default)).elems).length : Int)))), Weak (.t (.sc (.int .i64 (IntKind.i64.wrap ((((l.getD i default)).n) + ((((l.getD i default)).elems).length : Int)))))) (.t (.sc (.int .i64 ((((l.getD i default)).n) + ((((l.getD i default)).elems).length : Int))))), Weak (.t (.sc (.int .i64 (IntKind.i64.wrap (a + ((((l.getD i default)).n) + ((((l.getD i default)).elems).length : Int))))))) (.t (.sc (.int .i64 (a + ((((l.getD i default)).n) + ((((l.getD i default)).elems).length : Int))))))]) (by kernel_rfl) ?_ ?_
                  · -- region 23
                    refine ⟨(Weak.of_eq len_map), (Weak.of_eq (nw ?_)), (Weak.of_eq (nw ?_)), trivial⟩
                    all_goals omega
                  refine inBlk_normal ?_
                  refine andThen_normal ?_
                  refine Sim.reg (orcs := [(0, ⟨some (.t (.sc (.int .i64 ((i : Int) + 1)))), none, none, none⟩)]) (keys := [0, 3, 4, 10, 11]) (τ := []) (nx := 544)
                    (sl := [(0, .t (.lst 4 (List.map dstepT l))), (3, .t (.sc (.int .i64 (b + (((l.getD i default)).n))))), (4, .t (.sc (.int .i64 (a + ((((l.getD i default)).n) + ((((l.getD i default)).elems).length : Int)))))), (10, .t (.sc (.int .i64 (l.length : Int)))), (11, .t (.sc (.int .i64 ((i : Int) + 1))))]) (l := [])
                    (C := [Weak (.t (.sc (.int .i64 (IntKind.i64.wrap ((i : Int) + 1))))) (.t (.sc (.int .i64 ((i : Int) + 1))))]) (by kernel_rfl) ?_ ?_
                  · -- region 24
                    refine ⟨(Weak.of_eq (nw ?_)), trivial⟩
                    all_goals omega
                  refine andThen_normal ?_
                  refine LoopSim.weaken (Le.ren (τ := []) (keys := [0, 3, 4, 10, 11]) (nx := 48) (sl := [(0, .t (.lst 4 (List.map dstepT l))), (3, .t (.sc (.int .i64 (b + (((l.getD i default)).n))))), (4, .t (.sc (.int .i64 (a + ((((l.getD i default)).n) + ((((l.getD i default)).elems).length : Int)))))), (10, .t (.sc (.int .i64 (l.length : Int)))), (11, .t (.sc (.int .i64 (((i + 1) : Nat) : Int))))]) (l := []) (by kernel_rfl)) ?_
                  refine ih3 ((b + (((l.getD i default)).n)), (a + ((((l.getD i default)).n) + ((((l.getD i default)).elems).length : Int))), (i + 1)) ?_ ?_
                  · -- back 3.5, invariant
                    refine ⟨by omega, by omega, by omega, by omega, by omega, ?_⟩
                    rw [I3.2.2.2.2.2, chkR, if_pos (by omega), if_neg (by omega), if_neg (by first | omega | exact fun hh => adjR_n1 (by omega) (by omega) hh.2 | exact fun hh => adjR_n2 (by omega) (by omega) hh.2 | exact fun hh => adjR_n0 (by omega) (by omega) (by assumption) hh.2)]
                    first | (exfalso; omega) | ((first | rw [if_pos (by omega)] | rw [if_neg (by omega)]); (first | rw [if_pos (by omega)] | rw [if_neg (by omega)]))
                  · -- back 3.5, measure
                    show (_:Nat) < _; omega
                · (try simp only [decide_eq_true_eq, decide_eq_false_iff_not, Int.not_lt, Int.not_le, Bool.and_eq_true, Bool.and_eq_false_iff, Bool.not_eq_true', Bool.not_eq_false', bne_iff_ne, bne_eq_false_iff_eq, ne_eq] at h22)
                  refine Sim.skip ?_
                  refine inBlk_normal ?_
                  refine andThen_normal ?_
                  refine Sim.reg (orcs := [(0, ⟨some (.t (.sc (.int .i64 ((i : Int) + 1)))), none, none, none⟩)]) (keys := [0, 3, 4, 10, 11]) (τ := []) (nx := 472)
                    (sl := [(0, .t (.lst 4 (List.map dstepT l))), (3, .t (.sc (.int .i64 (b + (((l.getD i default)).n))))), (4, .t (.sc (.int .i64 a))), (10, .t (.sc (.int .i64 (l.length : Int)))), (11, .t (.sc (.int .i64 ((i : Int) + 1))))]) (l := [])
                    (C := [Weak (.t (.sc (.int .i64 (IntKind.i64.wrap ((i : Int) + 1))))) (.t (.sc (.int .i64 ((i : Int) + 1))))]) (by kernel_rfl) ?_ ?_
                  · -- region 24
                    refine ⟨(Weak.of_eq (nw ?_)), trivial⟩
                    all_goals omega
                  refine andThen_normal ?_
                  refine LoopSim.weaken (Le.ren (τ := []) (keys := [0, 3, 4, 10, 11]) (nx := 48) (sl := [(0, .t (.lst 4 (List.map dstepT l))), (3, .t (.sc (.int .i64 (b + (((l.getD i default)).n))))), (4, .t (.sc (.int .i64 a))), (10, .t (.sc (.int .i64 (l.length : Int)))), (11, .t (.sc (.int .i64 (((i + 1) : Nat) : Int))))]) (l := []) (by kernel_rfl)) ?_
                  refine ih3 ((b + (((l.getD i default)).n)), a, (i + 1)) ?_ ?_
                  · -- back 3.6, invariant
                    refine ⟨by omega, by omega, by omega, by omega, by omega, ?_⟩
                    rw [I3.2.2.2.2.2, chkR, if_pos (by omega), if_neg (by omega), if_neg (by first | omega | exact fun hh => adjR_n1 (by omega) (by omega) hh.2 | exact fun hh => adjR_n2 (by omega) (by omega) hh.2 | exact fun hh => adjR_n0 (by omega) (by omega) (by assumption) hh.2)]
                    first | (exfalso; omega) | ((first | rw [if_pos (by omega)] | rw [if_neg (by omega)]); (first | rw [if_pos (by omega)] | rw [if_neg (by omega)]))
                  · -- back 3.6, measure
                    show (_:Nat) < _; (first | omega | with_reducible exact fun h => h | (intro hq; rw [hq]; done) | (intro hq; rw [hq]; rfl) | (simp only [List.length_map]; done) | (simp only [List.length_map]; omega) | (simp; omega) | (simp; done))
              · (try simp only [decide_eq_true_eq, decide_eq_false_iff_not, Int.not_lt, Int.not_le, Bool.and_eq_true, Bool.and_eq_false_iff, Bool.not_eq_true', Bool.not_eq_false', bne_iff_ne, bne_eq_false_iff_eq, ne_eq] at h20)
                refine Sim.skip ?_
                refine andThen_normal ?_
                refine Sim.seq ?_
                refine Sim.reg (orcs := []) (keys := [0, 3, 4, 6, 10, 11, 69]) (τ := [(104, 104)]) (nx := 416)
                  (sl := [(0, .t (.lst 4 (List.map dstepT l))), (3, .t (.sc (.int .i64 b))), (4, .t (.sc (.int .i64 a))), (6, .ptr 104 0), (10, .t (.sc (.int .i64 (l.length : Int)))), (11, .t (.sc (.int .i64 (i : Int)))), (69, .t (.sc (.bool (((((l.getD i default)).kind) != 2) && decide (a < 2147483648)))))]) (l := [(104, .box [.t (.sc (.int .i64 (((l.getD i default)).kind))), .t (.sc (.int .i64 (((l.getD i default)).n))), .t (.lst 2 (List.map attrT (((l.getD i default)).attrs))), .t (.lst 3 (List.map elemT (((l.getD i default)).elems)))])])
                  (C := [((((l.getD i default)).kind) != 2) = true → ((((l.getD i default)).kind) != 2) = true, ((((l.getD i default)).kind) != 2) = true → ((((l.getD i default)).kind) != 2) = true]) (by kernel_rfl) ?_ ?_
                · -- region 22
                  refine ⟨?_, ?_, trivial⟩
                  all_goals (first | omega | with_reducible exact fun h => h | (intro hg hq; rw [hg, hq]; rfl) | (intro hq; rw [hq]; done) | (intro hq; rw [hq]; rfl) | ((try intro hg); (try simp [-List.getD_eq_getElem?_getD] at hg); (try simp only [List.length_map]); first | done | omega | rfl | (simp; done) | (simp; omega) | (simp [hg]; done) | (intro hq; simp [hg, hq]; done) | (intro hq; simp [hg, hq]; omega)))
                refine andThen_normal ?_
                refine Sim.cond (b := (((((l.getD i default)).kind) != 2) && decide (a < 2147483648))) (by kernel_rfl) (fun h22 => ?_) (fun h22 => ?_)
                · (try simp only [decide_eq_true_eq, decide_eq_false_iff_not, Int.not_lt, Int.not_le, Bool.and_eq_true, Bool.and_eq_false_iff, Bool.not_eq_true', Bool.not_eq_false', bne_iff_ne, bne_eq_false_iff_eq, ne_eq] at h22)
                  refine Sim.reg (orcs := [(5, ⟨some (.t (.sc (.int .i64 ((((l.getD i default)).elems).length : Int)))), none, none, none⟩), (6, ⟨some (.t (.sc (.int .i64 ((((l.getD i default)).n) + ((((l.getD i default)).elems).length : Int))))), none, none, none⟩), (7, ⟨some (.t (.sc (.int .i64 (a + ((((l.getD i default)).n) + ((((l.getD i default)).elems).length : Int)))))), none, none, none⟩)]) (keys := [0, 3, 4, 10, 11]) (τ := []) (nx := 488)
                    (sl := [(0, .t (.lst 4 (List.map dstepT l))), (3, .t (.sc (.int .i64 b))), (4, .t (.sc (.int .i64 (a + ((((l.getD i default)).n) + ((((l.getD i default)).elems).length : Int)))))), (10, .t (.sc (.int .i64 (l.length : Int)))), (11, .t (.sc (.int .i64 (i : Int))))]) (l := [])
                    (C := [Weak (.t (.sc (.int .i64 ((List.map elemT (((l.getD i default)).elems)).length : Int)))) (.t (.sc (.int .i64 ((((l.getD i default)).elems).length : Int)))), Weak (.t (.sc (.int .i64 (IntKind.i64.wrap ((((l.getD i default)).n) + ((((l.getD i default)).elems).length : Int)))))) (.t (.sc (.int .i64 ((((l.getD i default)).n) + ((((l.getD i default)).elems).length : Int))))), Weak (.t (.sc (.int .i64 (IntKind.i64.wrap (a + ((((l.getD i default)).n) + ((((l.getD i default)).elems).length : Int))))))) (.t (.sc (.int .i64 (a + ((((l.getD i default)).n) + ((((l.getD i default)).elems).length : Int))))))]) (by kernel_rfl) ?_ ?_
                  · -- region 23
                    refine ⟨(Weak.of_eq len_map), (Weak.of_eq (nw ?_)), (Weak.of_eq (nw ?_)), trivial⟩
                    all_goals omega
                  refine inBlk_normal ?_
                  refine andThen_normal ?_
                  refine Sim.reg (orcs := [(0, ⟨some (.t (.sc (.int .i64 ((i : Int) + 1)))), none, none, none⟩)]) (keys := [0, 3, 4, 10, 11]) (τ := []) (nx := 504)
                    (sl := [(0, .t (.lst 4 (List.map dstepT l))), (3, .t (.sc (.int .i64 b))), (4, .t (.sc (.int .i64 (a + ((((l.getD i default)).n) + ((((l.getD i default)).elems).length : Int)))))), (10, .t (.sc (.int .i64 (l.length : Int)))), (11, .t (.sc (.int .i64 ((i : Int) + 1))))]) (l := [])
                    (C := [Weak (.t (.sc (.int .i64 (IntKind.i64.wrap ((i : Int) + 1))))) (.t (.sc (.int .i64 ((i : Int) + 1))))]) (by kernel_rfl) ?_ ?_
                  · -- region 24
                    refine ⟨(Weak.of_eq (nw ?_)), trivial⟩
                    all_goals omega
                  refine andThen_normal ?_
                  refine LoopSim.weaken (Le.ren (τ := []) (keys := [0, 3, 4, 10, 11]) (nx := 48) (sl := [(0, .t (.lst 4 (List.map dstepT l))), (3, .t (.sc (.int .i64 b))), (4, .t (.sc (.int .i64 (a + ((((l.getD i default)).n) + ((((l.getD i default)).elems).length : Int)))))), (10, .t (.sc (.int .i64 (l.length : Int)))), (11, .t (.sc (.int .i64 (((i + 1) : Nat) : Int))))]) (l := []) (by kernel_rfl)) ?_
                  refine ih3 (b, (a + ((((l.getD i default)).n) + ((((l.getD i default)).elems).length : Int))), (i + 1)) ?_ ?_
                  · -- back 3.7, invariant
                    refine ⟨by omega, by omega, by omega, by omega, by omega, ?_⟩
                    rw [I3.2.2.2.2.2, chkR, if_pos (by omega), if_neg (by omega), if_neg (by first | omega | exact fun hh => adjR_n1 (by omega) (by omega) hh.2 | exact fun hh => adjR_n2 (by omega) (by omega) hh.2 | exact fun hh => adjR_n0 (by omega) (by omega) (by assumption) hh.2)]
                    first | (exfalso; omega) | ((first | rw [if_pos (by omega)] | rw [if_neg (by omega)]); (first | rw [if_pos (by omega)] | rw [if_neg (by omega)]))
                  · -- back 3.7, measure
                    show (_:Nat) < _; omega
                · (try simp only [decide_eq_true_eq, decide_eq_false_iff_not, Int.not_lt, Int.not_le, Bool.and_eq_true, Bool.and_eq_false_iff, Bool.not_eq_true', Bool.not_eq_false', bne_iff_ne, bne_eq_false_iff_eq, ne_eq] at h22)
                  refine Sim.skip ?_
                  refine inBlk_normal ?_
                  refine andThen_normal ?_
                  refine Sim.reg (orcs := [(0, ⟨some (.t (.sc (.int .i64 ((i : Int) + 1)))), none, none, none⟩)]) (keys := [0, 3, 4, 10, 11]) (τ := []) (nx := 432)
                    (sl := [(0, .t (.lst 4 (List.map dstepT l))), (3, .t (.sc (.int .i64 b))), (4, .t (.sc (.int .i64 a))), (10, .t (.sc (.int .i64 (l.length : Int)))), (11, .t (.sc (.int .i64 ((i : Int) + 1))))]) (l := [])
                    (C := [Weak (.t (.sc (.int .i64 (IntKind.i64.wrap ((i : Int) + 1))))) (.t (.sc (.int .i64 ((i : Int) + 1))))]) (by kernel_rfl) ?_ ?_
                  · -- region 24
                    refine ⟨(Weak.of_eq (nw ?_)), trivial⟩
                    all_goals omega
                  refine andThen_normal ?_
                  refine LoopSim.weaken (Le.ren (τ := []) (keys := [0, 3, 4, 10, 11]) (nx := 48) (sl := [(0, .t (.lst 4 (List.map dstepT l))), (3, .t (.sc (.int .i64 b))), (4, .t (.sc (.int .i64 a))), (10, .t (.sc (.int .i64 (l.length : Int)))), (11, .t (.sc (.int .i64 (((i + 1) : Nat) : Int))))]) (l := []) (by kernel_rfl)) ?_
                  refine ih3 (b, a, (i + 1)) ?_ ?_
                  · -- back 3.8, invariant
                    refine ⟨by omega, by omega, by omega, by omega, by omega, ?_⟩
                    rw [I3.2.2.2.2.2, chkR, if_pos (by omega), if_neg (by omega), if_neg (by first | omega | exact fun hh => adjR_n1 (by omega) (by omega) hh.2 | exact fun hh => adjR_n2 (by omega) (by omega) hh.2 | exact fun hh => adjR_n0 (by omega) (by omega) (by assumption) hh.2)]
                    first | (exfalso; omega) | ((first | rw [if_pos (by omega)] | rw [if_neg (by omega)]); (first | rw [if_pos (by omega)] | rw [if_neg (by omega)]))
                  · -- back 3.8, measure
                    show (_:Nat) < _; (first | omega | with_reducible exact fun h => h | (intro hq; rw [hq]; done) | (intro hq; rw [hq]; rfl) | (simp only [List.length_map]; done) | (simp only [List.length_map]; omega) | (simp; omega) | (simp; done))
          · (try simp only [beq_iff_eq, beq_eq_false_iff_ne, ne_eq] at h17)
            refine Sim.seq ?_
            refine Sim.reg (orcs := [(8, ⟨none, none, none, some (⟨0, [], .t (.sc (.bool (sameL (((l.getD (i - 1) default)).attrs) (((l.getD i default)).attrs)))), []⟩)⟩)]) (keys := [0, 3, 4, 6, 10, 11, 41]) (τ := [(104, 104)]) (nx := 360)
              (sl := [(0, .t (.lst 4 (List.map dstepT l))), (3, .t (.sc (.int .i64 b))), (4, .t (.sc (.int .i64 a))), (6, .ptr 104 0), (10, .t (.sc (.int .i64 (l.length : Int)))), (11, .t (.sc (.int .i64 (i : Int)))), (41, .t (.sc (.bool (((((l.getD (i - 1) default)).kind) == 0) && (sameL (((l.getD (i - 1) default)).attrs) (((l.getD i default)).attrs))))))]) (l := [(104, .box [.t (.sc (.int .i64 (((l.getD i default)).kind))), .t (.sc (.int .i64 (((l.getD i default)).n))), .t (.lst 2 (List.map attrT (((l.getD i default)).attrs))), .t (.lst 3 (List.map elemT (((l.getD i default)).elems)))])])
              (C := [((((l.getD (i - 1) default)).kind) == 0) = true → ((((l.getD (i - 1) default)).kind) == 0) = true, ((((l.getD (i - 1) default)).kind) == 0) = true → ((((l.getD (i - 1) default)).kind) == 0) = true, ((((l.getD (i - 1) default)).kind) == 0) = true → ((((l.getD (i - 1) default)).kind) == 0) = true, ((((l.getD (i - 1) default)).kind) == 0) = true → ((((l.getD (i - 1) default)).kind) == 0) = true, ((((l.getD (i - 1) default)).kind) == 0) = true → callable Try.prog 30 = true, ((((l.getD (i - 1) default)).kind) == 0) = true → FC Try.prog 30 [.t (.lst 2 (List.map attrT (((l.getD (i - 1) default)).attrs))), .t (.lst 2 (List.map attrT (((l.getD i default)).attrs)))] emp (.t (.sc (.bool (sameL (((l.getD (i - 1) default)).attrs) (((l.getD i default)).attrs))))) emp, ((((l.getD (i - 1) default)).kind) == 0) = true → ((((l.getD (i - 1) default)).kind) == 0) = true]) (by kernel_rfl) ?_ ?_
            · -- region 12
              refine ⟨?_, ?_, ?_, ?_, (fun hg => by (try simp only [beq_iff_eq, beq_eq_false_iff_ne, ne_eq] at hg); exact (by kernel_rfl)), (fun hg => by (try simp only [beq_iff_eq, beq_eq_false_iff_ne, ne_eq] at hg); exact (fc_sameAttrs (((l.getD (i - 1) default)).attrs) (((l.getD i default)).attrs))), ?_, trivial⟩
              all_goals (first | omega | with_reducible exact fun h => h | (intro hg hq; rw [hg, hq]; rfl) | (intro hq; rw [hq]; done) | (intro hq; rw [hq]; rfl) | ((try intro hg); (try simp [-List.getD_eq_getElem?_getD] at hg); (try simp only [List.length_map]); first | done | omega | rfl | (simp; done) | (simp; omega) | (simp [hg]; done) | (intro hq; simp [hg, hq]; done) | (intro hq; simp [hg, hq]; omega)))
            refine andThen_normal ?_
            refine Sim.cond (b := (((((l.getD (i - 1) default)).kind) == 0) && (sameL (((l.getD (i - 1) default)).attrs) (((l.getD i default)).attrs)))) (by kernel_rfl) (fun h12 => ?_) (fun h12 => ?_)
            · (try simp only [Bool.and_eq_true, Bool.and_eq_false_iff, Bool.not_eq_true', Bool.not_eq_false', beq_iff_eq, beq_eq_false_iff_ne, ne_eq] at h12)
              refine Sim.seq ?_
              refine Sim.reg (orcs := []) (keys := [2]) (τ := []) (nx := 368)
                (sl := [(2, .t (.sc (.int .i64 5)))]) (l := [])
                (C := []) (by kernel_rfl) ?_ ?_
              · -- region 13
                trivial
              refine andThen_normal ?_
              refine Sim.ret ?_
              refine inBlk_ret ?_
              refine andThen_ret ?_
              refine inBlk_ret ?_
              refine andThen_ret ?_
              refine andThen_ret ?_
              refine inBlk_ret ?_
              refine andThen_ret ?_
              refine Fin.mk2 (.inl rfl) (τ := []) (keys := [2]) (nx := 368) (sl := [(2, .t (.sc (.int .i64 5)))]) (l := []) (res' := .t (.sc (.int .i64 5))) (by kernel_rfl) ?_ (by kernel_rfl) ?_
              · -- end 4, objects
                first | done | rfl
              · -- end 4, result
                have e4 : ((refD l) : Int) = 5 := by
                  first | (rw [I3.2.2.2.2.2, chkR, if_pos (by omega), if_neg (by omega), if_pos ⟨by omega, by first | exact adjR_1 (by omega) (by omega) | exact adjR_2 (by omega) (by omega) | exact adjR_0 (by omega) (by omega) (by assumption)⟩]; done) | (rw [I3.2.2.2.2.2, chkR]; ((repeat' split) <;> first | rfl | omega | (simp_all; done) | (simp_all; omega)))
                show AVal.t (.sc (.int .i64 5)) = .t (.sc (.int .i64 (refD l)))
                rw [e4]
                try rfl
            · (try simp only [Bool.and_eq_true, Bool.and_eq_false_iff, Bool.not_eq_true', Bool.not_eq_false', beq_iff_eq, beq_eq_false_iff_ne, ne_eq] at h12)
              refine Sim.skip ?_
              refine inBlk_normal ?_
              refine andThen_normal ?_
              refine Sim.seq ?_
              refine Sim.seq ?_
              refine Sim.reg (orcs := []) (keys := [0, 3, 4, 6, 10, 11, 58]) (τ := [(104, 104)]) (nx := 416)
                (sl := [(0, .t (.lst 4 (List.map dstepT l))), (3, .t (.sc (.int .i64 b))), (4, .t (.sc (.int .i64 a))), (6, .ptr 104 0), (10, .t (.sc (.int .i64 (l.length : Int)))), (11, .t (.sc (.int .i64 (i : Int)))), (58, .t (.sc (.bool (((((l.getD i default)).kind) != 1) && decide (b < 2147483648)))))]) (l := [(104, .box [.t (.sc (.int .i64 (((l.getD i default)).kind))), .t (.sc (.int .i64 (((l.getD i default)).n))), .t (.lst 2 (List.map attrT (((l.getD i default)).attrs))), .t (.lst 3 (List.map elemT (((l.getD i default)).elems)))])])
                (C := [((((l.getD i default)).kind) != 1) = true → ((((l.getD i default)).kind) != 1) = true, ((((l.getD i default)).kind) != 1) = true → ((((l.getD i default)).kind) != 1) = true]) (by kernel_rfl) ?_ ?_
              · -- region 20
                refine ⟨?_, ?_, trivial⟩
                all_goals (first | omega | with_reducible exact fun h => h | (intro hg hq; rw [hg, hq]; rfl) | (intro hq; rw [hq]; done) | (intro hq; rw [hq]; rfl) | ((try intro hg); (try simp [-List.getD_eq_getElem?_getD] at hg); (try simp only [List.length_map]); first | done | omega | rfl | (simp; done) | (simp; omega) | (simp [hg]; done) | (intro hq; simp [hg, hq]; done) | (intro hq; simp [hg, hq]; omega)))
              refine andThen_normal ?_
              refine Sim.cond (b := (((((l.getD i default)).kind) != 1) && decide (b < 2147483648))) (by kernel_rfl) (fun h20 => ?_) (fun h20 => ?_)
              · (try simp only [decide_eq_true_eq, decide_eq_false_iff_not, Int.not_lt, Int.not_le, Bool.and_eq_true, Bool.and_eq_false_iff, Bool.not_eq_true', Bool.not_eq_false', bne_iff_ne, bne_eq_false_iff_eq, ne_eq] at h20)
                refine Sim.reg (orcs := [(3, ⟨some (.t (.sc (.int .i64 (b + (((l.getD i default)).n))))), none, none, none⟩)]) (keys := [0, 3, 4, 6, 10, 11]) (τ := [(104, 104)]) (nx := 456)
                  (sl := [(0, .t (.lst 4 (List.map dstepT l))), (3, .t (.sc (.int .i64 (b + (((l.getD i default)).n))))), (4, .t (.sc (.int .i64 a))), (6, .ptr 104 0), (10, .t (.sc (.int .i64 (l.length : Int)))), (11, .t (.sc (.int .i64 (i : Int))))]) (l := [(104, .box [.t (.sc (.int .i64 (((l.getD i default)).kind))), .t (.sc (.int .i64 (((l.getD i default)).n))), .t (.lst 2 (List.map attrT (((l.getD i default)).attrs))), .t (.lst 3 (List.map elemT (((l.getD i default)).elems)))])])
                  (C := [Weak (.t (.sc (.int .i64 (IntKind.i64.wrap (b + (((l.getD i default)).n)))))) (.t (.sc (.int .i64 (b + (((l.getD i default)).n)))))]) (by kernel_rfl) ?_ ?_
                · -- region 21
                  refine ⟨(Weak.of_eq (nw ?_)), trivial⟩
                  all_goals omega
                refine andThen_normal ?_
                refine Sim.seq ?_
                refine Sim.reg (orcs := []) (keys := [0, 3, 4, 6, 10, 11, 69]) (τ := [(104, 104)]) (nx := 512)
                  (sl := [(0, .t (.lst 4 (List.map dstepT l))), (3, .t (.sc (.int .i64 (b + (((l.getD i default)).n))))), (4, .t (.sc (.int .i64 a))), (6, .ptr 104 0), (10, .t (.sc (.int .i64 (l.length : Int)))), (11, .t (.sc (.int .i64 (i : Int)))), (69, .t (.sc (.bool (((((l.getD i default)).kind) != 2) && decide (a < 2147483648)))))]) (l := [(104, .box [.t (.sc (.int .i64 (((l.getD i default)).kind))), .t (.sc (.int .i64 (((l.getD i default)).n))), .t (.lst 2 (List.map attrT (((l.getD i default)).attrs))), .t (.lst 3 (List.map elemT (((l.getD i default)).elems)))])])
                  (C := [((((l.getD i default)).kind) != 2) = true → ((((l.getD i default)).kind) != 2) = true, ((((l.getD i default)).kind) != 2) = true → ((((l.getD i default)).kind) != 2) = true]) (by kernel_rfl) ?_ ?_
                · -- region 22
                  refine ⟨?_, ?_, trivial⟩
                  all_goals (first | omega | with_reducible exact fun h => h | (intro hg hq; rw [hg, hq]; rfl) | (intro hq; rw [hq]; done) | (intro hq; rw [hq]; rfl) | ((try intro hg); (try simp [-List.getD_eq_getElem?_getD] at hg); (try simp only [List.length_map]); first | done | omega | rfl | (simp; done) | (simp; omega) | (simp [hg]; done) | (intro hq; simp [hg, hq]; done) | (intro hq; simp [hg, hq]; omega)))
                refine andThen_normal ?_
                refine Sim.cond (b := (((((l.getD i default)).kind) != 2) && decide (a < 2147483648))) (by kernel_rfl) (fun h22 => ?_) (fun h22 => ?_)
                · (try simp only [decide_eq_true_eq, decide_eq_false_iff_not, Int.not_lt, Int.not_le, Bool.and_eq_true, Bool.and_eq_false_iff, Bool.not_eq_true', Bool.not_eq_false', bne_iff_ne, bne_eq_false_iff_eq, ne_eq] at h22)
                  refine Sim.reg (orcs := [(5, ⟨some (.t (.sc (.int .i64 ((((l.getD i default)).elems).length : Int)))), none, none, none⟩), (6, ⟨some (.t (.sc (.int .i64 ((((l.getD i default)).n) + ((((l.getD i default)).elems).length : Int))))), none, none, none⟩), (7, ⟨some (.t (.sc (.int .i64 (a + ((((l.getD i default)).n) + ((((l.getD i default)).elems).length : Int)))))), none, none, none⟩)]) (keys := [0, 3, 4, 10, 11]) (τ := []) (nx := 584)
                    (sl := [(0, .t (.lst 4 (List.map dstepT l))), (3, .t (.sc (.int .i64 (b + (((l.getD i default)).n))))), (4, .t (.sc (.int .i64 (a + ((((l.getD i default)).n) + ((((l.getD i default)).elems).length : Int)))))), (10, .t (.sc (.int .i64 (l.length : Int)))), (11, .t (.sc (.int .i64 (i : Int))))]) (l := [])
                    (C := [Weak (.t (.sc (.int .i64 ((List.map elemT (((l.getD i default)).elems)).length : Int)))) (.t (.sc (.int .i64 ((((l.getD i default)).elems).length : Int)))), Weak (.t (.sc (.int .i64 (IntKind.i64.wrap ((((l.getD i default)).n) + ((((l.getD i default)).elems).length : Int)))))) (.t (.sc (.int .i64 ((((l.getD i default)).n) + ((((l.getD i default)).elems).length : Int))))), Weak (.t (.sc (.int .i64 (IntKind.i64.wrap (a + ((((l.getD i default)).n) + ((((l.getD i default)).elems).length : Int))))))) (.t (.sc (.int .i64 (a + ((((l.getD i default)).n) + ((((l.getD i default)).elems).length : Int))))))]) (by kernel_rfl) ?_ ?_
                  · -- region 23
                    refine ⟨(Weak.of_eq len_map), (Weak.of_eq (nw ?_)), (Weak.of_eq (nw ?_)), trivial⟩
                    all_goals omega
                  refine inBlk_normal ?_
                  refine andThen_normal ?_
                  refine Sim.reg (orcs := [(0, ⟨some (.t (.sc (.int .i64 ((i : Int) + 1)))), none, none, none⟩)]) (keys := [0, 3, 4, 10, 11]) (τ := []) (nx := 600)
                    (sl := [(0, .t (.lst 4 (List.map dstepT l))), (3, .t (.sc (.int .i64 (b + (((l.getD i default)).n))))), (4, .t (.sc (.int .i64 (a + ((((l.getD i default)).n) + ((((l.getD i default)).elems).length : Int)))))), (10, .t (.sc (.int .i64 (l.length : Int)))), (11, .t (.sc (.int .i64 ((i : Int) + 1))))]) (l := [])
                    (C := [Weak (.t (.sc (.int .i64 (IntKind.i64.wrap ((i : Int) + 1))))) (.t (.sc (.int .i64 ((i : Int) + 1))))]) (by kernel_rfl) ?_ ?_
                  · -- region 24
                    refine ⟨(Weak.of_eq (nw ?_)), trivial⟩
                    all_goals omega
                  refine andThen_normal ?_
                  refine LoopSim.weaken (Le.ren (τ := []) (keys := [0, 3, 4, 10, 11]) (nx := 48) (sl := [(0, .t (.lst 4 (List.map dstepT l))), (3, .t (.sc (.int .i64 (b + (((l.getD i default)).n))))), (4, .t (.sc (.int .i64 (a + ((((l.getD i default)).n) + ((((l.getD i default)).elems).length : Int)))))), (10, .t (.sc (.int .i64 (l.length : Int)))), (11, .t (.sc (.int .i64 (((i + 1) : Nat) : Int))))]) (l := []) (by kernel_rfl)) ?_
                  refine ih3 ((b + (((l.getD i default)).n)), (a + ((((l.getD i default)).n) + ((((l.getD i default)).elems).length : Int))), (i + 1)) ?_ ?_
                  · -- back 3.9, invariant
                    refine ⟨by omega, by omega, by omega, by omega, by omega, ?_⟩
                    rw [I3.2.2.2.2.2, chkR, if_pos (by omega), if_neg (by omega), if_neg (by first | omega | exact fun hh => adjR_n1 (by omega) (by omega) hh.2 | exact fun hh => adjR_n2 (by omega) (by omega) hh.2 | exact fun hh => adjR_n0 (by omega) (by omega) (by assumption) hh.2)]
                    first | (exfalso; omega) | ((first | rw [if_pos (by omega)] | rw [if_neg (by omega)]); (first | rw [if_pos (by omega)] | rw [if_neg (by omega)]))
                  · -- back 3.9, measure
                    show (_:Nat) < _; (first | omega | with_reducible exact fun h => h | (intro hq; rw [hq]; done) | (intro hq; rw [hq]; rfl) | (simp only [List.length_map]; done) | (simp only [List.length_map]; omega) | (simp; omega) | (simp; done))
                · (try simp only [decide_eq_true_eq, decide_eq_false_iff_not, Int.not_lt, Int.not_le, Bool.and_eq_true, Bool.and_eq_false_iff, Bool.not_eq_true', Bool.not_eq_false', bne_iff_ne, bne_eq_false_iff_eq, ne_eq] at h22)
                  refine Sim.skip ?_
                  refine inBlk_normal ?_
                  refine andThen_normal ?_
                  refine Sim.reg (orcs := [(0, ⟨some (.t (.sc (.int .i64 ((i : Int) + 1)))), none, none, none⟩)]) (keys := [0, 3, 4, 10, 11]) (τ := []) (nx := 528)
                    (sl := [(0, .t (.lst 4 (List.map dstepT l))), (3, .t (.sc (.int .i64 (b + (((l.getD i default)).n))))), (4, .t (.sc (.int .i64 a))), (10, .t (.sc (.int .i64 (l.length : Int)))), (11, .t (.sc (.int .i64 ((i : Int) + 1))))]) (l := [])
                    (C := [Weak (.t (.sc (.int .i64 (IntKind.i64.wrap ((i : Int) + 1))))) (.t (.sc (.int .i64 ((i : Int) + 1))))]) (by kernel_rfl) ?_ ?_
                  · -- region 24
                    refine ⟨(Weak.of_eq (nw ?_)), trivial⟩
                    all_goals omega
                  refine andThen_normal ?_
                  refine LoopSim.weaken (Le.ren (τ := []) (keys := [0, 3, 4, 10, 11]) (nx := 48) (sl := [(0, .t (.lst 4 (List.map dstepT l))), (3, .t (.sc (.int .i64 (b + (((l.getD i default)).n))))), (4, .t (.sc (.int .i64 a))), (10, .t (.sc (.int .i64 (l.length : Int)))), (11, .t (.sc (.int .i64 (((i + 1) : Nat) : Int))))]) (l := []) (by kernel_rfl)) ?_
                  refine ih3 ((b + (((l.getD i default)).n)), a, (i + 1)) ?_ ?_
                  · -- back 3.10, invariant
                    refine ⟨by omega, by omega, by omega, by omega, by omega, ?_⟩
                    rw [I3.2.2.2.2.2, chkR, if_pos (by omega), if_neg (by omega), if_neg (by first | omega | exact fun hh => adjR_n1 (by omega) (by omega) hh.2 | exact fun hh => adjR_n2 (by omega) (by omega) hh.2 | exact fun hh => adjR_n0 (by omega) (by omega) (by assumption) hh.2)]
                    first | (exfalso; omega) | ((first | rw [if_pos (by omega)] | rw [if_neg (by omega)]); (first | rw [if_pos (by omega)] | rw [if_neg (by omega)]))
                  · -- back 3.10, measure
                    show (_:Nat) < _; (first | omega | with_reducible exact fun h => h | (intro hq; rw [hq]; done) | (intro hq; rw [hq]; rfl) | (simp only [List.length_map]; done) | (simp only [List.length_map]; omega) | (simp; omega) | (simp; done))
              · (try simp only [decide_eq_true_eq, decide_eq_false_iff_not, Int.not_lt, Int.not_le, Bool.and_eq_true, Bool.and_eq_false_iff, Bool.not_eq_true', Bool.not_eq_false', bne_iff_ne, bne_eq_false_iff_eq, ne_eq] at h20)
                refine Sim.skip ?_
                refine andThen_normal ?_
                refine Sim.seq ?_
                refine Sim.reg (orcs := []) (keys := [0, 3, 4, 6, 10, 11, 69]) (τ := [(104, 104)]) (nx := 472)
                  (sl := [(0, .t (.lst 4 (List.map dstepT l))), (3, .t (.sc (.int .i64 b))), (4, .t (.sc (.int .i64 a))), (6, .ptr 104 0), (10, .t (.sc (.int .i64 (l.length : Int)))), (11, .t (.sc (.int .i64 (i : Int)))), (69, .t (.sc (.bool (((((l.getD i default)).kind) != 2) && decide (a < 2147483648)))))]) (l := [(104, .box [.t (.sc (.int .i64 (((l.getD i default)).kind))), .t (.sc (.int .i64 (((l.getD i default)).n))), .t (.lst 2 (List.map attrT (((l.getD i default)).attrs))), .t (.lst 3 (List.map elemT (((l.getD i default)).elems)))])])
                  (C := [((((l.getD i default)).kind) != 2) = true → ((((l.getD i default)).kind) != 2) = true, ((((l.getD i default)).kind) != 2) = true → ((((l.getD i default)).kind) != 2) = true]) (by kernel_rfl) ?_ ?_
                · -- region 22
                  refine ⟨?_, ?_, trivial⟩
                  all_goals (first | omega | with_reducible exact fun h => h | (intro hg hq; rw [hg, hq]; rfl) | (intro hq; rw [hq]; done) | (intro hq; rw [hq]; rfl) | ((try intro hg); (try simp [-List.getD_eq_getElem?_getD] at hg); (try simp only [List.length_map]); first | done | omega | rfl | (simp; done) | (simp; omega) | (simp [hg]; done) | (intro hq; simp [hg, hq]; done) | (intro hq; simp [hg, hq]; omega)))
                refine andThen_normal ?_
                refine Sim.cond (b := (((((l.getD i default)).kind) != 2) && decide (a < 2147483648))) (by kernel_rfl) (fun h22 => ?_) (fun h22 => ?_)
                · (try simp only [decide_eq_true_eq, decide_eq_false_iff_not, Int.not_lt, Int.not_le, Bool.and_eq_true, Bool.and_eq_false_iff, Bool.not_eq_true', Bool.not_eq_false', bne_iff_ne, bne_eq_false_iff_eq, ne_eq] at h22)
                  refine Sim.reg (orcs := [(5, ⟨some (.t (.sc (.int .i64 ((((l.getD i default)).elems).length : Int)))), none, none, none⟩), (6, ⟨some (.t (.sc (.int .i64 ((((l.getD i default)).n) + ((((l.getD i default)).elems).length : Int))))), none, none, none⟩), (7, ⟨some (.t (.sc (.int .i64 (a + ((((l.getD i default)).n) + ((((l.getD i default)).elems).length : Int)))))), none, none, none⟩)]) (keys := [0, 3, 4, 10, 11]) (τ := []) (nx := 544)
                    (sl := [(0, .t (.lst 4 (List.map dstepT l))), (3, .t (.sc (.int .i64 b))), (4, .t (.sc (.int .i64 (a + ((((l.getD i default)).n) + ((((l.getD i default)).elems).length : Int)))))), (10, .t (.sc (.int .i64 (l.length : Int)))), (11, .t (.sc (.int .i64 (i : Int))))]) (l := [])
                    (C := [Weak (.t (.sc (.int .i64 ((List.map elemT (((l.getD i default)).elems)).length : Int)))) (.t (.sc (.int .i64 ((((l.getD i default)).elems).length : Int)))), Weak (.t (.sc (.int .i64 (IntKind.i64.wrap ((((l.getD i default)).n) + ((((l.getD i default)).elems).length : Int)))))) (.t (.sc (.int .i64 ((((l.getD i default)).n) + ((((l.getD i default)).elems).length : Int))))), Weak (.t (.sc (.int .i64 (IntKind.i64.wrap (a + ((((l.getD i default)).n) + ((((l.getD i default)).elems).length : Int))))))) (.t (.sc (.int .i64 (a + ((((l.getD i default)).n) + ((((l.getD i default)).elems).length : Int))))))]) (by kernel_rfl) ?_ ?_
                  · -- region 23
                    refine ⟨(Weak.of_eq len_map), (Weak.of_eq (nw ?_)), (Weak.of_eq (nw ?_)), trivial⟩
                    all_goals omega
                  refine inBlk_normal ?_
                  refine andThen_normal ?_
                  refine Sim.reg (orcs := [(0, ⟨some (.t (.sc (.int .i64 ((i : Int) + 1)))), none, none, none⟩)]) (keys := [0, 3, 4, 10, 11]) (τ := []) (nx := 560)
                    (sl := [(0, .t (.lst 4 (List.map dstepT l))), (3, .t (.sc (.int .i64 b))), (4, .t (.sc (.int .i64 (a + ((((l.getD i default)).n) + ((((l.getD i default)).elems).length : Int)))))), (10, .t (.sc (.int .i64 (l.length : Int)))), (11, .t (.sc (.int .i64 ((i : Int) + 1))))]) (l := [])
                    (C := [Weak (.t (.sc (.int .i64 (IntKind.i64.wrap ((i : Int) + 1))))) (.t (.sc (.int .i64 ((i : Int) + 1))))]) (by kernel_rfl) ?_ ?_
                  · -- region 24
                    refine ⟨(Weak.of_eq (nw ?_)), trivial⟩
                    all_goals omega
                  refine andThen_normal ?_
                  refine LoopSim.weaken (Le.ren (τ := []) (keys := [0, 3, 4, 10, 11]) (nx := 48) (sl := [(0, .t (.lst 4 (List.map dstepT l))), (3, .t (.sc (.int .i64 b))), (4, .t (.sc (.int .i64 (a + ((((l.getD i default)).n) + ((((l.getD i default)).elems).length : Int)))))), (10, .t (.sc (.int .i64 (l.length : Int)))), (11, .t (.sc (.int .i64 (((i + 1) : Nat) : Int))))]) (l := []) (by kernel_rfl)) ?_
                  refine ih3 (b, (a + ((((l.getD i default)).n) + ((((l.getD i default)).elems).length : Int))), (i + 1)) ?_ ?_
                  · -- back 3.11, invariant
                    refine ⟨by omega, by omega, by omega, by omega, by omega, ?_⟩
                    rw [I3.2.2.2.2.2, chkR, if_pos (by omega), if_neg (by omega), if_neg (by first | omega | exact fun hh => adjR_n1 (by omega) (by omega) hh.2 | exact fun hh => adjR_n2 (by omega) (by omega) hh.2 | exact fun hh => adjR_n0 (by omega) (by omega) (by assumption) hh.2)]
                    first | (exfalso; omega) | ((first | rw [if_pos (by omega)] | rw [if_neg (by omega)]); (first | rw [if_pos (by omega)] | rw [if_neg (by omega)]))
                  · -- back 3.11, measure
                    show (_:Nat) < _; (first | omega | with_reducible exact fun h => h | (intro hq; rw [hq]; done) | (intro hq; rw [hq]; rfl) | (simp only [List.length_map]; done) | (simp only [List.length_map]; omega) | (simp; omega) | (simp; done))
                · (try simp only [decide_eq_true_eq, decide_eq_false_iff_not, Int.not_lt, Int.not_le, Bool.and_eq_true, Bool.and_eq_false_iff, Bool.not_eq_true', Bool.not_eq_false', bne_iff_ne, bne_eq_false_iff_eq, ne_eq] at h22)
                  refine Sim.skip ?_
                  refine inBlk_normal ?_
                  refine andThen_normal ?_
                  refine Sim.reg (orcs := [(0, ⟨some (.t (.sc (.int .i64 ((i : Int) + 1)))), none, none, none⟩)]) (keys := [0, 3, 4, 10, 11]) (τ := []) (nx := 488)
                    (sl := [(0, .t (.lst 4 (List.map dstepT l))), (3, .t (.sc (.int .i64 b))), (4, .t (.sc (.int .i64 a))), (10, .t (.sc (.int .i64 (l.length : Int)))), (11, .t (.sc (.int .i64 ((i : Int) + 1))))]) (l := [])
                    (C := [Weak (.t (.sc (.int .i64 (IntKind.i64.wrap ((i : Int) + 1))))) (.t (.sc (.int .i64 ((i : Int) + 1))))]) (by kernel_rfl) ?_ ?_
                  · -- region 24
                    refine ⟨(Weak.of_eq (nw ?_)), trivial⟩
                    all_goals omega
                  refine andThen_normal ?_
                  refine LoopSim.weaken (Le.ren (τ := []) (keys := [0, 3, 4, 10, 11]) (nx := 48) (sl := [(0, .t (.lst 4 (List.map dstepT l))), (3, .t (.sc (.int .i64 b))), (4, .t (.sc (.int .i64 a))), (10, .t (.sc (.int .i64 (l.length : Int)))), (11, .t (.sc (.int .i64 (((i + 1) : Nat) : Int))))]) (l := []) (by kernel_rfl)) ?_
                  refine ih3 (b, a, (i + 1)) ?_ ?_
                  · -- back 3.12, invariant
                    refine ⟨by omega, by omega, by omega, by omega, by omega, ?_⟩
                    rw [I3.2.2.2.2.2, chkR, if_pos (by omega), if_neg (by omega), if_neg (by first | omega | exact fun hh => adjR_n1 (by omega) (by omega) hh.2 | exact fun hh => adjR_n2 (by omega) (by omega) hh.2 | exact fun hh => adjR_n0 (by omega) (by omega) (by assumption) hh.2)]
                    first | (exfalso; omega) | ((first | rw [if_pos (by omega)] | rw [if_neg (by omega)]); (first | rw [if_pos (by omega)] | rw [if_neg (by omega)]))
                  · -- back 3.12, measure
                    show (_:Nat) < _; (first | omega | with_reducible exact fun h => h | (intro hq; rw [hq]; done) | (intro hq; rw [hq]; rfl) | (simp only [List.length_map]; done) | (simp only [List.length_map]; omega) | (simp; omega) | (simp; done))
      · (try simp only [decide_eq_true_eq, decide_eq_false_iff_not, Int.not_lt, Int.not_le, gt_iff_lt] at h9)
        refine Sim.skip ?_
        refine andThen_normal ?_
        refine Sim.seq ?_
        refine Sim.seq ?_
        refine Sim.reg (orcs := []) (keys := [0, 3, 4, 6, 10, 11, 58]) (τ := [(104, 104)]) (nx := 232)
          (sl := [(0, .t (.lst 4 (List.map dstepT l))), (3, .t (.sc (.int .i64 b))), (4, .t (.sc (.int .i64 a))), (6, .ptr 104 0), (10, .t (.sc (.int .i64 (l.length : Int)))), (11, .t (.sc (.int .i64 (i : Int)))), (58, .t (.sc (.bool (((((l.getD i default)).kind) != 1) && decide (b < 2147483648)))))]) (l := [(104, .box [.t (.sc (.int .i64 (((l.getD i default)).kind))), .t (.sc (.int .i64 (((l.getD i default)).n))), .t (.lst 2 (List.map attrT (((l.getD i default)).attrs))), .t (.lst 3 (List.map elemT (((l.getD i default)).elems)))])])
          (C := [((((l.getD i default)).kind) != 1) = true → ((((l.getD i default)).kind) != 1) = true, ((((l.getD i default)).kind) != 1) = true → ((((l.getD i default)).kind) != 1) = true]) (by kernel_rfl) ?_ ?_
        · -- region 20
          refine ⟨?_, ?_, trivial⟩
          all_goals (first | omega | with_reducible exact fun h => h | (intro hg hq; rw [hg, hq]; rfl) | (intro hq; rw [hq]; done) | (intro hq; rw [hq]; rfl) | ((try intro hg); (try simp [-List.getD_eq_getElem?_getD] at hg); (try simp only [List.length_map]); first | done | omega | rfl | (simp; done) | (simp; omega) | (simp [hg]; done) | (intro hq; simp [hg, hq]; done) | (intro hq; simp [hg, hq]; omega)))
        refine andThen_normal ?_
        refine Sim.cond (b := (((((l.getD i default)).kind) != 1) && decide (b < 2147483648))) (by kernel_rfl) (fun h20 => ?_) (fun h20 => ?_)
        · (try simp only [decide_eq_true_eq, decide_eq_false_iff_not, Int.not_lt, Int.not_le, Bool.and_eq_true, Bool.and_eq_false_iff, Bool.not_eq_true', Bool.not_eq_false', bne_iff_ne, bne_eq_false_iff_eq, ne_eq] at h20)
          refine Sim.reg (orcs := [(3, ⟨some (.t (.sc (.int .i64 (b + (((l.getD i default)).n))))), none, none, none⟩)]) (keys := [0, 3, 4, 6, 10, 11]) (τ := [(104, 104)]) (nx := 272)
            (sl := [(0, .t (.lst 4 (List.map dstepT l))), (3, .t (.sc (.int .i64 (b + (((l.getD i default)).n))))), (4, .t (.sc (.int .i64 a))), (6, .ptr 104 0), (10, .t (.sc (.int .i64 (l.length : Int)))), (11, .t (.sc (.int .i64 (i : Int))))]) (l := [(104, .box [.t (.sc (.int .i64 (((l.getD i default)).kind))), .t (.sc (.int .i64 (((l.getD i default)).n))), .t (.lst 2 (List.map attrT (((l.getD i default)).attrs))), .t (.lst 3 (List.map elemT (((l.getD i default)).elems)))])])
            (C := [Weak (.t (.sc (.int .i64 (IntKind.i64.wrap (b + (((l.getD i default)).n)))))) (.t (.sc (.int .i64 (b + (((l.getD i default)).n)))))]) (by kernel_rfl) ?_ ?_
          · -- region 21
            refine ⟨(Weak.of_eq (nw ?_)), trivial⟩
            all_goals omega
          refine andThen_normal ?_
          refine Sim.seq ?_
          refine Sim.reg (orcs := []) (keys := [0, 3, 4, 6, 10, 11, 69]) (τ := [(104, 104)]) (nx := 328)
            (sl := [(0, .t (.lst 4 (List.map dstepT l))), (3, .t (.sc (.int .i64 (b + (((l.getD i default)).n))))), (4, .t (.sc (.int .i64 a))), (6, .ptr 104 0), (10, .t (.sc (.int .i64 (l.length : Int)))), (11, .t (.sc (.int .i64 (i : Int)))), (69, .t (.sc (.bool (((((l.getD i default)).kind) != 2) && decide (a < 2147483648)))))]) (l := [(104, .box [.t (.sc (.int .i64 (((l.getD i default)).kind))), .t (.sc (.int .i64 (((l.getD i default)).n))), .t (.lst 2 (List.map attrT (((l.getD i default)).attrs))), .t (.lst 3 (List.map elemT (((l.getD i default)).elems)))])])
            (C := [((((l.getD i default)).kind) != 2) = true → ((((l.getD i default)).kind) != 2) = true, ((((l.getD i default)).kind) != 2) = true → ((((l.getD i default)).kind) != 2) = true]) (by kernel_rfl) ?_ ?_
          · -- region 22
            refine ⟨?_, ?_, trivial⟩
            all_goals (first | omega | with_reducible exact fun h => h | (intro hg hq; rw [hg, hq]; rfl) | (intro hq; rw [hq]; done) | (intro hq; rw [hq]; rfl) | ((try intro hg); (try simp [-List.getD_eq_getElem?_getD] at hg); (try simp only [List.length_map]); first | done | omega | rfl | (simp; done) | (simp; omega) | (simp [hg]; done) | (intro hq; simp [hg, hq]; done) | (intro hq; simp [hg, hq]; omega)))
          refine andThen_normal ?_
          refine Sim.cond (b := (((((l.getD i default)).kind) != 2) && decide (a < 2147483648))) (by kernel_rfl) (fun h22 => ?_) (fun h22 => ?_)
          · (try simp only [decide_eq_true_eq, decide_eq_false_iff_not, Int.not_lt, Int.not_le, Bool.and_eq_true, Bool.and_eq_false_iff, Bool.not_eq_true', Bool.not_eq_false', bne_iff_ne, bne_eq_false_iff_eq, ne_eq] at h22)
            refine Sim.reg (orcs := [(5, ⟨some (.t (.sc (.int .i64 ((((l.getD i default)).elems).length : Int)))), none, none, none⟩), (6, ⟨some (.t (.sc (.int .i64 ((((l.getD i default)).n) + ((((l.getD i default)).elems).length : Int))))), none, none, none⟩), (7, ⟨some (.t (.sc (.int .i64 (a + ((((l.getD i default)).n) + ((((l.getD i default)).elems).length : Int)))))), none, none, none⟩)]) (keys := [0, 3, 4, 10, 11]) (τ := []) (nx := 400)
              (sl := [(0, .t (.lst 4 (List.map dstepT l))), (3, .t (.sc (.int .i64 (b + (((l.getD i default)).n))))), (4, .t (.sc (.int .i64 (a + ((((l.getD i default)).n) + ((((l.getD i default)).elems).length : Int)))))), (10, .t (.sc (.int .i64 (l.length : Int)))), (11, .t (.sc (.int .i64 (i : Int))))]) (l := [])
              (C := [Weak (.t (.sc (.int .i64 ((List.map elemT (((l.getD i default)).elems)).length : Int)))) (.t (.sc (.int .i64 ((((l.getD i default)).elems).length : Int)))), Weak (.t (.sc (.int .i64 (IntKind.i64.wrap ((((l.getD i default)).n) + ((((l.getD i default)).elems).length : Int)))))) (.t (.sc (.int .i64 ((((l.getD i default)).n) + ((((l.getD i default)).elems).length : Int))))), Weak (.t (.sc (.int .i64 (IntKind.i64.wrap (a + ((((l.getD i default)).n) + ((((l.getD i default)).elems).length : Int))))))) (.t (.sc (.int .i64 (a + ((((l.getD i default)).n) + ((((l.getD i default)).elems).length : Int))))))]) (by kernel_rfl) ?_ ?_
            · -- region 23
              refine ⟨(Weak.of_eq len_map), (Weak.of_eq (nw ?_)), (Weak.of_eq (nw ?_)), trivial⟩
              all_goals omega
            refine inBlk_normal ?_
            refine andThen_normal ?_
            refine Sim.reg (orcs := [(0, ⟨some (.t (.sc (.int .i64 ((i : Int) + 1)))), none, none, none⟩)]) (keys := [0, 3, 4, 10, 11]) (τ := []) (nx := 416)
              (sl := [(0, .t (.lst 4 (List.map dstepT l))), (3, .t (.sc (.int .i64 (b + (((l.getD i default)).n))))), (4, .t (.sc (.int .i64 (a + ((((l.getD i default)).n) + ((((l.getD i default)).elems).length : Int)))))), (10, .t (.sc (.int .i64 (l.length : Int)))), (11, .t (.sc (.int .i64 ((i : Int) + 1))))]) (l := [])
              (C := [Weak (.t (.sc (.int .i64 (IntKind.i64.wrap ((i : Int) + 1))))) (.t (.sc (.int .i64 ((i : Int) + 1))))]) (by kernel_rfl) ?_ ?_
            · -- region 24
              refine ⟨(Weak.of_eq (nw ?_)), trivial⟩
              all_goals omega
            refine andThen_normal ?_
            refine LoopSim.weaken (Le.ren (τ := []) (keys := [0, 3, 4, 10, 11]) (nx := 48) (sl := [(0, .t (.lst 4 (List.map dstepT l))), (3, .t (.sc (.int .i64 (b + (((l.getD i default)).n))))), (4, .t (.sc (.int .i64 (a + ((((l.getD i default)).n) + ((((l.getD i default)).elems).length : Int)))))), (10, .t (.sc (.int .i64 (l.length : Int)))), (11, .t (.sc (.int .i64 (((i + 1) : Nat) : Int))))]) (l := []) (by kernel_rfl)) ?_
            refine ih3 ((b + (((l.getD i default)).n)), (a + ((((l.getD i default)).n) + ((((l.getD i default)).elems).length : Int))), (i + 1)) ?_ ?_
            · -- back 3.13, invariant
              refine ⟨by omega, by omega, by omega, by omega, by omega, ?_⟩
              rw [I3.2.2.2.2.2, chkR, if_pos (by omega), if_neg (by omega), if_neg (by first | omega | exact fun hh => adjR_n1 (by omega) (by omega) hh.2 | exact fun hh => adjR_n2 (by omega) (by omega) hh.2 | exact fun hh => adjR_n0 (by omega) (by omega) (by assumption) hh.2)]
              first | (exfalso; omega) | ((first | rw [if_pos (by omega)] | rw [if_neg (by omega)]); (first | rw [if_pos (by omega)] | rw [if_neg (by omega)]))
            · -- back 3.13, measure
              show (_:Nat) < _; (first | omega | with_reducible exact fun h => h | (intro hq; rw [hq]; done) | (intro hq; rw [hq]; rfl) | (simp only [List.length_map]; done) | (simp only [List.length_map]; omega) | (simp; omega) | (simp; done))
          · (try simp only [decide_eq_true_eq, decide_eq_false_iff_not, Int.not_lt, Int.not_le, Bool.and_eq_true, Bool.and_eq_false_iff, Bool.not_eq_true', Bool.not_eq_false', bne_iff_ne, bne_eq_false_iff_eq, ne_eq] at h22)
            refine Sim.skip ?_
            refine inBlk_normal ?_
            refine andThen_normal ?_
            refine Sim.reg (orcs := [(0, ⟨some (.t (.sc (.int .i64 ((i : Int) + 1)))), none, none, none⟩)]) (keys := [0, 3, 4, 10, 11]) (τ := []) (nx := 344)
              (sl := [(0, .t (.lst 4 (List.map dstepT l))), (3, .t (.sc (.int .i64 (b + (((l.getD i default)).n))))), (4, .t (.sc (.int .i64 a))), (10, .t (.sc (.int .i64 (l.length : Int)))), (11, .t (.sc (.int .i64 ((i : Int) + 1))))]) (l := [])
              (C := [Weak (.t (.sc (.int .i64 (IntKind.i64.wrap ((i : Int) + 1))))) (.t (.sc (.int .i64 ((i : Int) + 1))))]) (by kernel_rfl) ?_ ?_
            · -- region 24
              refine ⟨(Weak.of_eq (nw ?_)), trivial⟩
              all_goals omega
            refine andThen_normal ?_
            refine LoopSim.weaken (Le.ren (τ := []) (keys := [0, 3, 4, 10, 11]) (nx := 48) (sl := [(0, .t (.lst 4 (List.map dstepT l))), (3, .t (.sc (.int .i64 (b + (((l.getD i default)).n))))), (4, .t (.sc (.int .i64 a))), (10, .t (.sc (.int .i64 (l.length : Int)))), (11, .t (.sc (.int .i64 (((i + 1) : Nat) : Int))))]) (l := []) (by kernel_rfl)) ?_
            refine ih3 ((b + (((l.getD i default)).n)), a, (i + 1)) ?_ ?_
            · -- back 3.14, invariant
              refine ⟨by omega, by omega, by omega, by omega, by omega, ?_⟩
              rw [I3.2.2.2.2.2, chkR, if_pos (by omega), if_neg (by omega), if_neg (by first | omega | exact fun hh => adjR_n1 (by omega) (by omega) hh.2 | exact fun hh => adjR_n2 (by omega) (by omega) hh.2 | exact fun hh => adjR_n0 (by omega) (by omega) (by assumption) hh.2)]
              first | (exfalso; omega) | ((first | rw [if_pos (by omega)] | rw [if_neg (by omega)]); (first | rw [if_pos (by omega)] | rw [if_neg (by omega)]))
            · -- back 3.14, measure
              show (_:Nat) < _; (first | omega | with_reducible exact fun h => h | (intro hq; rw [hq]; done) | (intro hq; rw [hq]; rfl) | (simp only [List.length_map]; done) | (simp only [List.length_map]; omega) | (simp; omega) | (simp; done))
        · (try simp only [decide_eq_true_eq, decide_eq_false_iff_not, Int.not_lt, Int.not_le, Bool.and_eq_true, Bool.and_eq_false_iff, Bool.not_eq_true', Bool.not_eq_false', bne_iff_ne, bne_eq_false_iff_eq, ne_eq] at h20)
          refine Sim.skip ?_
          refine andThen_normal ?_
          refine Sim.seq ?_
          refine Sim.reg (orcs := []) (keys := [0, 3, 4, 6, 10, 11, 69]) (τ := [(104, 104)]) (nx := 288)
            (sl := [(0, .t (.lst 4 (List.map dstepT l))), (3, .t (.sc (.int .i64 b))), (4, .t (.sc (.int .i64 a))), (6, .ptr 104 0), (10, .t (.sc (.int .i64 (l.length : Int)))), (11, .t (.sc (.int .i64 (i : Int)))), (69, .t (.sc (.bool (((((l.getD i default)).kind) != 2) && decide (a < 2147483648)))))]) (l := [(104, .box [.t (.sc (.int .i64 (((l.getD i default)).kind))), .t (.sc (.int .i64 (((l.getD i default)).n))), .t (.lst 2 (List.map attrT (((l.getD i default)).attrs))), .t (.lst 3 (List.map elemT (((l.getD i default)).elems)))])])
            (C := [((((l.getD i default)).kind) != 2) = true → ((((l.getD i default)).kind) != 2) = true, ((((l.getD i default)).kind) != 2) = true → ((((l.getD i default)).kind) != 2) = true]) (by kernel_rfl) ?_ ?_
          · -- region 22
            refine ⟨?_, ?_, trivial⟩
            all_goals (first | omega | with_reducible exact fun h => h | (intro hg hq; rw [hg, hq]; rfl) | (intro hq; rw [hq]; done) | (intro hq; rw [hq]; rfl) | ((try intro hg); (try simp [-List.getD_eq_getElem?_getD] at hg); (try simp only [List.length_map]); first | done | omega | rfl | (simp; done) | (simp; omega) | (simp [hg]; done) | (intro hq; simp [hg, hq]; done) | (intro hq; simp [hg, hq]; omega)))
          refine andThen_normal ?_
          refine Sim.cond (b := (((((l.getD i default)).kind) != 2) && decide (a < 2147483648))) (by kernel_rfl) (fun h22 => ?_) (fun h22 => ?_)
          · (try simp only [decide_eq_true_eq, decide_eq_false_iff_not, Int.not_lt, Int.not_le, Bool.and_eq_true, Bool.and_eq_false_iff, Bool.not_eq_true', Bool.not_eq_false', bne_iff_ne, bne_eq_false_iff_eq, ne_eq] at h22)
            refine Sim.reg (orcs := [(5, ⟨some (.t (.sc (.int .i64 ((((l.getD i default)).elems).length : Int)))), none, none, none⟩), (6, ⟨some (.t (.sc (.int .i64 ((((l.getD i default)).n) + ((((l.getD i default)).elems).length : Int))))), none, none, none⟩), (7, ⟨some (.t (.sc (.int .i64 (a + ((((l.getD i default)).n) + ((((l.getD i default)).elems).length : Int)))))), none, none, none⟩)]) (keys := [0, 3, 4, 10, 11]) (τ := []) (nx := 360)
              (sl := [(0, .t (.lst 4 (List.map dstepT l))), (3, .t (.sc (.int .i64 b))), (4, .t (.sc (.int .i64 (a + ((((l.getD i default)).n) + ((((l.getD i default)).elems).length : Int)))))), (10, .t (.sc (.int .i64 (l.length : Int)))), (11, .t (.sc (.int .i64 (i : Int))))]) (l := [])
              (C := [Weak (.t (.sc (.int .i64 ((List.map elemT (((l.getD i default)).elems)).length : Int)))) (.t (.sc (.int .i64 ((((l.getD i default)).elems).length : Int)))), Weak (.t (.sc (.int .i64 (IntKind.i64.wrap ((((l.getD i default)).n) + ((((l.getD i default)).elems).length : Int)))))) (.t (.sc (.int .i64 ((((l.getD i default)).n) + ((((l.getD i default)).elems).length : Int))))), Weak (.t (.sc (.int .i64 (IntKind.i64.wrap (a + ((((l.getD i default)).n) + ((((l.getD i default)).elems).length : Int))))))) (.t (.sc (.int .i64 (a + ((((l.getD i default)).n) + ((((l.getD i default)).elems).length : Int))))))]) (by kernel_rfl) ?_ ?_
            · -- region 23
              refine ⟨(Weak.of_eq len_map), (Weak.of_eq (nw ?_)), (Weak.of_eq (nw ?_)), trivial⟩
              all_goals omega
            refine inBlk_normal ?_
            refine andThen_normal ?_
            refine Sim.reg (orcs := [(0, ⟨some (.t (.sc (.int .i64 ((i : Int) + 1)))), none, none, none⟩)]) (keys := [0, 3, 4, 10, 11]) (τ := []) (nx := 376)
              (sl := [(0, .t (.lst 4 (List.map dstepT l))), (3, .t (.sc (.int .i64 b))), (4, .t (.sc (.int .i64 (a + ((((l.getD i default)).n) + ((((l.getD i default)).elems).length : Int)))))), (10, .t (.sc (.int .i64 (l.length : Int)))), (11, .t (.sc (.int .i64 ((i : Int) + 1))))]) (l := [])
              (C := [Weak (.t (.sc (.int .i64 (IntKind.i64.wrap ((i : Int) + 1))))) (.t (.sc (.int .i64 ((i : Int) + 1))))]) (by kernel_rfl) ?_ ?_
            · -- region 24
              refine ⟨(Weak.of_eq (nw ?_)), trivial⟩
              all_goals omega
            refine andThen_normal ?_
            refine LoopSim.weaken (Le.ren (τ := []) (keys := [0, 3, 4, 10, 11]) (nx := 48) (sl := [(0, .t (.lst 4 (List.map dstepT l))), (3, .t (.sc (.int .i64 b))), (4, .t (.sc (.int .i64 (a + ((((l.getD i default)).n) + ((((l.getD i default)).elems).length : Int)))))), (10, .t (.sc (.int .i64 (l.length : Int)))), (11, .t (.sc (.int .i64 (((i + 1) : Nat) : Int))))]) (l := []) (by kernel_rfl)) ?_
            refine ih3 (b, (a + ((((l.getD i default)).n) + ((((l.getD i default)).elems).length : Int))), (i + 1)) ?_ ?_
            · -- back 3.15, invariant
              refine ⟨by omega, by omega, by omega, by omega, by omega, ?_⟩
              rw [I3.2.2.2.2.2, chkR, if_pos (by omega), if_neg (by omega), if_neg (by first | omega | exact fun hh => adjR_n1 (by omega) (by omega) hh.2 | exact fun hh => adjR_n2 (by omega) (by omega) hh.2 | exact fun hh => adjR_n0 (by omega) (by omega) (by assumption) hh.2)]
              first | (exfalso; omega) | ((first | rw [if_pos (by omega)] | rw [if_neg (by omega)]); (first | rw [if_pos (by omega)] | rw [if_neg (by omega)]))
            · -- back 3.15, measure
              show (_:Nat) < _; (first | omega | with_reducible exact fun h => h | (intro hq; rw [hq]; done) | (intro hq; rw [hq]; rfl) | (simp only [List.length_map]; done) | (simp only [List.length_map]; omega) | (simp; omega) | (simp; done))
          · (try simp only [decide_eq_true_eq, decide_eq_false_iff_not, Int.not_lt, Int.not_le, Bool.and_eq_true, Bool.and_eq_false_iff, Bool.not_eq_true', Bool.not_eq_false', bne_iff_ne, bne_eq_false_iff_eq, ne_eq] at h22)
            refine Sim.skip ?_
            refine inBlk_normal ?_
            refine andThen_normal ?_
            refine Sim.reg (orcs := [(0, ⟨some (.t (.sc (.int .i64 ((i : Int) + 1)))), none, none, none⟩)]) (keys := [0, 3, 4, 10, 11]) (τ := []) (nx := 304)
              (sl := [(0, .t (.lst 4 (List.map dstepT l))), (3, .t (.sc (.int .i64 b))), (4, .t (.sc (.int .i64 a))), (10, .t (.sc (.int .i64 (l.length : Int)))), (11, .t (.sc (.int .i64 ((i : Int) + 1))))]) (l := [])
              (C := [Weak (.t (.sc (.int .i64 (IntKind.i64.wrap ((i : Int) + 1))))) (.t (.sc (.int .i64 ((i : Int) + 1))))]) (by kernel_rfl) ?_ ?_
            · -- region 24
              refine ⟨(Weak.of_eq (nw ?_)), trivial⟩
              all_goals omega
            refine andThen_normal ?_
            refine LoopSim.weaken (Le.ren (τ := []) (keys := [0, 3, 4, 10, 11]) (nx := 48) (sl := [(0, .t (.lst 4 (List.map dstepT l))), (3, .t (.sc (.int .i64 b))), (4, .t (.sc (.int .i64 a))), (10, .t (.sc (.int .i64 (l.length : Int)))), (11, .t (.sc (.int .i64 (((i + 1) : Nat) : Int))))]) (l := []) (by kernel_rfl)) ?_
            refine ih3 (b, a, (i + 1)) ?_ ?_
            · -- back 3.16, invariant
              refine ⟨by omega, by omega, by omega, by omega, by omega, ?_⟩
              rw [I3.2.2.2.2.2, chkR, if_pos (by omega), if_neg (by omega), if_neg (by first | omega | exact fun hh => adjR_n1 (by omega) (by omega) hh.2 | exact fun hh => adjR_n2 (by omega) (by omega) hh.2 | exact fun hh => adjR_n0 (by omega) (by omega) (by assumption) hh.2)]
              first | (exfalso; omega) | ((first | rw [if_pos (by omega)] | rw [if_neg (by omega)]); (first | rw [if_pos (by omega)] | rw [if_neg (by omega)]))
            · -- back 3.16, measure
              show (_:Nat) < _; (first | omega | with_reducible exact fun h => h | (intro hq; rw [hq]; done) | (intro hq; rw [hq]; rfl) | (simp only [List.length_map]; done) | (simp only [List.length_map]; omega) | (simp; omega) | (simp; done))
  · (try simp only [decide_eq_true_eq, decide_eq_false_iff_not, Int.not_lt, Int.not_le] at h3)
    refine Sim.exit ?_
    refine andThen_exit ?_
    refine andThen_exit ?_
    refine inBlk_same ?_
    refine andThen_normal ?_
    refine Sim.seq ?_
    refine Sim.seq ?_
    refine Sim.reg (orcs := []) (keys := [84]) (τ := []) (nx := 104)
      (sl := [(84, .t (.sc (.bool (decide (b > 2147483647) || decide (a > 2147483647)))))]) (l := [])
      (C := [(!(decide (b > 2147483647))) = true → (!(decide (b > 2147483647))) = true, (decide (b > 2147483647)) = false → (!(decide (b > 2147483647))) = true]) (by kernel_rfl) ?_ ?_
    · -- region 25
      refine ⟨?_, ?_, trivial⟩
      all_goals (first | omega | with_reducible exact fun h => h | (intro hg hq; rw [hg, hq]; rfl) | (intro hq; rw [hq]; done) | (intro hq; rw [hq]; rfl) | ((try intro hg); (try simp [-List.getD_eq_getElem?_getD] at hg); (try simp only [List.length_map]); first | done | omega | rfl | (simp; done) | (simp; omega) | (simp [hg]; done) | (intro hq; simp [hg, hq]; done) | (intro hq; simp [hg, hq]; omega)))
    refine andThen_normal ?_
    refine Sim.cond (b := (decide (b > 2147483647) || decide (a > 2147483647))) (by kernel_rfl) (fun h25 => ?_) (fun h25 => ?_)
    · (try simp only [decide_eq_true_eq, decide_eq_false_iff_not, Int.not_lt, Int.not_le, gt_iff_lt, Bool.or_eq_true, Bool.or_eq_false_iff] at h25)
      refine Sim.seq ?_
      refine Sim.reg (orcs := []) (keys := [2]) (τ := []) (nx := 112)
        (sl := [(2, .t (.sc (.int .i64 3)))]) (l := [])
        (C := []) (by kernel_rfl) ?_ ?_
      · -- region 26
        trivial
      refine andThen_normal ?_
      refine Sim.ret ?_
      refine andThen_ret ?_
      refine Fin.mk2 (.inl rfl) (τ := []) (keys := [2]) (nx := 112) (sl := [(2, .t (.sc (.int .i64 3)))]) (l := []) (res' := .t (.sc (.int .i64 3))) (by kernel_rfl) ?_ (by kernel_rfl) ?_
      · -- end 5, objects
        first | done | rfl
      · -- end 5, result
        have e5 : ((refD l) : Int) = 3 := by
          first | (rw [I3.2.2.2.2.2, chkR, if_pos (by omega), if_neg (by omega), if_pos ⟨by omega, by first | exact adjR_1 (by omega) (by omega) | exact adjR_2 (by omega) (by omega) | exact adjR_0 (by omega) (by omega) (by assumption)⟩]; done) | (rw [I3.2.2.2.2.2, chkR]; ((repeat' split) <;> first | rfl | omega | (simp_all; done) | (simp_all; omega)))
        show AVal.t (.sc (.int .i64 3)) = .t (.sc (.int .i64 (refD l)))
        rw [e5]
        try rfl
    · (try simp only [decide_eq_true_eq, decide_eq_false_iff_not, Int.not_lt, Int.not_le, gt_iff_lt, Bool.or_eq_true, Bool.or_eq_false_iff] at h25)
      refine Sim.skip ?_
      refine andThen_normal ?_
      refine Sim.seq ?_
      refine Sim.reg (orcs := []) (keys := [2]) (τ := []) (nx := 112)
        (sl := [(2, .t (.sc (.int .i64 0)))]) (l := [])
        (C := []) (by kernel_rfl) ?_ ?_
      · -- region 27
        trivial
      refine andThen_normal ?_
      refine Sim.ret ?_
      refine Fin.mk2 (.inl rfl) (τ := []) (keys := [2]) (nx := 112) (sl := [(2, .t (.sc (.int .i64 0)))]) (l := []) (res' := .t (.sc (.int .i64 0))) (by kernel_rfl) ?_ (by kernel_rfl) ?_
      · -- end 6, objects
        first | done | rfl
      · -- end 6, result
        have e6 : ((refD l) : Int) = 0 := by
          first | (rw [I3.2.2.2.2.2, chkR, if_pos (by omega), if_neg (by omega), if_pos ⟨by omega, by first | exact adjR_1 (by omega) (by omega) | exact adjR_2 (by omega) (by omega) | exact adjR_0 (by omega) (by omega) (by assumption)⟩]; done) | (rw [I3.2.2.2.2.2, chkR]; ((repeat' split) <;> first | rfl | omega | (simp_all; done) | (simp_all; omega)))
        show AVal.t (.sc (.int .i64 0)) = .t (.sc (.int .i64 (refD l)))
        rw [e6]
        try rfl

theorem fc_sizeR (l : List DStep) (hv : DValid l) : FC Try.prog 52 [.t (.lst 4 (List.map dstepT l))] (app emp []) (.t (.sc (.int .i64 (oldD l)))) (app emp []) := by
  refine FC.of_sim (fn := Try.f52) (nx := 0) (by kernel_rfl) rfl (by kernel_rfl) rfl ?_
  show Sim _ _ _ _ ⟨[(0, .t (.lst 4 (List.map dstepT l)))], app emp [], 0⟩ _
  refine Sim.len (t := 0) (k := 4) rfl (fun hl0 => ?_)
  rw [List.length_map] at hl0
  refine Sim.seq ?_
  refine Sim.reg (orcs := []) (keys := [0]) (τ := []) (nx := 8)
    (sl := [(0, .t (.lst 4 (List.map dstepT l)))]) (l := [])
    (C := []) (by kernel_rfl) ?_ ?_
  · -- region 0
    trivial
  refine andThen_normal ?_
  refine Sim.seq ?_
  refine Sim.reg (orcs := []) (keys := [0, 3]) (τ := []) (nx := 16)
    (sl := [(0, .t (.lst 4 (List.map dstepT l))), (3, .t (.sc (.int .i64 0)))]) (l := [])
    (C := []) (by kernel_rfl) ?_ ?_
  · -- region 1
    trivial
  refine andThen_normal ?_
  refine Sim.seq ?_
  refine Sim.seq ?_
  refine Sim.reg (orcs := [(1, ⟨some (.t (.sc (.int .i64 (l.length : Int)))), none, none, none⟩)]) (keys := [0, 3, 6, 7]) (τ := []) (nx := 40)
    (sl := [(0, .t (.lst 4 (List.map dstepT l))), (3, .t (.sc (.int .i64 0))), (6, .t (.sc (.int .i64 (l.length : Int)))), (7, .t (.sc (.int .i64 0)))]) (l := [])
    (C := [Weak (.t (.sc (.int .i64 ((List.map dstepT l).length : Int)))) (.t (.sc (.int .i64 (l.length : Int))))]) (by kernel_rfl) ?_ ?_
  · -- region 2
    exact ⟨(Weak.of_eq len_map), trivial⟩
  refine andThen_normal ?_
  refine Sim.block ?_
  refine Sim.weaken (Le.ren (τ := []) (keys := [0, 3, 6, 7]) (nx := 40) (sl := [(0, .t (.lst 4 (List.map dstepT l))), (3, .t (.sc (.int .i64 0))), (6, .t (.sc (.int .i64 (l.length : Int)))), (7, .t (.sc (.int .i64 ((0 : Nat) : Int))))]) (l := []) (by kernel_rfl)) ?_
  refine Sim.loop ?_
  refine loop_ind (α := Int × Nat) (fun (b, i) => ⟨[(0, .t (.lst 4 (List.map dstepT l))), (3, .t (.sc (.int .i64 b))), (6, .t (.sc (.int .i64 (l.length : Int)))), (7, .t (.sc (.int .i64 (i : Int))))], app emp [], 40⟩) (fun (b, i) => i ≤ l.length ∧ 0 ≤ b ∧ oldD l = b + oldD (l.drop i)) (fun (b, i) => l.length - i) ?_ (0, 0) ?_
  rotate_left
  · -- loop 3, start
    exact ⟨by omega, by decide, by simp⟩
  rintro ⟨b, i⟩ I3 ih3
  show LoopSim _ _ _ _ ⟨[(0, .t (.lst 4 (List.map dstepT l))), (3, .t (.sc (.int .i64 b))), (6, .t (.sc (.int .i64 (l.length : Int)))), (7, .t (.sc (.int .i64 (i : Int))))], app emp [], 40⟩ _
  replace I3 : i ≤ l.length ∧ 0 ≤ b ∧ oldD l = b + oldD (l.drop i) := I3
  have hv1 := hv.2.1
  refine LoopSim.step ?_
  refine Sim.seq ?_
  refine Sim.reg (orcs := []) (keys := [0, 3, 6, 7, 8]) (τ := []) (nx := 48)
    (sl := [(0, .t (.lst 4 (List.map dstepT l))), (3, .t (.sc (.int .i64 b))), (6, .t (.sc (.int .i64 (l.length : Int)))), (7, .t (.sc (.int .i64 (i : Int)))), (8, .t (.sc (.bool (decide ((i : Int) < (l.length : Int))))))]) (l := [])
    (C := []) (by kernel_rfl) ?_ ?_
  · -- region 3
    trivial
  refine andThen_normal ?_
  refine Sim.seq ?_
  refine Sim.cond (b := decide ((i : Int) < (l.length : Int))) (by kernel_rfl) (fun h3 => ?_) (fun h3 => ?_)
  · (try simp only [decide_eq_true_eq, decide_eq_false_iff_not, Int.not_lt, Int.not_le] at h3)
    refine Sim.skip ?_
    refine andThen_normal ?_
    refine Sim.seq ?_
    refine Sim.block ?_
    refine Sim.seq ?_
    refine Sim.reg (orcs := []) (keys := [0, 3, 4, 6, 7]) (τ := []) (nx := 64)
      (sl := [(0, .t (.lst 4 (List.map dstepT l))), (3, .t (.sc (.int .i64 b))), (4, .t (.sc (.int .i64 (i : Int)))), (6, .t (.sc (.int .i64 (l.length : Int)))), (7, .t (.sc (.int .i64 (i : Int))))]) (l := [])
      (C := []) (by kernel_rfl) ?_ ?_
    · -- region 4
      trivial
    refine andThen_normal ?_
    have hst := dlens_step (l := l) (i := i) (by omega) hv.1
    obtain ⟨s1, s2, s3, s4, s5, s6, s7, s8⟩ := hst
    have s9 : (if (l.getD i default).kind = 1 then 0 else (l.getD i default).n) = (l.getD i default).n := by (rcases s3 with ⟨k, n, _⟩ | ⟨k, _⟩; rw [if_pos k]; omega; rw [if_neg (by omega)])
    rw [s9] at s1
    refine Sim.reg (orcs := [(3, ⟨none, none, some (dstepT (l.getD i default)), none⟩), (6, ⟨some (.t (.sc (.int .i64 (b + (((l.getD i default)).n))))), none, none, none⟩)]) (keys := [0, 3, 6, 7]) (τ := []) (nx := 128)
      (sl := [(0, .t (.lst 4 (List.map dstepT l))), (3, .t (.sc (.int .i64 (b + (((l.getD i default)).n))))), (6, .t (.sc (.int .i64 (l.length : Int)))), (7, .t (.sc (.int .i64 (i : Int))))]) (l := [])
      (C := [(0:Int) ≤ (i : Int), (List.map dstepT l)[i]? = some (dstepT (l.getD i default)), Weak (.t (.sc (.int .i64 (IntKind.i64.wrap (b + (((l.getD i default)).n)))))) (.t (.sc (.int .i64 (b + (((l.getD i default)).n)))))]) (by kernel_rfl) ?_ ?_
    · -- region 5
      refine ⟨?_, (elt_nat ?_), (Weak.of_eq (nw ?_)), trivial⟩
      all_goals omega
    refine inBlk_normal ?_
    refine andThen_normal ?_
    refine Sim.reg (orcs := [(0, ⟨some (.t (.sc (.int .i64 ((i : Int) + 1)))), none, none, none⟩)]) (keys := [0, 3, 6, 7]) (τ := []) (nx := 144)
      (sl := [(0, .t (.lst 4 (List.map dstepT l))), (3, .t (.sc (.int .i64 (b + (((l.getD i default)).n))))), (6, .t (.sc (.int .i64 (l.length : Int)))), (7, .t (.sc (.int .i64 ((i : Int) + 1))))]) (l := [])
      (C := [Weak (.t (.sc (.int .i64 (IntKind.i64.wrap ((i : Int) + 1))))) (.t (.sc (.int .i64 ((i : Int) + 1))))]) (by kernel_rfl) ?_ ?_
    · -- region 6
      refine ⟨(Weak.of_eq (nw ?_)), trivial⟩
      all_goals omega
    refine andThen_normal ?_
    refine LoopSim.weaken (Le.ren (τ := []) (keys := [0, 3, 6, 7]) (nx := 40) (sl := [(0, .t (.lst 4 (List.map dstepT l))), (3, .t (.sc (.int .i64 (b + (((l.getD i default)).n))))), (6, .t (.sc (.int .i64 (l.length : Int)))), (7, .t (.sc (.int .i64 (((i + 1) : Nat) : Int))))]) (l := []) (by kernel_rfl)) ?_
    refine ih3 ((b + (((l.getD i default)).n)), (i + 1)) ?_ ?_
    · -- back 3.1, invariant
      refine ⟨by omega, by omega, by omega⟩
    · -- back 3.1, measure
      show (_:Nat) < _; (first | omega | with_reducible exact fun h => h | (intro hq; rw [hq]; done) | (intro hq; rw [hq]; rfl) | (simp only [List.length_map]; done) | (simp only [List.length_map]; omega) | (simp; omega) | (simp; done))
  · (try simp only [decide_eq_true_eq, decide_eq_false_iff_not, Int.not_lt, Int.not_le] at h3)
    refine Sim.exit ?_
    refine andThen_exit ?_
    refine andThen_exit ?_
    refine inBlk_same ?_
    refine andThen_normal ?_
    refine Sim.seq ?_
    refine Sim.reg (orcs := []) (keys := [2]) (τ := []) (nx := 64)
      (sl := [(2, .t (.sc (.int .i64 b)))]) (l := [])
      (C := []) (by kernel_rfl) ?_ ?_
    · -- region 7
      trivial
    refine andThen_normal ?_
    refine Sim.ret ?_
    refine Fin.mk2 (.inl rfl) (τ := []) (keys := [2]) (nx := 64) (sl := [(2, .t (.sc (.int .i64 b)))]) (l := []) (res' := .t (.sc (.int .i64 b))) (by kernel_rfl) ?_ (by kernel_rfl) ?_
    · -- end 1, objects
      first | done | rfl
    · -- end 1, result
      have e1 : ((oldD l) : Int) = b := by
        have hE := dend (l := l) (i := i) (by omega)
        omega
      show AVal.t (.sc (.int .i64 b)) = .t (.sc (.int .i64 (oldD l)))
      rw [e1]
      try rfl
end Go.Ch
