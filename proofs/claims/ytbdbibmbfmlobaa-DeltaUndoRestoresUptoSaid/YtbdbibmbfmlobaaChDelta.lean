import Derived.Test.YtbdbibmbfmlobaaChFlow2
set_option linter.unusedVariables false
set_option linter.unusedSimpArgs false
set_option maxRecDepth 100000
set_option maxHeartbeats 4000000
open Go Go.Proofs Go.Ab
namespace Go.Ch
theorem fc_step (x : DStep) : FC Try.prog 102 [.t (dstepT x)] (app emp []) (.t (.sc (.int .i64 (stepD x)))) (app emp []) := by
  refine FC.of_sim (fn := Try.f102) (nx := 0) (by kernel_rfl) rfl (by kernel_rfl) rfl ?_
  show Sim _ _ _ _ ⟨[(0, .t (dstepT x))], app emp [], 0⟩ _
  refine Sim.seq ?_
  refine Sim.reg (orcs := []) (keys := [1]) (τ := [(0, 0)]) (nx := 16)
    (sl := [(1, .ptr 0 0)]) (l := [(0, .box [.t (.sc (.int .i64 x.kind)), .t (.sc (.int .i64 x.n)), .t (.lst 2 (List.map attrT x.attrs)), .t (.lst 3 (List.map elemT x.elems))])])
    (C := []) (by kernel_rfl) ?_ ?_
  · -- region 0
    trivial
  refine andThen_normal ?_
  refine Sim.seq ?_
  refine Sim.seq ?_
  refine Sim.reg (orcs := []) (keys := [1, 4]) (τ := [(0, 0)]) (nx := 32)
    (sl := [(1, .ptr 0 0), (4, .t (.sc (.int .i64 x.kind)))]) (l := [(0, .box [.t (.sc (.int .i64 x.kind)), .t (.sc (.int .i64 x.n)), .t (.lst 2 (List.map attrT x.attrs)), .t (.lst 3 (List.map elemT x.elems))])])
    (C := []) (by kernel_rfl) ?_ ?_
  · -- region 1
    trivial
  refine andThen_normal ?_
  refine Sim.block ?_
  refine Sim.seq ?_
  refine Sim.seq ?_
  refine Sim.reg (orcs := []) (keys := [1, 4, 5]) (τ := [(0, 0)]) (nx := 48)
    (sl := [(1, .ptr 0 0), (4, .t (.sc (.int .i64 x.kind))), (5, .t (.sc (.bool (x.kind == 0))))]) (l := [(0, .box [.t (.sc (.int .i64 x.kind)), .t (.sc (.int .i64 x.n)), .t (.lst 2 (List.map attrT x.attrs)), .t (.lst 3 (List.map elemT x.elems))])])
    (C := []) (by kernel_rfl) ?_ ?_
  · -- region 2
    trivial
  refine andThen_normal ?_
  refine Sim.cond (b := (x.kind == 0)) (by kernel_rfl) (fun h2 => ?_) (fun h2 => ?_)
  · (try simp only [beq_iff_eq, beq_eq_false_iff_ne, ne_eq] at h2)
    refine Sim.skip ?_
    refine andThen_normal ?_
    refine Sim.cond (b := (x.kind == 0)) (by kernel_rfl) (fun h2 => ?_) (fun h2 => ?_)
    · (try simp only [beq_iff_eq, beq_eq_false_iff_ne, ne_eq] at h2)
      refine Sim.seq ?_
      refine Sim.seq ?_
      refine Sim.reg (orcs := [(2, ⟨some (.t (.sc (.int .i64 (x.elems.length : Int)))), none, none, none⟩), (11, ⟨some (.t (.sc (.int .i64 (x.attrs.length : Int)))), none, none, none⟩)]) (keys := [1, 22]) (τ := [(0, 0)]) (nx := 168)
        (sl := [(1, .ptr 0 0), (22, .t (.sc (.bool (decide ((x.elems.length : Int) > 0) || ((x.kind == 2) && decide ((x.attrs.length : Int) > 0))))))]) (l := [(0, .box [.t (.sc (.int .i64 x.kind)), .t (.sc (.int .i64 x.n)), .t (.lst 2 (List.map attrT x.attrs)), .t (.lst 3 (List.map elemT x.elems))])])
        (C := [Weak (.t (.sc (.int .i64 ((List.map elemT x.elems).length : Int)))) (.t (.sc (.int .i64 (x.elems.length : Int)))), (!(decide ((x.elems.length : Int) > 0))) = true → (!(decide ((x.elems.length : Int) > 0))) = true, (!(decide ((x.elems.length : Int) > 0))) = true → (!(decide ((x.elems.length : Int) > 0))) = true, (!(decide ((x.elems.length : Int) > 0))) = true → (!(decide ((x.elems.length : Int) > 0))) = true, ((!(decide ((x.elems.length : Int) > 0))) && (x.kind == 2)) = true → ((!(decide ((x.elems.length : Int) > 0))) && (x.kind == 2)) = true, ((!(decide ((x.elems.length : Int) > 0))) && (x.kind == 2)) = true → ((!(decide ((x.elems.length : Int) > 0))) && (x.kind == 2)) = true, ((!(decide ((x.elems.length : Int) > 0))) && (x.kind == 2)) = true → Weak (.t (.sc (.int .i64 ((List.map attrT x.attrs).length : Int)))) (.t (.sc (.int .i64 (x.attrs.length : Int)))), ((!(decide ((x.elems.length : Int) > 0))) && (x.kind == 2)) = true → ((!(decide ((x.elems.length : Int) > 0))) && (x.kind == 2)) = true, (!(decide ((x.elems.length : Int) > 0))) = true → (!(decide ((x.elems.length : Int) > 0))) = true, (!(decide ((x.elems.length : Int) > 0))) = true → (x.kind == 2) = true → ((!(decide ((x.elems.length : Int) > 0))) && (x.kind == 2)) = true, (decide ((x.elems.length : Int) > 0)) = false → (!(decide ((x.elems.length : Int) > 0))) = true]) (by kernel_rfl) ?_ ?_
      · -- region 4
        refine ⟨(Weak.of_eq len_map), ?_, ?_, ?_, ?_, ?_, (fun hg => by (try simp only [decide_eq_true_eq, decide_eq_false_iff_not, Int.not_lt, Int.not_le, gt_iff_lt, Bool.not_eq_true', Bool.not_eq_false', Bool.and_eq_true, Bool.and_eq_false_iff, beq_iff_eq, beq_eq_false_iff_ne, ne_eq] at hg); exact (Weak.of_eq len_map)), ?_, ?_, ?_, ?_, trivial⟩
        all_goals (first | omega | with_reducible exact fun h => h | (intro hg hq; rw [hg, hq]; rfl) | (intro hq; rw [hq]; done) | (intro hq; rw [hq]; rfl) | ((try intro hg); (try simp [-List.getD_eq_getElem?_getD] at hg); (try simp only [List.length_map]); first | done | omega | rfl | (simp; done) | (simp; omega) | (simp [hg]; done) | (intro hq; simp [hg, hq]; done) | (intro hq; simp [hg, hq]; omega)))
      refine andThen_normal ?_
      refine Sim.cond (b := (decide ((x.elems.length : Int) > 0) || ((x.kind == 2) && decide ((x.attrs.length : Int) > 0)))) (by kernel_rfl) (fun h4 => ?_) (fun h4 => ?_)
      · (try simp only [decide_eq_true_eq, decide_eq_false_iff_not, Int.not_lt, Int.not_le, gt_iff_lt, Bool.and_eq_true, Bool.and_eq_false_iff, Bool.not_eq_true', Bool.not_eq_false', Bool.or_eq_true, Bool.or_eq_false_iff, beq_iff_eq, beq_eq_false_iff_ne, ne_eq] at h4)
        refine Sim.seq ?_
        refine Sim.reg (orcs := []) (keys := [2]) (τ := []) (nx := 176)
          (sl := [(2, .t (.sc (.int .i64 4)))]) (l := [])
          (C := []) (by kernel_rfl) ?_ ?_
        · -- region 5
          trivial
        refine andThen_normal ?_
        refine Sim.ret ?_
        refine andThen_ret ?_
        refine inBlk_ret ?_
        refine andThen_ret ?_
        refine Fin.mk2 (.inl rfl) (τ := []) (keys := [2]) (nx := 176) (sl := [(2, .t (.sc (.int .i64 4)))]) (l := []) (res' := .t (.sc (.int .i64 4))) (by kernel_rfl) ?_ (by kernel_rfl) ?_
        · -- end 1, objects
          first | done | rfl
        · -- end 1, result
          have e1 : ((stepD x) : Int) = 4 := by
            unfold stepD; ((repeat' split) <;> first | rfl | omega | (simp_all; done) | (simp_all; omega))
          show AVal.t (.sc (.int .i64 4)) = .t (.sc (.int .i64 (stepD x)))
          rw [e1]
          try rfl
      · (try simp only [decide_eq_true_eq, decide_eq_false_iff_not, Int.not_lt, Int.not_le, gt_iff_lt, Bool.and_eq_true, Bool.and_eq_false_iff, Bool.not_eq_true', Bool.not_eq_false', Bool.or_eq_true, Bool.or_eq_false_iff, beq_iff_eq, beq_eq_false_iff_ne, ne_eq] at h4)
        refine Sim.skip ?_
        refine andThen_normal ?_
        refine Sim.seq ?_
        refine Sim.seq ?_
        refine Sim.reg (orcs := []) (keys := [1, 30]) (τ := [(0, 0)]) (nx := 232)
          (sl := [(1, .ptr 0 0), (30, .t (.sc (.bool (decide (x.n < 1) || decide (x.n > 2147483647)))))]) (l := [(0, .box [.t (.sc (.int .i64 x.kind)), .t (.sc (.int .i64 x.n)), .t (.lst 2 (List.map attrT x.attrs)), .t (.lst 3 (List.map elemT x.elems))])])
          (C := [(!(decide (x.n < 1))) = true → (!(decide (x.n < 1))) = true, (!(decide (x.n < 1))) = true → (!(decide (x.n < 1))) = true, (decide (x.n < 1)) = false → (!(decide (x.n < 1))) = true]) (by kernel_rfl) ?_ ?_
        · -- region 6
          refine ⟨?_, ?_, ?_, trivial⟩
          all_goals (first | omega | with_reducible exact fun h => h | (intro hg hq; rw [hg, hq]; rfl) | (intro hq; rw [hq]; done) | (intro hq; rw [hq]; rfl) | ((try intro hg); (try simp [-List.getD_eq_getElem?_getD] at hg); (try simp only [List.length_map]); first | done | omega | rfl | (simp; done) | (simp; omega) | (simp [hg]; done) | (intro hq; simp [hg, hq]; done) | (intro hq; simp [hg, hq]; omega)))
        refine andThen_normal ?_
        refine Sim.cond (b := (decide (x.n < 1) || decide (x.n > 2147483647))) (by kernel_rfl) (fun h6 => ?_) (fun h6 => ?_)
        · (try simp only [decide_eq_true_eq, decide_eq_false_iff_not, Int.not_lt, Int.not_le, gt_iff_lt, Bool.or_eq_true, Bool.or_eq_false_iff] at h6)
          refine Sim.seq ?_
          refine Sim.reg (orcs := []) (keys := [2]) (τ := []) (nx := 240)
            (sl := [(2, .t (.sc (.int .i64 2)))]) (l := [])
            (C := []) (by kernel_rfl) ?_ ?_
          · -- region 7
            trivial
          refine andThen_normal ?_
          refine Sim.ret ?_
          refine andThen_ret ?_
          refine inBlk_ret ?_
          refine andThen_ret ?_
          refine Fin.mk2 (.inl rfl) (τ := []) (keys := [2]) (nx := 240) (sl := [(2, .t (.sc (.int .i64 2)))]) (l := []) (res' := .t (.sc (.int .i64 2))) (by kernel_rfl) ?_ (by kernel_rfl) ?_
          · -- end 2, objects
            first | done | rfl
          · -- end 2, result
            have e2 : ((stepD x) : Int) = 2 := by
              unfold stepD; ((repeat' split) <;> first | rfl | omega | (simp_all; done) | (simp_all; omega))
            show AVal.t (.sc (.int .i64 2)) = .t (.sc (.int .i64 (stepD x)))
            rw [e2]
            try rfl
        · (try simp only [decide_eq_true_eq, decide_eq_false_iff_not, Int.not_lt, Int.not_le, gt_iff_lt, Bool.or_eq_true, Bool.or_eq_false_iff] at h6)
          refine Sim.skip ?_
          refine andThen_normal ?_
          refine Sim.seq ?_
          refine Sim.reg (orcs := [(2, ⟨none, none, none, some (⟨0, [], .t (.sc (.int .i64 (chkA true x.attrs 0))), []⟩)⟩)]) (keys := [2]) (τ := []) (nx := 264)
            (sl := [(2, .t (.sc (.int .i64 (chkA true x.attrs 0))))]) (l := [])
            (C := [callable Try.prog 82 = true, FC Try.prog 82 [.t (.lst 2 (List.map attrT x.attrs))] emp (.t (.sc (.int .i64 (chkA true x.attrs 0)))) emp]) (by kernel_rfl) ?_ ?_
          · -- region 8
            exact ⟨(by kernel_rfl), (fc_acheckChange x.attrs), trivial⟩
          refine andThen_normal ?_
          refine Sim.ret ?_
          refine inBlk_ret ?_
          refine andThen_ret ?_
          refine Fin.mk2 (.inl rfl) (τ := []) (keys := [2]) (nx := 264) (sl := [(2, .t (.sc (.int .i64 (chkA true x.attrs 0))))]) (l := []) (res' := .t (.sc (.int .i64 (chkA true x.attrs 0)))) (by kernel_rfl) ?_ (by kernel_rfl) ?_
          · -- end 3, objects
            first | done | rfl
          · -- end 3, result
            have e3 : ((stepD x) : Int) = (chkA true x.attrs 0) := by
              unfold stepD; ((repeat' split) <;> first | rfl | omega | (simp_all; done) | (simp_all; omega))
            show AVal.t (.sc (.int .i64 (chkA true x.attrs 0))) = .t (.sc (.int .i64 (stepD x)))
            rw [e3]
            try rfl
    · (try simp only [beq_iff_eq, beq_eq_false_iff_ne, ne_eq] at h2)
      refine Sim.seq ?_
      refine Sim.reg (orcs := []) (keys := [1, 34]) (τ := [(0, 0)]) (nx := 64)
        (sl := [(1, .ptr 0 0), (34, .t (.sc (.bool (x.kind == 1))))]) (l := [(0, .box [.t (.sc (.int .i64 x.kind)), .t (.sc (.int .i64 x.n)), .t (.lst 2 (List.map attrT x.attrs)), .t (.lst 3 (List.map elemT x.elems))])])
        (C := []) (by kernel_rfl) ?_ ?_
      · -- region 9
        trivial
      refine andThen_normal ?_
      refine Sim.cond (b := (x.kind == 1)) (by kernel_rfl) (fun h9 => ?_) (fun h9 => ?_)
      · (try simp only [beq_iff_eq, beq_eq_false_iff_ne, ne_eq] at h9)
        refine Sim.seq ?_
        refine Sim.seq ?_
        refine Sim.reg (orcs := [(6, ⟨some (.t (.sc (.int .i64 (x.attrs.length : Int)))), none, none, none⟩)]) (keys := [1, 44]) (τ := [(0, 0)]) (nx := 136)
          (sl := [(1, .ptr 0 0), (44, .t (.sc (.bool ((x.n != 0) || decide ((x.attrs.length : Int) > 0)))))]) (l := [(0, .box [.t (.sc (.int .i64 x.kind)), .t (.sc (.int .i64 x.n)), .t (.lst 2 (List.map attrT x.attrs)), .t (.lst 3 (List.map elemT x.elems))])])
          (C := [(!(x.n != 0)) = true → (!(x.n != 0)) = true, (!(x.n != 0)) = true → (!(x.n != 0)) = true, (!(x.n != 0)) = true → Weak (.t (.sc (.int .i64 ((List.map attrT x.attrs).length : Int)))) (.t (.sc (.int .i64 (x.attrs.length : Int)))), (!(x.n != 0)) = true → (!(x.n != 0)) = true, (x.n != 0) = false → (!(x.n != 0)) = true]) (by kernel_rfl) ?_ ?_
        · -- region 10
          refine ⟨?_, ?_, (fun hg => by (try simp only [Bool.not_eq_true', Bool.not_eq_false', bne_iff_ne, bne_eq_false_iff_eq, ne_eq] at hg); exact (Weak.of_eq len_map)), ?_, ?_, trivial⟩
          all_goals omega
        refine andThen_normal ?_
        refine Sim.cond (b := ((x.n != 0) || decide ((x.attrs.length : Int) > 0))) (by kernel_rfl) (fun h10 => ?_) (fun h10 => ?_)
        · (try simp only [decide_eq_true_eq, decide_eq_false_iff_not, Int.not_lt, Int.not_le, gt_iff_lt, Bool.or_eq_true, Bool.or_eq_false_iff, bne_iff_ne, bne_eq_false_iff_eq, ne_eq] at h10)
          refine Sim.seq ?_
          refine Sim.reg (orcs := []) (keys := [2]) (τ := []) (nx := 144)
            (sl := [(2, .t (.sc (.int .i64 4)))]) (l := [])
            (C := []) (by kernel_rfl) ?_ ?_
          · -- region 11
            trivial
          refine andThen_normal ?_
          refine Sim.ret ?_
          refine andThen_ret ?_
          refine inBlk_ret ?_
          refine andThen_ret ?_
          refine Fin.mk2 (.inl rfl) (τ := []) (keys := [2]) (nx := 144) (sl := [(2, .t (.sc (.int .i64 4)))]) (l := []) (res' := .t (.sc (.int .i64 4))) (by kernel_rfl) ?_ (by kernel_rfl) ?_
          · -- end 4, objects
            first | done | rfl
          · -- end 4, result
            have e4 : ((stepD x) : Int) = 4 := by
              unfold stepD; ((repeat' split) <;> first | rfl | omega | (simp_all; done) | (simp_all; omega))
            show AVal.t (.sc (.int .i64 4)) = .t (.sc (.int .i64 (stepD x)))
            rw [e4]
            try rfl
        · (try simp only [decide_eq_true_eq, decide_eq_false_iff_not, Int.not_lt, Int.not_le, gt_iff_lt, Bool.or_eq_true, Bool.or_eq_false_iff, bne_iff_ne, bne_eq_false_iff_eq, ne_eq] at h10)
          refine Sim.skip ?_
          refine andThen_normal ?_
          refine Sim.seq ?_
          refine Sim.seq ?_
          refine Sim.reg (orcs := [(2, ⟨some (.t (.sc (.int .i64 (x.elems.length : Int)))), none, none, none⟩)]) (keys := [1, 48]) (τ := [(0, 0)]) (nx := 168)
            (sl := [(1, .ptr 0 0), (48, .t (.sc (.bool ((x.elems.length : Int) == 0))))]) (l := [(0, .box [.t (.sc (.int .i64 x.kind)), .t (.sc (.int .i64 x.n)), .t (.lst 2 (List.map attrT x.attrs)), .t (.lst 3 (List.map elemT x.elems))])])
            (C := [Weak (.t (.sc (.int .i64 ((List.map elemT x.elems).length : Int)))) (.t (.sc (.int .i64 (x.elems.length : Int))))]) (by kernel_rfl) ?_ ?_
          · -- region 12
            exact ⟨(Weak.of_eq len_map), trivial⟩
          refine andThen_normal ?_
          refine Sim.cond (b := ((x.elems.length : Int) == 0)) (by kernel_rfl) (fun h12 => ?_) (fun h12 => ?_)
          · (try simp only [beq_iff_eq, beq_eq_false_iff_ne, ne_eq] at h12)
            refine Sim.seq ?_
            refine Sim.reg (orcs := []) (keys := [2]) (τ := []) (nx := 176)
              (sl := [(2, .t (.sc (.int .i64 11)))]) (l := [])
              (C := []) (by kernel_rfl) ?_ ?_
            · -- region 13
              trivial
            refine andThen_normal ?_
            refine Sim.ret ?_
            refine andThen_ret ?_
            refine inBlk_ret ?_
            refine andThen_ret ?_
            refine Fin.mk2 (.inl rfl) (τ := []) (keys := [2]) (nx := 176) (sl := [(2, .t (.sc (.int .i64 11)))]) (l := []) (res' := .t (.sc (.int .i64 11))) (by kernel_rfl) ?_ (by kernel_rfl) ?_
            · -- end 5, objects
              first | done | rfl
            · -- end 5, result
              have e5 : ((stepD x) : Int) = 11 := by
                unfold stepD; ((repeat' split) <;> first | rfl | omega | (simp_all; done) | (simp_all; omega))
              show AVal.t (.sc (.int .i64 11)) = .t (.sc (.int .i64 (stepD x)))
              rw [e5]
              try rfl
          · (try simp only [beq_iff_eq, beq_eq_false_iff_ne, ne_eq] at h12)
            refine Sim.skip ?_
            refine andThen_normal ?_
            refine Sim.seq ?_
            refine Sim.reg (orcs := [(2, ⟨none, none, none, some (⟨0, [], .t (.sc (.int .i64 (partE x.elems 0))), []⟩)⟩)]) (keys := [2]) (τ := []) (nx := 200)
              (sl := [(2, .t (.sc (.int .i64 (partE x.elems 0))))]) (l := [])
              (C := [callable Try.prog 115 = true, FC Try.prog 115 [.t (.lst 3 (List.map elemT x.elems))] emp (.t (.sc (.int .i64 (partE x.elems 0)))) emp]) (by kernel_rfl) ?_ ?_
            · -- region 14
              exact ⟨(by kernel_rfl), (fc_checkPart x.elems), trivial⟩
            refine andThen_normal ?_
            refine Sim.ret ?_
            refine inBlk_ret ?_
            refine andThen_ret ?_
            refine Fin.mk2 (.inl rfl) (τ := []) (keys := [2]) (nx := 200) (sl := [(2, .t (.sc (.int .i64 (partE x.elems 0))))]) (l := []) (res' := .t (.sc (.int .i64 (partE x.elems 0)))) (by kernel_rfl) ?_ (by kernel_rfl) ?_
            · -- end 6, objects
              first | done | rfl
            · -- end 6, result
              have e6 : ((stepD x) : Int) = (partE x.elems 0) := by
                unfold stepD; ((repeat' split) <;> first | rfl | omega | (simp_all; done) | (simp_all; omega))
              show AVal.t (.sc (.int .i64 (partE x.elems 0))) = .t (.sc (.int .i64 (stepD x)))
              rw [e6]
              try rfl
      · (try simp only [beq_iff_eq, beq_eq_false_iff_ne, ne_eq] at h9)
        refine Sim.skip ?_
        refine inBlk_normal ?_
        refine andThen_normal ?_
        refine Sim.seq ?_
        refine Sim.reg (orcs := []) (keys := [2]) (τ := []) (nx := 72)
          (sl := [(2, .t (.sc (.int .i64 8)))]) (l := [])
          (C := []) (by kernel_rfl) ?_ ?_
        · -- region 15
          trivial
        refine andThen_normal ?_
        refine Sim.ret ?_
        refine Fin.mk2 (.inl rfl) (τ := []) (keys := [2]) (nx := 72) (sl := [(2, .t (.sc (.int .i64 8)))]) (l := []) (res' := .t (.sc (.int .i64 8))) (by kernel_rfl) ?_ (by kernel_rfl) ?_
        · -- end 7, objects
          first | done | rfl
        · -- end 7, result
          have e7 : ((stepD x) : Int) = 8 := by
            unfold stepD; ((repeat' split) <;> first | rfl | omega | (simp_all; done) | (simp_all; omega))
          show AVal.t (.sc (.int .i64 8)) = .t (.sc (.int .i64 (stepD x)))
          rw [e7]
          try rfl
  · (try simp only [beq_iff_eq, beq_eq_false_iff_ne, ne_eq] at h2)
    refine Sim.reg (orcs := []) (keys := [1, 4, 5]) (τ := [(0, 0)]) (nx := 64)
      (sl := [(1, .ptr 0 0), (4, .t (.sc (.int .i64 x.kind))), (5, .t (.sc (.bool (x.kind == 2))))]) (l := [(0, .box [.t (.sc (.int .i64 x.kind)), .t (.sc (.int .i64 x.n)), .t (.lst 2 (List.map attrT x.attrs)), .t (.lst 3 (List.map elemT x.elems))])])
      (C := []) (by kernel_rfl) ?_ ?_
    · -- region 3
      trivial
    refine andThen_normal ?_
    refine Sim.cond (b := (x.kind == 2)) (by kernel_rfl) (fun h3 => ?_) (fun h3 => ?_)
    · (try simp only [beq_iff_eq, beq_eq_false_iff_ne, ne_eq] at h3)
      refine Sim.seq ?_
      refine Sim.seq ?_
      refine Sim.reg (orcs := [(2, ⟨some (.t (.sc (.int .i64 (x.elems.length : Int)))), none, none, none⟩), (11, ⟨some (.t (.sc (.int .i64 (x.attrs.length : Int)))), none, none, none⟩)]) (keys := [1, 22]) (τ := [(0, 0)]) (nx := 184)
        (sl := [(1, .ptr 0 0), (22, .t (.sc (.bool (decide ((x.elems.length : Int) > 0) || ((x.kind == 2) && decide ((x.attrs.length : Int) > 0))))))]) (l := [(0, .box [.t (.sc (.int .i64 x.kind)), .t (.sc (.int .i64 x.n)), .t (.lst 2 (List.map attrT x.attrs)), .t (.lst 3 (List.map elemT x.elems))])])
        (C := [Weak (.t (.sc (.int .i64 ((List.map elemT x.elems).length : Int)))) (.t (.sc (.int .i64 (x.elems.length : Int)))), (!(decide ((x.elems.length : Int) > 0))) = true → (!(decide ((x.elems.length : Int) > 0))) = true, (!(decide ((x.elems.length : Int) > 0))) = true → (!(decide ((x.elems.length : Int) > 0))) = true, (!(decide ((x.elems.length : Int) > 0))) = true → (!(decide ((x.elems.length : Int) > 0))) = true, ((!(decide ((x.elems.length : Int) > 0))) && (x.kind == 2)) = true → ((!(decide ((x.elems.length : Int) > 0))) && (x.kind == 2)) = true, ((!(decide ((x.elems.length : Int) > 0))) && (x.kind == 2)) = true → ((!(decide ((x.elems.length : Int) > 0))) && (x.kind == 2)) = true, ((!(decide ((x.elems.length : Int) > 0))) && (x.kind == 2)) = true → Weak (.t (.sc (.int .i64 ((List.map attrT x.attrs).length : Int)))) (.t (.sc (.int .i64 (x.attrs.length : Int)))), ((!(decide ((x.elems.length : Int) > 0))) && (x.kind == 2)) = true → ((!(decide ((x.elems.length : Int) > 0))) && (x.kind == 2)) = true, (!(decide ((x.elems.length : Int) > 0))) = true → (!(decide ((x.elems.length : Int) > 0))) = true, (!(decide ((x.elems.length : Int) > 0))) = true → (x.kind == 2) = true → ((!(decide ((x.elems.length : Int) > 0))) && (x.kind == 2)) = true, (decide ((x.elems.length : Int) > 0)) = false → (!(decide ((x.elems.length : Int) > 0))) = true]) (by kernel_rfl) ?_ ?_
      · -- region 4
        refine ⟨(Weak.of_eq len_map), ?_, ?_, ?_, ?_, ?_, (fun hg => by (try simp only [decide_eq_true_eq, decide_eq_false_iff_not, Int.not_lt, Int.not_le, gt_iff_lt, Bool.not_eq_true', Bool.not_eq_false', Bool.and_eq_true, Bool.and_eq_false_iff, beq_iff_eq, beq_eq_false_iff_ne, ne_eq] at hg); exact (Weak.of_eq len_map)), ?_, ?_, ?_, ?_, trivial⟩
        all_goals (first | omega | with_reducible exact fun h => h | (intro hg hq; rw [hg, hq]; rfl) | (intro hq; rw [hq]; done) | (intro hq; rw [hq]; rfl) | ((try intro hg); (try simp [-List.getD_eq_getElem?_getD] at hg); (try simp only [List.length_map]); first | done | omega | rfl | (simp; done) | (simp; omega) | (simp [hg]; done) | (intro hq; simp [hg, hq]; done) | (intro hq; simp [hg, hq]; omega)))
      refine andThen_normal ?_
      refine Sim.cond (b := (decide ((x.elems.length : Int) > 0) || ((x.kind == 2) && decide ((x.attrs.length : Int) > 0)))) (by kernel_rfl) (fun h4 => ?_) (fun h4 => ?_)
      · (try simp only [decide_eq_true_eq, decide_eq_false_iff_not, Int.not_lt, Int.not_le, gt_iff_lt, Bool.and_eq_true, Bool.and_eq_false_iff, Bool.not_eq_true', Bool.not_eq_false', Bool.or_eq_true, Bool.or_eq_false_iff, beq_iff_eq, beq_eq_false_iff_ne, ne_eq] at h4)
        refine Sim.seq ?_
        refine Sim.reg (orcs := []) (keys := [2]) (τ := []) (nx := 192)
          (sl := [(2, .t (.sc (.int .i64 4)))]) (l := [])
          (C := []) (by kernel_rfl) ?_ ?_
        · -- region 5
          trivial
        refine andThen_normal ?_
        refine Sim.ret ?_
        refine andThen_ret ?_
        refine inBlk_ret ?_
        refine andThen_ret ?_
        refine Fin.mk2 (.inl rfl) (τ := []) (keys := [2]) (nx := 192) (sl := [(2, .t (.sc (.int .i64 4)))]) (l := []) (res' := .t (.sc (.int .i64 4))) (by kernel_rfl) ?_ (by kernel_rfl) ?_
        · -- end 8, objects
          first | done | rfl
        · -- end 8, result
          have e8 : ((stepD x) : Int) = 4 := by
            unfold stepD; ((repeat' split) <;> first | rfl | omega | (simp_all; done) | (simp_all; omega))
          show AVal.t (.sc (.int .i64 4)) = .t (.sc (.int .i64 (stepD x)))
          rw [e8]
          try rfl
      · (try simp only [decide_eq_true_eq, decide_eq_false_iff_not, Int.not_lt, Int.not_le, gt_iff_lt, Bool.and_eq_true, Bool.and_eq_false_iff, Bool.not_eq_true', Bool.not_eq_false', Bool.or_eq_true, Bool.or_eq_false_iff, beq_iff_eq, beq_eq_false_iff_ne, ne_eq] at h4)
        refine Sim.skip ?_
        refine andThen_normal ?_
        refine Sim.seq ?_
        refine Sim.seq ?_
        refine Sim.reg (orcs := []) (keys := [1, 30]) (τ := [(0, 0)]) (nx := 248)
          (sl := [(1, .ptr 0 0), (30, .t (.sc (.bool (decide (x.n < 1) || decide (x.n > 2147483647)))))]) (l := [(0, .box [.t (.sc (.int .i64 x.kind)), .t (.sc (.int .i64 x.n)), .t (.lst 2 (List.map attrT x.attrs)), .t (.lst 3 (List.map elemT x.elems))])])
          (C := [(!(decide (x.n < 1))) = true → (!(decide (x.n < 1))) = true, (!(decide (x.n < 1))) = true → (!(decide (x.n < 1))) = true, (decide (x.n < 1)) = false → (!(decide (x.n < 1))) = true]) (by kernel_rfl) ?_ ?_
        · -- region 6
          refine ⟨?_, ?_, ?_, trivial⟩
          all_goals (first | omega | with_reducible exact fun h => h | (intro hg hq; rw [hg, hq]; rfl) | (intro hq; rw [hq]; done) | (intro hq; rw [hq]; rfl) | ((try intro hg); (try simp [-List.getD_eq_getElem?_getD] at hg); (try simp only [List.length_map]); first | done | omega | rfl | (simp; done) | (simp; omega) | (simp [hg]; done) | (intro hq; simp [hg, hq]; done) | (intro hq; simp [hg, hq]; omega)))
        refine andThen_normal ?_
        refine Sim.cond (b := (decide (x.n < 1) || decide (x.n > 2147483647))) (by kernel_rfl) (fun h6 => ?_) (fun h6 => ?_)
        · (try simp only [decide_eq_true_eq, decide_eq_false_iff_not, Int.not_lt, Int.not_le, gt_iff_lt, Bool.or_eq_true, Bool.or_eq_false_iff] at h6)
          refine Sim.seq ?_
          refine Sim.reg (orcs := []) (keys := [2]) (τ := []) (nx := 256)
            (sl := [(2, .t (.sc (.int .i64 2)))]) (l := [])
            (C := []) (by kernel_rfl) ?_ ?_
          · -- region 7
            trivial
          refine andThen_normal ?_
          refine Sim.ret ?_
          refine andThen_ret ?_
          refine inBlk_ret ?_
          refine andThen_ret ?_
          refine Fin.mk2 (.inl rfl) (τ := []) (keys := [2]) (nx := 256) (sl := [(2, .t (.sc (.int .i64 2)))]) (l := []) (res' := .t (.sc (.int .i64 2))) (by kernel_rfl) ?_ (by kernel_rfl) ?_
          · -- end 9, objects
            first | done | rfl
          · -- end 9, result
            have e9 : ((stepD x) : Int) = 2 := by
              unfold stepD; ((repeat' split) <;> first | rfl | omega | (simp_all; done) | (simp_all; omega))
            show AVal.t (.sc (.int .i64 2)) = .t (.sc (.int .i64 (stepD x)))
            rw [e9]
            try rfl
        · (try simp only [decide_eq_true_eq, decide_eq_false_iff_not, Int.not_lt, Int.not_le, gt_iff_lt, Bool.or_eq_true, Bool.or_eq_false_iff] at h6)
          refine Sim.skip ?_
          refine andThen_normal ?_
          refine Sim.seq ?_
          refine Sim.reg (orcs := [(2, ⟨none, none, none, some (⟨0, [], .t (.sc (.int .i64 (chkA true x.attrs 0))), []⟩)⟩)]) (keys := [2]) (τ := []) (nx := 280)
            (sl := [(2, .t (.sc (.int .i64 (chkA true x.attrs 0))))]) (l := [])
            (C := [callable Try.prog 82 = true, FC Try.prog 82 [.t (.lst 2 (List.map attrT x.attrs))] emp (.t (.sc (.int .i64 (chkA true x.attrs 0)))) emp]) (by kernel_rfl) ?_ ?_
          · -- region 8
            exact ⟨(by kernel_rfl), (fc_acheckChange x.attrs), trivial⟩
          refine andThen_normal ?_
          refine Sim.ret ?_
          refine inBlk_ret ?_
          refine andThen_ret ?_
          refine Fin.mk2 (.inl rfl) (τ := []) (keys := [2]) (nx := 280) (sl := [(2, .t (.sc (.int .i64 (chkA true x.attrs 0))))]) (l := []) (res' := .t (.sc (.int .i64 (chkA true x.attrs 0)))) (by kernel_rfl) ?_ (by kernel_rfl) ?_
          · -- end 10, objects
            first | done | rfl
          · -- end 10, result
            have e10 : ((stepD x) : Int) = (chkA true x.attrs 0) := by
              unfold stepD; ((repeat' split) <;> first | rfl | omega | (simp_all; done) | (simp_all; omega))
            show AVal.t (.sc (.int .i64 (chkA true x.attrs 0))) = .t (.sc (.int .i64 (stepD x)))
            rw [e10]
            try rfl
    · (try simp only [beq_iff_eq, beq_eq_false_iff_ne, ne_eq] at h3)
      refine Sim.seq ?_
      refine Sim.reg (orcs := []) (keys := [1, 34]) (τ := [(0, 0)]) (nx := 80)
        (sl := [(1, .ptr 0 0), (34, .t (.sc (.bool (x.kind == 1))))]) (l := [(0, .box [.t (.sc (.int .i64 x.kind)), .t (.sc (.int .i64 x.n)), .t (.lst 2 (List.map attrT x.attrs)), .t (.lst 3 (List.map elemT x.elems))])])
        (C := []) (by kernel_rfl) ?_ ?_
      · -- region 9
        trivial
      refine andThen_normal ?_
      refine Sim.cond (b := (x.kind == 1)) (by kernel_rfl) (fun h9 => ?_) (fun h9 => ?_)
      · (try simp only [beq_iff_eq, beq_eq_false_iff_ne, ne_eq] at h9)
        refine Sim.seq ?_
        refine Sim.seq ?_
        refine Sim.reg (orcs := [(6, ⟨some (.t (.sc (.int .i64 (x.attrs.length : Int)))), none, none, none⟩)]) (keys := [1, 44]) (τ := [(0, 0)]) (nx := 152)
          (sl := [(1, .ptr 0 0), (44, .t (.sc (.bool ((x.n != 0) || decide ((x.attrs.length : Int) > 0)))))]) (l := [(0, .box [.t (.sc (.int .i64 x.kind)), .t (.sc (.int .i64 x.n)), .t (.lst 2 (List.map attrT x.attrs)), .t (.lst 3 (List.map elemT x.elems))])])
          (C := [(!(x.n != 0)) = true → (!(x.n != 0)) = true, (!(x.n != 0)) = true → (!(x.n != 0)) = true, (!(x.n != 0)) = true → Weak (.t (.sc (.int .i64 ((List.map attrT x.attrs).length : Int)))) (.t (.sc (.int .i64 (x.attrs.length : Int)))), (!(x.n != 0)) = true → (!(x.n != 0)) = true, (x.n != 0) = false → (!(x.n != 0)) = true]) (by kernel_rfl) ?_ ?_
        · -- region 10
          refine ⟨?_, ?_, (fun hg => by (try simp only [Bool.not_eq_true', Bool.not_eq_false', bne_iff_ne, bne_eq_false_iff_eq, ne_eq] at hg); exact (Weak.of_eq len_map)), ?_, ?_, trivial⟩
          all_goals (first | omega | with_reducible exact fun h => h | (intro hg hq; rw [hg, hq]; rfl) | (intro hq; rw [hq]; done) | (intro hq; rw [hq]; rfl) | ((try intro hg); (try simp [-List.getD_eq_getElem?_getD] at hg); (try simp only [List.length_map]); first | done | omega | rfl | (simp; done) | (simp; omega) | (simp [hg]; done) | (intro hq; simp [hg, hq]; done) | (intro hq; simp [hg, hq]; omega)))
        refine andThen_normal ?_
        refine Sim.cond (b := ((x.n != 0) || decide ((x.attrs.length : Int) > 0))) (by kernel_rfl) (fun h10 => ?_) (fun h10 => ?_)
        · (try simp only [decide_eq_true_eq, decide_eq_false_iff_not, Int.not_lt, Int.not_le, gt_iff_lt, Bool.or_eq_true, Bool.or_eq_false_iff, bne_iff_ne, bne_eq_false_iff_eq, ne_eq] at h10)
          refine Sim.seq ?_
          refine Sim.reg (orcs := []) (keys := [2]) (τ := []) (nx := 160)
            (sl := [(2, .t (.sc (.int .i64 4)))]) (l := [])
            (C := []) (by kernel_rfl) ?_ ?_
          · -- region 11
            trivial
          refine andThen_normal ?_
          refine Sim.ret ?_
          refine andThen_ret ?_
          refine inBlk_ret ?_
          refine andThen_ret ?_
          refine Fin.mk2 (.inl rfl) (τ := []) (keys := [2]) (nx := 160) (sl := [(2, .t (.sc (.int .i64 4)))]) (l := []) (res' := .t (.sc (.int .i64 4))) (by kernel_rfl) ?_ (by kernel_rfl) ?_
          · -- end 11, objects
            first | done | rfl
          · -- end 11, result
            have e11 : ((stepD x) : Int) = 4 := by
              unfold stepD; ((repeat' split) <;> first | rfl | omega | (simp_all; done) | (simp_all; omega))
            show AVal.t (.sc (.int .i64 4)) = .t (.sc (.int .i64 (stepD x)))
            rw [e11]
            try rfl
        · (try simp only [decide_eq_true_eq, decide_eq_false_iff_not, Int.not_lt, Int.not_le, gt_iff_lt, Bool.or_eq_true, Bool.or_eq_false_iff, bne_iff_ne, bne_eq_false_iff_eq, ne_eq] at h10)
          refine Sim.skip ?_
          refine andThen_normal ?_
          refine Sim.seq ?_
          refine Sim.seq ?_
          refine Sim.reg (orcs := [(2, ⟨some (.t (.sc (.int .i64 (x.elems.length : Int)))), none, none, none⟩)]) (keys := [1, 48]) (τ := [(0, 0)]) (nx := 184)
            (sl := [(1, .ptr 0 0), (48, .t (.sc (.bool ((x.elems.length : Int) == 0))))]) (l := [(0, .box [.t (.sc (.int .i64 x.kind)), .t (.sc (.int .i64 x.n)), .t (.lst 2 (List.map attrT x.attrs)), .t (.lst 3 (List.map elemT x.elems))])])
            (C := [Weak (.t (.sc (.int .i64 ((List.map elemT x.elems).length : Int)))) (.t (.sc (.int .i64 (x.elems.length : Int))))]) (by kernel_rfl) ?_ ?_
          · -- region 12
            exact ⟨(Weak.of_eq len_map), trivial⟩
          refine andThen_normal ?_
          refine Sim.cond (b := ((x.elems.length : Int) == 0)) (by kernel_rfl) (fun h12 => ?_) (fun h12 => ?_)
          · (try simp only [beq_iff_eq, beq_eq_false_iff_ne, ne_eq] at h12)
            refine Sim.seq ?_
            refine Sim.reg (orcs := []) (keys := [2]) (τ := []) (nx := 192)
              (sl := [(2, .t (.sc (.int .i64 11)))]) (l := [])
              (C := []) (by kernel_rfl) ?_ ?_
            · -- region 13
              trivial
            refine andThen_normal ?_
            refine Sim.ret ?_
            refine andThen_ret ?_
            refine inBlk_ret ?_
            refine andThen_ret ?_
            refine Fin.mk2 (.inl rfl) (τ := []) (keys := [2]) (nx := 192) (sl := [(2, .t (.sc (.int .i64 11)))]) (l := []) (res' := .t (.sc (.int .i64 11))) (by kernel_rfl) ?_ (by kernel_rfl) ?_
            · -- end 12, objects
              first | done | rfl
            · -- end 12, result
              have e12 : ((stepD x) : Int) = 11 := by
                unfold stepD; ((repeat' split) <;> first | rfl | omega | (simp_all; done) | (simp_all; omega))
              show AVal.t (.sc (.int .i64 11)) = .t (.sc (.int .i64 (stepD x)))
              rw [e12]
              try rfl
          · (try simp only [beq_iff_eq, beq_eq_false_iff_ne, ne_eq] at h12)
            refine Sim.skip ?_
            refine andThen_normal ?_
            refine Sim.seq ?_
            refine Sim.reg (orcs := [(2, ⟨none, none, none, some (⟨0, [], .t (.sc (.int .i64 (partE x.elems 0))), []⟩)⟩)]) (keys := [2]) (τ := []) (nx := 216)
              (sl := [(2, .t (.sc (.int .i64 (partE x.elems 0))))]) (l := [])
              (C := [callable Try.prog 115 = true, FC Try.prog 115 [.t (.lst 3 (List.map elemT x.elems))] emp (.t (.sc (.int .i64 (partE x.elems 0)))) emp]) (by kernel_rfl) ?_ ?_
            · -- region 14
              exact ⟨(by kernel_rfl), (fc_checkPart x.elems), trivial⟩
            refine andThen_normal ?_
            refine Sim.ret ?_
            refine inBlk_ret ?_
            refine andThen_ret ?_
            refine Fin.mk2 (.inl rfl) (τ := []) (keys := [2]) (nx := 216) (sl := [(2, .t (.sc (.int .i64 (partE x.elems 0))))]) (l := []) (res' := .t (.sc (.int .i64 (partE x.elems 0)))) (by kernel_rfl) ?_ (by kernel_rfl) ?_
            · -- end 13, objects
              first | done | rfl
            · -- end 13, result
              have e13 : ((stepD x) : Int) = (partE x.elems 0) := by
                unfold stepD; ((repeat' split) <;> first | rfl | omega | (simp_all; done) | (simp_all; omega))
              show AVal.t (.sc (.int .i64 (partE x.elems 0))) = .t (.sc (.int .i64 (stepD x)))
              rw [e13]
              try rfl
      · (try simp only [beq_iff_eq, beq_eq_false_iff_ne, ne_eq] at h9)
        refine Sim.skip ?_
        refine inBlk_normal ?_
        refine andThen_normal ?_
        refine Sim.seq ?_
        refine Sim.reg (orcs := []) (keys := [2]) (τ := []) (nx := 88)
          (sl := [(2, .t (.sc (.int .i64 8)))]) (l := [])
          (C := []) (by kernel_rfl) ?_ ?_
        · -- region 15
          trivial
        refine andThen_normal ?_
        refine Sim.ret ?_
        refine Fin.mk2 (.inl rfl) (τ := []) (keys := [2]) (nx := 88) (sl := [(2, .t (.sc (.int .i64 8)))]) (l := []) (res' := .t (.sc (.int .i64 8))) (by kernel_rfl) ?_ (by kernel_rfl) ?_
        · -- end 14, objects
          first | done | rfl
        · -- end 14, result
          have e14 : ((stepD x) : Int) = 8 := by
            unfold stepD; ((repeat' split) <;> first | rfl | omega | (simp_all; done) | (simp_all; omega))
          show AVal.t (.sc (.int .i64 8)) = .t (.sc (.int .i64 (stepD x)))
          rw [e14]
          try rfl

theorem fc_size (x : DStep) : FC Try.prog 125 [.t (dstepT x)] (app emp []) (.t (.sc (.int .i64 (szD x)))) (app emp []) := by
  refine FC.of_sim (fn := Try.f125) (nx := 0) (by kernel_rfl) rfl (by kernel_rfl) rfl ?_
  show Sim _ _ _ _ ⟨[(0, .t (dstepT x))], app emp [], 0⟩ _
  refine Sim.seq ?_
  refine Sim.reg (orcs := []) (keys := [1]) (τ := [(0, 0)]) (nx := 16)
    (sl := [(1, .ptr 0 0)]) (l := [(0, .box [.t (.sc (.int .i64 x.kind)), .t (.sc (.int .i64 x.n)), .t (.lst 2 (List.map attrT x.attrs)), .t (.lst 3 (List.map elemT x.elems))])])
    (C := []) (by kernel_rfl) ?_ ?_
  · -- region 0
    trivial
  refine andThen_normal ?_
  refine Sim.seq ?_
  refine Sim.seq ?_
  refine Sim.reg (orcs := []) (keys := [1, 5]) (τ := [(0, 0)]) (nx := 40)
    (sl := [(1, .ptr 0 0), (5, .t (.sc (.bool (x.kind == 1))))]) (l := [(0, .box [.t (.sc (.int .i64 x.kind)), .t (.sc (.int .i64 x.n)), .t (.lst 2 (List.map attrT x.attrs)), .t (.lst 3 (List.map elemT x.elems))])])
    (C := []) (by kernel_rfl) ?_ ?_
  · -- region 1
    trivial
  refine andThen_normal ?_
  refine Sim.cond (b := (x.kind == 1)) (by kernel_rfl) (fun h1 => ?_) (fun h1 => ?_)
  · (try simp only [beq_iff_eq, beq_eq_false_iff_ne, ne_eq] at h1)
    refine Sim.seq ?_
    refine Sim.reg (orcs := [(2, ⟨some (.t (.sc (.int .i64 (x.elems.length : Int)))), none, none, none⟩)]) (keys := [2]) (τ := []) (nx := 72)
      (sl := [(2, .t (.sc (.int .i64 (x.elems.length : Int))))]) (l := [])
      (C := [Weak (.t (.sc (.int .i64 ((List.map elemT x.elems).length : Int)))) (.t (.sc (.int .i64 (x.elems.length : Int))))]) (by kernel_rfl) ?_ ?_
    · -- region 2
      exact ⟨(Weak.of_eq len_map), trivial⟩
    refine andThen_normal ?_
    refine Sim.ret ?_
    refine andThen_ret ?_
    refine Fin.mk2 (.inl rfl) (τ := []) (keys := [2]) (nx := 72) (sl := [(2, .t (.sc (.int .i64 (x.elems.length : Int))))]) (l := []) (res' := .t (.sc (.int .i64 (x.elems.length : Int)))) (by kernel_rfl) ?_ (by kernel_rfl) ?_
    · -- end 1, objects
      first | done | rfl
    · -- end 1, result
      have e1 : ((szD x) : Int) = (x.elems.length : Int) := by
        unfold szD; ((repeat' split) <;> first | rfl | omega | (simp_all; done) | (simp_all; omega))
      show AVal.t (.sc (.int .i64 (x.elems.length : Int))) = .t (.sc (.int .i64 (szD x)))
      rw [e1]
      try rfl
  · (try simp only [beq_iff_eq, beq_eq_false_iff_ne, ne_eq] at h1)
    refine Sim.skip ?_
    refine andThen_normal ?_
    refine Sim.seq ?_
    refine Sim.reg (orcs := []) (keys := [2]) (τ := []) (nx := 64)
      (sl := [(2, .t (.sc (.int .i64 x.n)))]) (l := [])
      (C := []) (by kernel_rfl) ?_ ?_
    · -- region 3
      trivial
    refine andThen_normal ?_
    refine Sim.ret ?_
    refine Fin.mk2 (.inl rfl) (τ := []) (keys := [2]) (nx := 64) (sl := [(2, .t (.sc (.int .i64 x.n)))]) (l := []) (res' := .t (.sc (.int .i64 x.n))) (by kernel_rfl) ?_ (by kernel_rfl) ?_
    · -- end 2, objects
      first | done | rfl
    · -- end 2, result
      have e2 : ((szD x) : Int) = x.n := by
        unfold szD; ((repeat' split) <;> first | rfl | omega | (simp_all; done) | (simp_all; omega))
      show AVal.t (.sc (.int .i64 x.n)) = .t (.sc (.int .i64 (szD x)))
      rw [e2]
      try rfl

theorem fc_dCheck (l : List DStep) (hd : DN 400000000000 l) : FC Try.prog 109 [.t (.lst 4 (List.map dstepT l))] (app emp []) (.t (.sc (.int .i64 (checkD l)))) (app emp []) := by
  refine FC.of_sim (fn := Try.f109) (nx := 0) (by kernel_rfl) rfl (by kernel_rfl) rfl ?_
  show Sim _ _ _ _ ⟨[(0, .t (.lst 4 (List.map dstepT l)))], app emp [], 0⟩ _
  refine Sim.len (t := 0) (k := 4) rfl (fun hl0 => ?_)
  rw [List.length_map] at hl0
  refine Sim.seq ?_
  refine Sim.reg (orcs := []) (keys := [0]) (τ := []) (nx := 8)
    (sl := [(0, .t (.lst 4 (List.map dstepT l)))]) (l := [])
    (C := []) (by kernel_rfl) ?_ ?_
  · -- region 0
    trivial
  refine andThen_normal ?_
  refine Sim.seq ?_
  refine Sim.reg (orcs := []) (keys := [0, 3, 4]) (τ := []) (nx := 24)
    (sl := [(0, .t (.lst 4 (List.map dstepT l))), (3, .t (.sc (.int .i64 0))), (4, .t (.sc (.int .i64 0)))]) (l := [])
    (C := []) (by kernel_rfl) ?_ ?_
  · -- region 1
    trivial
  refine andThen_normal ?_
  refine Sim.seq ?_
  refine Sim.seq ?_
  refine Sim.reg (orcs := [(1, ⟨some (.t (.sc (.int .i64 (l.length : Int)))), none, none, none⟩)]) (keys := [0, 3, 4, 9, 10, 11]) (τ := []) (nx := 48)
    (sl := [(0, .t (.lst 4 (List.map dstepT l))), (3, .t (.sc (.int .i64 0))), (4, .t (.sc (.int .i64 0))), (9, .t (.lst 4 (List.map dstepT l))), (10, .t (.sc (.int .i64 (l.length : Int)))), (11, .t (.sc (.int .i64 0)))]) (l := [])
    (C := [Weak (.t (.sc (.int .i64 ((List.map dstepT l).length : Int)))) (.t (.sc (.int .i64 (l.length : Int))))]) (by kernel_rfl) ?_ ?_
  · -- region 2
    exact ⟨(Weak.of_eq len_map), trivial⟩
  refine andThen_normal ?_
  refine Sim.block ?_
  refine Sim.weaken (Le.ren (τ := []) (keys := [0, 3, 4, 9, 10, 11]) (nx := 48) (sl := [(0, .t (.lst 4 (List.map dstepT l))), (3, .t (.sc (.int .i64 0))), (4, .t (.sc (.int .i64 0))), (9, .t (.lst 4 (List.map dstepT l))), (10, .t (.sc (.int .i64 (l.length : Int)))), (11, .t (.sc (.int .i64 ((0 : Nat) : Int))))]) (l := []) (by kernel_rfl)) ?_
  refine Sim.loop ?_
  refine loop_ind (α := Int × Int × Nat) (fun (b, a, i) => ⟨[(0, .t (.lst 4 (List.map dstepT l))), (3, .t (.sc (.int .i64 b))), (4, .t (.sc (.int .i64 a))), (9, .t (.lst 4 (List.map dstepT l))), (10, .t (.sc (.int .i64 (l.length : Int)))), (11, .t (.sc (.int .i64 (i : Int))))], app emp [], 48⟩) (fun (b, a, i) => i ≤ l.length ∧ 0 ≤ b ∧ b ≤ 2147483648 ∧ 0 ≤ a ∧ a ≤ 2147483648 ∧ checkD l = chkD l i b a) (fun (b, a, i) => l.length - i) ?_ (0, 0, 0) ?_
  rotate_left
  · -- loop 3, start
    exact ⟨by omega, by decide, by decide, by decide, by decide, rfl⟩
  rintro ⟨b, a, i⟩ I3 ih3
  show LoopSim _ _ _ _ ⟨[(0, .t (.lst 4 (List.map dstepT l))), (3, .t (.sc (.int .i64 b))), (4, .t (.sc (.int .i64 a))), (9, .t (.lst 4 (List.map dstepT l))), (10, .t (.sc (.int .i64 (l.length : Int)))), (11, .t (.sc (.int .i64 (i : Int))))], app emp [], 48⟩ _
  replace I3 : i ≤ l.length ∧ 0 ≤ b ∧ b ≤ 2147483648 ∧ 0 ≤ a ∧ a ≤ 2147483648 ∧ checkD l = chkD l i b a := I3
  refine LoopSim.step ?_
  refine Sim.seq ?_
  refine Sim.reg (orcs := []) (keys := [0, 3, 4, 9, 10, 11, 12]) (τ := []) (nx := 56)
    (sl := [(0, .t (.lst 4 (List.map dstepT l))), (3, .t (.sc (.int .i64 b))), (4, .t (.sc (.int .i64 a))), (9, .t (.lst 4 (List.map dstepT l))), (10, .t (.sc (.int .i64 (l.length : Int)))), (11, .t (.sc (.int .i64 (i : Int)))), (12, .t (.sc (.bool (decide ((i : Int) < (l.length : Int))))))]) (l := [])
    (C := []) (by kernel_rfl) ?_ ?_
  · -- region 3
    trivial
  refine andThen_normal ?_
  refine Sim.seq ?_
  refine Sim.cond (b := decide ((i : Int) < (l.length : Int))) (by kernel_rfl) (fun h3 => ?_) (fun h3 => ?_)
  · (try simp only [decide_eq_true_eq, decide_eq_false_iff_not, Int.not_lt, Int.not_le] at h3)
    refine Sim.skip ?_
    refine andThen_normal ?_
    refine Sim.seq ?_
    refine Sim.block ?_
    refine Sim.seq ?_
    refine Sim.reg (orcs := [(1, ⟨none, none, some (dstepT (l.getD i default)), none⟩)]) (keys := [0, 3, 4, 5, 6, 9, 10, 11]) (τ := [(80, 80)]) (nx := 104)
      (sl := [(0, .t (.lst 4 (List.map dstepT l))), (3, .t (.sc (.int .i64 b))), (4, .t (.sc (.int .i64 a))), (5, .t (.sc (.int .i64 (i : Int)))), (6, .ptr 80 0), (9, .t (.lst 4 (List.map dstepT l))), (10, .t (.sc (.int .i64 (l.length : Int)))), (11, .t (.sc (.int .i64 (i : Int))))]) (l := [(80, .box [.t (.sc (.int .i64 (((l.getD i default)).kind))), .t (.sc (.int .i64 (((l.getD i default)).n))), .t (.lst 2 (List.map attrT (((l.getD i default)).attrs))), .t (.lst 3 (List.map elemT (((l.getD i default)).elems)))])])
      (C := [(0:Int) ≤ (i : Int), (List.map dstepT l)[i]? = some (dstepT (l.getD i default))]) (by kernel_rfl) ?_ ?_
    · -- region 4
      refine ⟨?_, (elt_nat ?_), trivial⟩
      all_goals omega
    refine andThen_normal ?_
    refine Sim.seq ?_
    refine Sim.seq ?_
    refine Sim.reg (orcs := [(1, ⟨none, none, none, some (⟨0, [], .t (.sc (.int .i64 (stepD ((l.getD i default))))), []⟩)⟩)]) (keys := [0, 3, 4, 5, 6, 7, 9, 10, 11]) (τ := [(80, 80)]) (nx := 128)
      (sl := [(0, .t (.lst 4 (List.map dstepT l))), (3, .t (.sc (.int .i64 b))), (4, .t (.sc (.int .i64 a))), (5, .t (.sc (.int .i64 (i : Int)))), (6, .ptr 80 0), (7, .t (.sc (.int .i64 (stepD ((l.getD i default)))))), (9, .t (.lst 4 (List.map dstepT l))), (10, .t (.sc (.int .i64 (l.length : Int)))), (11, .t (.sc (.int .i64 (i : Int))))]) (l := [(80, .box [.t (.sc (.int .i64 (((l.getD i default)).kind))), .t (.sc (.int .i64 (((l.getD i default)).n))), .t (.lst 2 (List.map attrT (((l.getD i default)).attrs))), .t (.lst 3 (List.map elemT (((l.getD i default)).elems)))])])
      (C := [callable Try.prog 102 = true, FC Try.prog 102 [.t (dstepT ((l.getD i default)))] emp (.t (.sc (.int .i64 (stepD ((l.getD i default)))))) emp]) (by kernel_rfl) ?_ ?_
    · -- region 5
      exact ⟨(by kernel_rfl), (fc_step ((l.getD i default))), trivial⟩
    refine andThen_normal ?_
    refine Sim.seq ?_
    refine Sim.reg (orcs := []) (keys := [0, 3, 4, 5, 6, 7, 9, 10, 11, 19]) (τ := [(80, 80)]) (nx := 144)
      (sl := [(0, .t (.lst 4 (List.map dstepT l))), (3, .t (.sc (.int .i64 b))), (4, .t (.sc (.int .i64 a))), (5, .t (.sc (.int .i64 (i : Int)))), (6, .ptr 80 0), (7, .t (.sc (.int .i64 (stepD ((l.getD i default)))))), (9, .t (.lst 4 (List.map dstepT l))), (10, .t (.sc (.int .i64 (l.length : Int)))), (11, .t (.sc (.int .i64 (i : Int)))), (19, .t (.sc (.bool ((stepD ((l.getD i default))) != 0))))]) (l := [(80, .box [.t (.sc (.int .i64 (((l.getD i default)).kind))), .t (.sc (.int .i64 (((l.getD i default)).n))), .t (.lst 2 (List.map attrT (((l.getD i default)).attrs))), .t (.lst 3 (List.map elemT (((l.getD i default)).elems)))])])
      (C := []) (by kernel_rfl) ?_ ?_
    · -- region 6
      trivial
    refine andThen_normal ?_
    refine Sim.cond (b := ((stepD ((l.getD i default))) != 0)) (by kernel_rfl) (fun h6 => ?_) (fun h6 => ?_)
    · (try simp only [bne_iff_ne, bne_eq_false_iff_eq, ne_eq] at h6)
      refine Sim.seq ?_
      refine Sim.reg (orcs := []) (keys := [2]) (τ := []) (nx := 160)
        (sl := [(2, .t (.sc (.int .i64 (stepD ((l.getD i default))))))]) (l := [])
        (C := []) (by kernel_rfl) ?_ ?_
      · -- region 7
        trivial
      refine andThen_normal ?_
      refine Sim.ret ?_
      refine andThen_ret ?_
      refine inBlk_ret ?_
      refine andThen_ret ?_
      refine andThen_ret ?_
      refine inBlk_ret ?_
      refine andThen_ret ?_
      refine Fin.mk2 (.inl rfl) (τ := []) (keys := [2]) (nx := 160) (sl := [(2, .t (.sc (.int .i64 (stepD ((l.getD i default))))))]) (l := []) (res' := .t (.sc (.int .i64 (stepD ((l.getD i default)))))) (by kernel_rfl) ?_ (by kernel_rfl) ?_
      · -- end 1, objects
        first | done | rfl
      · -- end 1, result
        have e1 : ((checkD l) : Int) = (stepD ((l.getD i default))) := by
          rw [I3.2.2.2.2.2, chkD]; ((repeat' split) <;> first | rfl | omega | (simp_all; done) | (simp_all; omega))
        show AVal.t (.sc (.int .i64 (stepD ((l.getD i default))))) = .t (.sc (.int .i64 (checkD l)))
        rw [e1]
        try rfl
    · (try simp only [bne_iff_ne, bne_eq_false_iff_eq, ne_eq] at h6)
      refine Sim.skip ?_
      refine andThen_normal ?_
      refine Sim.seq ?_
      refine Sim.seq ?_
      have hz := stepD_sz (s := l.getD i default) (by omega)
      obtain ⟨hx, _, _⟩ := hd.at_ (k := i) (by omega)
      refine Sim.reg (orcs := []) (keys := [0, 3, 4, 5, 6, 9, 10, 11, 22]) (τ := [(80, 80)]) (nx := 160)
        (sl := [(0, .t (.lst 4 (List.map dstepT l))), (3, .t (.sc (.int .i64 b))), (4, .t (.sc (.int .i64 a))), (5, .t (.sc (.int .i64 (i : Int)))), (6, .ptr 80 0), (9, .t (.lst 4 (List.map dstepT l))), (10, .t (.sc (.int .i64 (l.length : Int)))), (11, .t (.sc (.int .i64 (i : Int)))), (22, .t (.sc (.bool (decide ((i : Int) > 0)))))]) (l := [(80, .box [.t (.sc (.int .i64 (((l.getD i default)).kind))), .t (.sc (.int .i64 (((l.getD i default)).n))), .t (.lst 2 (List.map attrT (((l.getD i default)).attrs))), .t (.lst 3 (List.map elemT (((l.getD i default)).elems)))])])
        (C := []) (by kernel_rfl) ?_ ?_
      · -- region 8
        trivial
      refine andThen_normal ?_
      refine Sim.cond (b := decide ((i : Int) > 0)) (by kernel_rfl) (fun h8 => ?_) (fun h8 => ?_)
      · (try simp only [decide_eq_true_eq, decide_eq_false_iff_not, Int.not_lt, Int.not_le, gt_iff_lt] at h8)
        refine Sim.seq ?_
        refine Sim.reg (orcs := [(2, ⟨some (.t (.sc (.int .i64 ((i : Int) - 1)))), none, none, none⟩), (3, ⟨none, none, some (dstepT (l.getD (i - 1) default)), none⟩)]) (keys := [0, 3, 4, 6, 8, 9, 10, 11]) (τ := [(80, 80), (200, 200)]) (nx := 216)
          (sl := [(0, .t (.lst 4 (List.map dstepT l))), (3, .t (.sc (.int .i64 b))), (4, .t (.sc (.int .i64 a))), (6, .ptr 80 0), (8, .ptr 200 0), (9, .t (.lst 4 (List.map dstepT l))), (10, .t (.sc (.int .i64 (l.length : Int)))), (11, .t (.sc (.int .i64 (i : Int))))]) (l := [(80, .box [.t (.sc (.int .i64 (((l.getD i default)).kind))), .t (.sc (.int .i64 (((l.getD i default)).n))), .t (.lst 2 (List.map attrT (((l.getD i default)).attrs))), .t (.lst 3 (List.map elemT (((l.getD i default)).elems)))]), (200, .box [.t (.sc (.int .i64 (((l.getD (i - 1) default)).kind))), .t (.sc (.int .i64 (((l.getD (i - 1) default)).n))), .t (.lst 2 (List.map attrT (((l.getD (i - 1) default)).attrs))), .t (.lst 3 (List.map elemT (((l.getD (i - 1) default)).elems)))])])
          (C := [Weak (.t (.sc (.int .i64 (IntKind.i64.wrap ((i : Int) - 1))))) (.t (.sc (.int .i64 ((i : Int) - 1)))), (0:Int) ≤ ((i : Int) - 1), (List.map dstepT l)[(Int.toNat ((i : Int) - 1))]? = some (dstepT (l.getD (i - 1) default))]) (by kernel_rfl) ?_ ?_
        · -- region 9
          refine ⟨(Weak.of_eq (nw ?_)), ?_, (elt_map' ?_ ?_), trivial⟩
          all_goals omega
        refine andThen_normal ?_
        refine Sim.seq ?_
        refine Sim.reg (orcs := [(14, ⟨none, none, none, some (⟨0, [], .t (.sc (.bool (sameL (((l.getD (i - 1) default)).attrs) (((l.getD i default)).attrs)))), []⟩)⟩)]) (keys := [0, 3, 4, 6, 9, 10, 11, 54]) (τ := [(80, 80)]) (nx := 432)
          (sl := [(0, .t (.lst 4 (List.map dstepT l))), (3, .t (.sc (.int .i64 b))), (4, .t (.sc (.int .i64 a))), (6, .ptr 80 0), (9, .t (.lst 4 (List.map dstepT l))), (10, .t (.sc (.int .i64 (l.length : Int)))), (11, .t (.sc (.int .i64 (i : Int)))), (54, .t (.sc (.bool ((((((l.getD (i - 1) default)).kind) == (((l.getD i default)).kind)) && (((((l.getD i default)).kind) != 0) || (sameL (((l.getD (i - 1) default)).attrs) (((l.getD i default)).attrs)))) || (((((l.getD (i - 1) default)).kind) == 2) && ((((l.getD i default)).kind) == 1))))))]) (l := [(80, .box [.t (.sc (.int .i64 (((l.getD i default)).kind))), .t (.sc (.int .i64 (((l.getD i default)).n))), .t (.lst 2 (List.map attrT (((l.getD i default)).attrs))), .t (.lst 3 (List.map elemT (((l.getD i default)).elems)))])])
          (C := [((((l.getD (i - 1) default)).kind) == (((l.getD i default)).kind)) = true → ((((l.getD (i - 1) default)).kind) == (((l.getD i default)).kind)) = true, ((((l.getD (i - 1) default)).kind) == (((l.getD i default)).kind)) = true → ((((l.getD (i - 1) default)).kind) == (((l.getD i default)).kind)) = true, ((((l.getD (i - 1) default)).kind) == (((l.getD i default)).kind)) = true → ((((l.getD (i - 1) default)).kind) == (((l.getD i default)).kind)) = true, (((((l.getD (i - 1) default)).kind) == (((l.getD i default)).kind)) && !((((l.getD i default)).kind) != 0)) = true → (((((l.getD (i - 1) default)).kind) == (((l.getD i default)).kind)) && !((((l.getD i default)).kind) != 0)) = true, (((((l.getD (i - 1) default)).kind) == (((l.getD i default)).kind)) && !((((l.getD i default)).kind) != 0)) = true → (((((l.getD (i - 1) default)).kind) == (((l.getD i default)).kind)) && !((((l.getD i default)).kind) != 0)) = true, (((((l.getD (i - 1) default)).kind) == (((l.getD i default)).kind)) && !((((l.getD i default)).kind) != 0)) = true → (((((l.getD (i - 1) default)).kind) == (((l.getD i default)).kind)) && !((((l.getD i default)).kind) != 0)) = true, (((((l.getD (i - 1) default)).kind) == (((l.getD i default)).kind)) && !((((l.getD i default)).kind) != 0)) = true → (((((l.getD (i - 1) default)).kind) == (((l.getD i default)).kind)) && !((((l.getD i default)).kind) != 0)) = true, (((((l.getD (i - 1) default)).kind) == (((l.getD i default)).kind)) && !((((l.getD i default)).kind) != 0)) = true → callable Try.prog 136 = true, (((((l.getD (i - 1) default)).kind) == (((l.getD i default)).kind)) && !((((l.getD i default)).kind) != 0)) = true → FC Try.prog 136 [.t (.lst 2 (List.map attrT (((l.getD (i - 1) default)).attrs))), .t (.lst 2 (List.map attrT (((l.getD i default)).attrs)))] emp (.t (.sc (.bool (sameL (((l.getD (i - 1) default)).attrs) (((l.getD i default)).attrs))))) emp, ((((l.getD (i - 1) default)).kind) == (((l.getD i default)).kind)) = true → ((((l.getD (i - 1) default)).kind) == (((l.getD i default)).kind)) = true, ((((l.getD (i - 1) default)).kind) == (((l.getD i default)).kind)) = true → ((((l.getD i default)).kind) != 0) = false → (((((l.getD (i - 1) default)).kind) == (((l.getD i default)).kind)) && !((((l.getD i default)).kind) != 0)) = true, ((((l.getD (i - 1) default)).kind) == (((l.getD i default)).kind)) = true → ((((l.getD (i - 1) default)).kind) == (((l.getD i default)).kind)) = true, (!(((((l.getD (i - 1) default)).kind) == (((l.getD i default)).kind)) && (((((l.getD i default)).kind) != 0) || (sameL (((l.getD (i - 1) default)).attrs) (((l.getD i default)).attrs))))) = true → (!(((((l.getD (i - 1) default)).kind) == (((l.getD i default)).kind)) && (((((l.getD i default)).kind) != 0) || (sameL (((l.getD (i - 1) default)).attrs) (((l.getD i default)).attrs))))) = true, (!(((((l.getD (i - 1) default)).kind) == (((l.getD i default)).kind)) && (((((l.getD i default)).kind) != 0) || (sameL (((l.getD (i - 1) default)).attrs) (((l.getD i default)).attrs))))) = true → (!(((((l.getD (i - 1) default)).kind) == (((l.getD i default)).kind)) && (((((l.getD i default)).kind) != 0) || (sameL (((l.getD (i - 1) default)).attrs) (((l.getD i default)).attrs))))) = true, (!(((((l.getD (i - 1) default)).kind) == (((l.getD i default)).kind)) && (((((l.getD i default)).kind) != 0) || (sameL (((l.getD (i - 1) default)).attrs) (((l.getD i default)).attrs))))) = true → (!(((((l.getD (i - 1) default)).kind) == (((l.getD i default)).kind)) && (((((l.getD i default)).kind) != 0) || (sameL (((l.getD (i - 1) default)).attrs) (((l.getD i default)).attrs))))) = true, ((!(((((l.getD (i - 1) default)).kind) == (((l.getD i default)).kind)) && (((((l.getD i default)).kind) != 0) || (sameL (((l.getD (i - 1) default)).attrs) (((l.getD i default)).attrs))))) && ((((l.getD (i - 1) default)).kind) == 2)) = true → ((!(((((l.getD (i - 1) default)).kind) == (((l.getD i default)).kind)) && (((((l.getD i default)).kind) != 0) || (sameL (((l.getD (i - 1) default)).attrs) (((l.getD i default)).attrs))))) && ((((l.getD (i - 1) default)).kind) == 2)) = true, ((!(((((l.getD (i - 1) default)).kind) == (((l.getD i default)).kind)) && (((((l.getD i default)).kind) != 0) || (sameL (((l.getD (i - 1) default)).attrs) (((l.getD i default)).attrs))))) && ((((l.getD (i - 1) default)).kind) == 2)) = true → ((!(((((l.getD (i - 1) default)).kind) == (((l.getD i default)).kind)) && (((((l.getD i default)).kind) != 0) || (sameL (((l.getD (i - 1) default)).attrs) (((l.getD i default)).attrs))))) && ((((l.getD (i - 1) default)).kind) == 2)) = true, (!(((((l.getD (i - 1) default)).kind) == (((l.getD i default)).kind)) && (((((l.getD i default)).kind) != 0) || (sameL (((l.getD (i - 1) default)).attrs) (((l.getD i default)).attrs))))) = true → (!(((((l.getD (i - 1) default)).kind) == (((l.getD i default)).kind)) && (((((l.getD i default)).kind) != 0) || (sameL (((l.getD (i - 1) default)).attrs) (((l.getD i default)).attrs))))) = true, (!(((((l.getD (i - 1) default)).kind) == (((l.getD i default)).kind)) && (((((l.getD i default)).kind) != 0) || (sameL (((l.getD (i - 1) default)).attrs) (((l.getD i default)).attrs))))) = true → ((((l.getD (i - 1) default)).kind) == 2) = true → ((!(((((l.getD (i - 1) default)).kind) == (((l.getD i default)).kind)) && (((((l.getD i default)).kind) != 0) || (sameL (((l.getD (i - 1) default)).attrs) (((l.getD i default)).attrs))))) && ((((l.getD (i - 1) default)).kind) == 2)) = true, (((((l.getD (i - 1) default)).kind) == (((l.getD i default)).kind)) && (((((l.getD i default)).kind) != 0) || (sameL (((l.getD (i - 1) default)).attrs) (((l.getD i default)).attrs)))) = false → (!(((((l.getD (i - 1) default)).kind) == (((l.getD i default)).kind)) && (((((l.getD i default)).kind) != 0) || (sameL (((l.getD (i - 1) default)).attrs) (((l.getD i default)).attrs))))) = true]) (by kernel_rfl) ?_ ?_
        · -- region 10
          refine ⟨?_, ?_, ?_, ?_, ?_, ?_, ?_, (fun hg => by (try simp only [Bool.not_eq_true', Bool.not_eq_false', Bool.and_eq_true, Bool.and_eq_false_iff, beq_iff_eq, beq_eq_false_iff_ne, ne_eq, bne_iff_ne, bne_eq_false_iff_eq] at hg); exact (by kernel_rfl)), (fun hg => by (try simp only [Bool.not_eq_true', Bool.not_eq_false', Bool.and_eq_true, Bool.and_eq_false_iff, beq_iff_eq, beq_eq_false_iff_ne, ne_eq, bne_iff_ne, bne_eq_false_iff_eq] at hg); exact (fc_attrSame (((l.getD (i - 1) default)).attrs) (((l.getD i default)).attrs))), ?_, ?_, ?_, ?_, ?_, ?_, ?_, ?_, ?_, ?_, ?_, trivial⟩
          all_goals (first | omega | with_reducible exact fun h => h | (intro hg hq; rw [hg, hq]; rfl) | (intro hq; rw [hq]; done) | (intro hq; rw [hq]; rfl) | ((try intro hg); (try simp [-List.getD_eq_getElem?_getD] at hg); (try simp only [List.length_map]); first | done | omega | rfl | (simp; done) | (simp; omega) | (simp [hg]; done) | (intro hq; simp [hg, hq]; done) | (intro hq; simp [hg, hq]; omega)))
        refine andThen_normal ?_
        refine Sim.cond (b := ((((((l.getD (i - 1) default)).kind) == (((l.getD i default)).kind)) && (((((l.getD i default)).kind) != 0) || (sameL (((l.getD (i - 1) default)).attrs) (((l.getD i default)).attrs)))) || (((((l.getD (i - 1) default)).kind) == 2) && ((((l.getD i default)).kind) == 1)))) (by kernel_rfl) (fun h10 => ?_) (fun h10 => ?_)
        · (try simp only [Bool.and_eq_true, Bool.and_eq_false_iff, Bool.not_eq_true', Bool.not_eq_false', Bool.or_eq_true, Bool.or_eq_false_iff, beq_iff_eq, beq_eq_false_iff_ne, ne_eq, bne_iff_ne, bne_eq_false_iff_eq] at h10)
          refine Sim.seq ?_
          refine Sim.reg (orcs := []) (keys := [2]) (τ := []) (nx := 440)
            (sl := [(2, .t (.sc (.int .i64 5)))]) (l := [])
            (C := []) (by kernel_rfl) ?_ ?_
          · -- region 11
            trivial
          refine andThen_normal ?_
          refine Sim.ret ?_
          refine andThen_ret ?_
          refine inBlk_ret ?_
          refine andThen_ret ?_
          refine andThen_ret ?_
          refine inBlk_ret ?_
          refine andThen_ret ?_
          refine Fin.mk2 (.inl rfl) (τ := []) (keys := [2]) (nx := 440) (sl := [(2, .t (.sc (.int .i64 5)))]) (l := []) (res' := .t (.sc (.int .i64 5))) (by kernel_rfl) ?_ (by kernel_rfl) ?_
          · -- end 2, objects
            first | done | rfl
          · -- end 2, result
            have e2 : ((checkD l) : Int) = 5 := by
              rw [I3.2.2.2.2.2, chkD, if_pos (by omega), if_neg (by omega), if_pos ⟨by omega, adjD_yes.2 h10⟩]
            show AVal.t (.sc (.int .i64 5)) = .t (.sc (.int .i64 (checkD l)))
            rw [e2]
            try rfl
        · (try simp only [Bool.and_eq_true, Bool.and_eq_false_iff, Bool.not_eq_true', Bool.not_eq_false', Bool.or_eq_true, Bool.or_eq_false_iff, beq_iff_eq, beq_eq_false_iff_ne, ne_eq, bne_iff_ne, bne_eq_false_iff_eq] at h10)
          refine Sim.skip ?_
          refine andThen_normal ?_
          refine Sim.seq ?_
          refine Sim.seq ?_
          refine Sim.reg (orcs := []) (keys := [0, 3, 4, 6, 9, 10, 11, 57]) (τ := [(80, 80)]) (nx := 456)
            (sl := [(0, .t (.lst 4 (List.map dstepT l))), (3, .t (.sc (.int .i64 b))), (4, .t (.sc (.int .i64 a))), (6, .ptr 80 0), (9, .t (.lst 4 (List.map dstepT l))), (10, .t (.sc (.int .i64 (l.length : Int)))), (11, .t (.sc (.int .i64 (i : Int)))), (57, .t (.sc (.bool ((((l.getD i default)).kind) != 1))))]) (l := [(80, .box [.t (.sc (.int .i64 (((l.getD i default)).kind))), .t (.sc (.int .i64 (((l.getD i default)).n))), .t (.lst 2 (List.map attrT (((l.getD i default)).attrs))), .t (.lst 3 (List.map elemT (((l.getD i default)).elems)))])])
            (C := []) (by kernel_rfl) ?_ ?_
          · -- region 12
            trivial
          refine andThen_normal ?_
          refine Sim.cond (b := ((((l.getD i default)).kind) != 1)) (by kernel_rfl) (fun h12 => ?_) (fun h12 => ?_)
          · (try simp only [bne_iff_ne, bne_eq_false_iff_eq, ne_eq] at h12)
            refine Sim.reg (orcs := [(3, ⟨some (.t (.sc (.int .i64 (b + (((l.getD i default)).n))))), none, none, none⟩), (4, ⟨some (.t (.sc (.int .i64 (min (b + (((l.getD i default)).n)) 2147483648)))), none, none, none⟩)]) (keys := [0, 3, 4, 6, 9, 10, 11]) (τ := [(80, 80)]) (nx := 504)
              (sl := [(0, .t (.lst 4 (List.map dstepT l))), (3, .t (.sc (.int .i64 (min (b + (((l.getD i default)).n)) 2147483648)))), (4, .t (.sc (.int .i64 a))), (6, .ptr 80 0), (9, .t (.lst 4 (List.map dstepT l))), (10, .t (.sc (.int .i64 (l.length : Int)))), (11, .t (.sc (.int .i64 (i : Int))))]) (l := [(80, .box [.t (.sc (.int .i64 (((l.getD i default)).kind))), .t (.sc (.int .i64 (((l.getD i default)).n))), .t (.lst 2 (List.map attrT (((l.getD i default)).attrs))), .t (.lst 3 (List.map elemT (((l.getD i default)).elems)))])])
              (C := [Weak (.t (.sc (.int .i64 (IntKind.i64.wrap (b + (((l.getD i default)).n)))))) (.t (.sc (.int .i64 (b + (((l.getD i default)).n))))), Weak (.t (.sc (.int .i64 (if 2147483648 < (b + (((l.getD i default)).n)) then 2147483648 else (b + (((l.getD i default)).n)))))) (.t (.sc (.int .i64 (min (b + (((l.getD i default)).n)) 2147483648))))]) (by kernel_rfl) ?_ ?_
            · -- region 13
              refine ⟨(Weak.of_eq (nw ?_)), (Weak.of_eq min_if), trivial⟩
              all_goals omega
            refine andThen_normal ?_
            refine Sim.seq ?_
            refine Sim.reg (orcs := []) (keys := [0, 3, 4, 6, 9, 10, 11, 65]) (τ := [(80, 80)]) (nx := 528)
              (sl := [(0, .t (.lst 4 (List.map dstepT l))), (3, .t (.sc (.int .i64 (min (b + (((l.getD i default)).n)) 2147483648)))), (4, .t (.sc (.int .i64 a))), (6, .ptr 80 0), (9, .t (.lst 4 (List.map dstepT l))), (10, .t (.sc (.int .i64 (l.length : Int)))), (11, .t (.sc (.int .i64 (i : Int)))), (65, .t (.sc (.bool ((((l.getD i default)).kind) != 2))))]) (l := [(80, .box [.t (.sc (.int .i64 (((l.getD i default)).kind))), .t (.sc (.int .i64 (((l.getD i default)).n))), .t (.lst 2 (List.map attrT (((l.getD i default)).attrs))), .t (.lst 3 (List.map elemT (((l.getD i default)).elems)))])])
              (C := []) (by kernel_rfl) ?_ ?_
            · -- region 14
              trivial
            refine andThen_normal ?_
            refine Sim.cond (b := ((((l.getD i default)).kind) != 2)) (by kernel_rfl) (fun h14 => ?_) (fun h14 => ?_)
            · (try simp only [bne_iff_ne, bne_eq_false_iff_eq, ne_eq] at h14)
              refine Sim.reg (orcs := [(2, ⟨none, none, none, some (⟨0, [], .t (.sc (.int .i64 (szD ((l.getD i default))))), []⟩)⟩), (3, ⟨some (.t (.sc (.int .i64 (a + (szD ((l.getD i default))))))), none, none, none⟩), (4, ⟨some (.t (.sc (.int .i64 (min (a + (szD ((l.getD i default)))) 2147483648)))), none, none, none⟩)]) (keys := [0, 3, 4, 9, 10, 11]) (τ := []) (nx := 576)
                (sl := [(0, .t (.lst 4 (List.map dstepT l))), (3, .t (.sc (.int .i64 (min (b + (((l.getD i default)).n)) 2147483648)))), (4, .t (.sc (.int .i64 (min (a + (szD ((l.getD i default)))) 2147483648)))), (9, .t (.lst 4 (List.map dstepT l))), (10, .t (.sc (.int .i64 (l.length : Int)))), (11, .t (.sc (.int .i64 (i : Int))))]) (l := [])
                (C := [callable Try.prog 125 = true, FC Try.prog 125 [.t (dstepT ((l.getD i default)))] emp (.t (.sc (.int .i64 (szD ((l.getD i default)))))) emp, Weak (.t (.sc (.int .i64 (IntKind.i64.wrap (a + (szD ((l.getD i default)))))))) (.t (.sc (.int .i64 (a + (szD ((l.getD i default))))))), Weak (.t (.sc (.int .i64 (if 2147483648 < (a + (szD ((l.getD i default)))) then 2147483648 else (a + (szD ((l.getD i default)))))))) (.t (.sc (.int .i64 (min (a + (szD ((l.getD i default)))) 2147483648))))]) (by kernel_rfl) ?_ ?_
              · -- region 15
                refine ⟨(by kernel_rfl), (fc_size ((l.getD i default))), (Weak.of_eq (nw ?_)), (Weak.of_eq min_if), trivial⟩
                all_goals omega
              refine inBlk_normal ?_
              refine andThen_normal ?_
              refine Sim.reg (orcs := [(0, ⟨some (.t (.sc (.int .i64 ((i : Int) + 1)))), none, none, none⟩)]) (keys := [0, 3, 4, 9, 10, 11]) (τ := []) (nx := 592)
                (sl := [(0, .t (.lst 4 (List.map dstepT l))), (3, .t (.sc (.int .i64 (min (b + (((l.getD i default)).n)) 2147483648)))), (4, .t (.sc (.int .i64 (min (a + (szD ((l.getD i default)))) 2147483648)))), (9, .t (.lst 4 (List.map dstepT l))), (10, .t (.sc (.int .i64 (l.length : Int)))), (11, .t (.sc (.int .i64 ((i : Int) + 1))))]) (l := [])
                (C := [Weak (.t (.sc (.int .i64 (IntKind.i64.wrap ((i : Int) + 1))))) (.t (.sc (.int .i64 ((i : Int) + 1))))]) (by kernel_rfl) ?_ ?_
              · -- region 16
                refine ⟨(Weak.of_eq (nw ?_)), trivial⟩
                all_goals omega
              refine andThen_normal ?_
              refine LoopSim.weaken (Le.ren (τ := []) (keys := [0, 3, 4, 9, 10, 11]) (nx := 48) (sl := [(0, .t (.lst 4 (List.map dstepT l))), (3, .t (.sc (.int .i64 (min (b + (((l.getD i default)).n)) 2147483648)))), (4, .t (.sc (.int .i64 (min (a + (szD ((l.getD i default)))) 2147483648)))), (9, .t (.lst 4 (List.map dstepT l))), (10, .t (.sc (.int .i64 (l.length : Int)))), (11, .t (.sc (.int .i64 (((i + 1) : Nat) : Int))))]) (l := []) (by kernel_rfl)) ?_
              refine ih3 ((min (b + (((l.getD i default)).n)) 2147483648), (min (a + (szD ((l.getD i default)))) 2147483648), (i + 1)) ?_ ?_
              · -- back 3.1, invariant
                refine ⟨by omega, by omega, by omega, by omega, by omega, ?_⟩
                rw [I3.2.2.2.2.2, chkD, if_pos (by omega), if_neg (by omega), if_neg (by first | omega | exact fun hh => adjD_no h10 hh.2)]
                ((repeat' split) <;> first | rfl | omega | (simp_all; done) | (simp_all; omega))
              · -- back 3.1, measure
                show (_:Nat) < _; (first | omega | with_reducible exact fun h => h | (intro hq; rw [hq]; done) | (intro hq; rw [hq]; rfl) | (simp only [List.length_map]; done) | (simp only [List.length_map]; omega) | (simp; omega) | (simp; done))
            · (try simp only [bne_iff_ne, bne_eq_false_iff_eq, ne_eq] at h14)
              refine Sim.skip ?_
              refine inBlk_normal ?_
              refine andThen_normal ?_
              refine Sim.reg (orcs := [(0, ⟨some (.t (.sc (.int .i64 ((i : Int) + 1)))), none, none, none⟩)]) (keys := [0, 3, 4, 9, 10, 11]) (τ := []) (nx := 544)
                (sl := [(0, .t (.lst 4 (List.map dstepT l))), (3, .t (.sc (.int .i64 (min (b + (((l.getD i default)).n)) 2147483648)))), (4, .t (.sc (.int .i64 a))), (9, .t (.lst 4 (List.map dstepT l))), (10, .t (.sc (.int .i64 (l.length : Int)))), (11, .t (.sc (.int .i64 ((i : Int) + 1))))]) (l := [])
                (C := [Weak (.t (.sc (.int .i64 (IntKind.i64.wrap ((i : Int) + 1))))) (.t (.sc (.int .i64 ((i : Int) + 1))))]) (by kernel_rfl) ?_ ?_
              · -- region 16
                refine ⟨(Weak.of_eq (nw ?_)), trivial⟩
                all_goals omega
              refine andThen_normal ?_
              refine LoopSim.weaken (Le.ren (τ := []) (keys := [0, 3, 4, 9, 10, 11]) (nx := 48) (sl := [(0, .t (.lst 4 (List.map dstepT l))), (3, .t (.sc (.int .i64 (min (b + (((l.getD i default)).n)) 2147483648)))), (4, .t (.sc (.int .i64 a))), (9, .t (.lst 4 (List.map dstepT l))), (10, .t (.sc (.int .i64 (l.length : Int)))), (11, .t (.sc (.int .i64 (((i + 1) : Nat) : Int))))]) (l := []) (by kernel_rfl)) ?_
              refine ih3 ((min (b + (((l.getD i default)).n)) 2147483648), a, (i + 1)) ?_ ?_
              · -- back 3.2, invariant
                refine ⟨by omega, by omega, by omega, by omega, by omega, ?_⟩
                rw [I3.2.2.2.2.2, chkD, if_pos (by omega), if_neg (by omega), if_neg (by first | omega | exact fun hh => adjD_no h10 hh.2)]
                ((repeat' split) <;> first | rfl | omega | (simp_all; done) | (simp_all; omega))
              · -- back 3.2, measure
                show (_:Nat) < _; (first | omega | with_reducible exact fun h => h | (intro hq; rw [hq]; done) | (intro hq; rw [hq]; rfl) | (simp only [List.length_map]; done) | (simp only [List.length_map]; omega) | (simp; omega) | (simp; done))
          · (try simp only [bne_iff_ne, bne_eq_false_iff_eq, ne_eq] at h12)
            refine Sim.skip ?_
            refine andThen_normal ?_
            refine Sim.seq ?_
            refine Sim.reg (orcs := []) (keys := [0, 3, 4, 6, 9, 10, 11, 65]) (τ := [(80, 80)]) (nx := 480)
              (sl := [(0, .t (.lst 4 (List.map dstepT l))), (3, .t (.sc (.int .i64 b))), (4, .t (.sc (.int .i64 a))), (6, .ptr 80 0), (9, .t (.lst 4 (List.map dstepT l))), (10, .t (.sc (.int .i64 (l.length : Int)))), (11, .t (.sc (.int .i64 (i : Int)))), (65, .t (.sc (.bool ((((l.getD i default)).kind) != 2))))]) (l := [(80, .box [.t (.sc (.int .i64 (((l.getD i default)).kind))), .t (.sc (.int .i64 (((l.getD i default)).n))), .t (.lst 2 (List.map attrT (((l.getD i default)).attrs))), .t (.lst 3 (List.map elemT (((l.getD i default)).elems)))])])
              (C := []) (by kernel_rfl) ?_ ?_
            · -- region 14
              trivial
            refine andThen_normal ?_
            refine Sim.cond (b := ((((l.getD i default)).kind) != 2)) (by kernel_rfl) (fun h14 => ?_) (fun h14 => ?_)
            · (try simp only [bne_iff_ne, bne_eq_false_iff_eq, ne_eq] at h14)
              refine Sim.reg (orcs := [(2, ⟨none, none, none, some (⟨0, [], .t (.sc (.int .i64 (szD ((l.getD i default))))), []⟩)⟩), (3, ⟨some (.t (.sc (.int .i64 (a + (szD ((l.getD i default))))))), none, none, none⟩), (4, ⟨some (.t (.sc (.int .i64 (min (a + (szD ((l.getD i default)))) 2147483648)))), none, none, none⟩)]) (keys := [0, 3, 4, 9, 10, 11]) (τ := []) (nx := 528)
                (sl := [(0, .t (.lst 4 (List.map dstepT l))), (3, .t (.sc (.int .i64 b))), (4, .t (.sc (.int .i64 (min (a + (szD ((l.getD i default)))) 2147483648)))), (9, .t (.lst 4 (List.map dstepT l))), (10, .t (.sc (.int .i64 (l.length : Int)))), (11, .t (.sc (.int .i64 (i : Int))))]) (l := [])
                (C := [callable Try.prog 125 = true, FC Try.prog 125 [.t (dstepT ((l.getD i default)))] emp (.t (.sc (.int .i64 (szD ((l.getD i default)))))) emp, Weak (.t (.sc (.int .i64 (IntKind.i64.wrap (a + (szD ((l.getD i default)))))))) (.t (.sc (.int .i64 (a + (szD ((l.getD i default))))))), Weak (.t (.sc (.int .i64 (if 2147483648 < (a + (szD ((l.getD i default)))) then 2147483648 else (a + (szD ((l.getD i default)))))))) (.t (.sc (.int .i64 (min (a + (szD ((l.getD i default)))) 2147483648))))]) (by kernel_rfl) ?_ ?_
              · -- region 15
                refine ⟨(by kernel_rfl), (fc_size ((l.getD i default))), (Weak.of_eq (nw ?_)), (Weak.of_eq min_if), trivial⟩
                all_goals omega
              refine inBlk_normal ?_
              refine andThen_normal ?_
              refine Sim.reg (orcs := [(0, ⟨some (.t (.sc (.int .i64 ((i : Int) + 1)))), none, none, none⟩)]) (keys := [0, 3, 4, 9, 10, 11]) (τ := []) (nx := 544)
                (sl := [(0, .t (.lst 4 (List.map dstepT l))), (3, .t (.sc (.int .i64 b))), (4, .t (.sc (.int .i64 (min (a + (szD ((l.getD i default)))) 2147483648)))), (9, .t (.lst 4 (List.map dstepT l))), (10, .t (.sc (.int .i64 (l.length : Int)))), (11, .t (.sc (.int .i64 ((i : Int) + 1))))]) (l := [])
                (C := [Weak (.t (.sc (.int .i64 (IntKind.i64.wrap ((i : Int) + 1))))) (.t (.sc (.int .i64 ((i : Int) + 1))))]) (by kernel_rfl) ?_ ?_
              · -- region 16
                refine ⟨(Weak.of_eq (nw ?_)), trivial⟩
                all_goals omega
              refine andThen_normal ?_
              refine LoopSim.weaken (Le.ren (τ := []) (keys := [0, 3, 4, 9, 10, 11]) (nx := 48) (sl := [(0, .t (.lst 4 (List.map dstepT l))), (3, .t (.sc (.int .i64 b))), (4, .t (.sc (.int .i64 (min (a + (szD ((l.getD i default)))) 2147483648)))), (9, .t (.lst 4 (List.map dstepT l))), (10, .t (.sc (.int .i64 (l.length : Int)))), (11, .t (.sc (.int .i64 (((i + 1) : Nat) : Int))))]) (l := []) (by kernel_rfl)) ?_
              refine ih3 (b, (min (a + (szD ((l.getD i default)))) 2147483648), (i + 1)) ?_ ?_
              · -- back 3.3, invariant
                refine ⟨by omega, by omega, by omega, by omega, by omega, ?_⟩
                rw [I3.2.2.2.2.2, chkD, if_pos (by omega), if_neg (by omega), if_neg (by first | omega | exact fun hh => adjD_no h10 hh.2)]
                ((repeat' split) <;> first | rfl | omega | (simp_all; done) | (simp_all; omega))
              · -- back 3.3, measure
                show (_:Nat) < _; (first | omega | with_reducible exact fun h => h | (intro hq; rw [hq]; done) | (intro hq; rw [hq]; rfl) | (simp only [List.length_map]; done) | (simp only [List.length_map]; omega) | (simp; omega) | (simp; done))
            · (try simp only [bne_iff_ne, bne_eq_false_iff_eq, ne_eq] at h14)
              refine Sim.skip ?_
              refine inBlk_normal ?_
              refine andThen_normal ?_
              refine Sim.reg (orcs := [(0, ⟨some (.t (.sc (.int .i64 ((i : Int) + 1)))), none, none, none⟩)]) (keys := [0, 3, 4, 9, 10, 11]) (τ := []) (nx := 496)
                (sl := [(0, .t (.lst 4 (List.map dstepT l))), (3, .t (.sc (.int .i64 b))), (4, .t (.sc (.int .i64 a))), (9, .t (.lst 4 (List.map dstepT l))), (10, .t (.sc (.int .i64 (l.length : Int)))), (11, .t (.sc (.int .i64 ((i : Int) + 1))))]) (l := [])
                (C := [Weak (.t (.sc (.int .i64 (IntKind.i64.wrap ((i : Int) + 1))))) (.t (.sc (.int .i64 ((i : Int) + 1))))]) (by kernel_rfl) ?_ ?_
              · -- region 16
                refine ⟨(Weak.of_eq (nw ?_)), trivial⟩
                all_goals omega
              refine andThen_normal ?_
              refine LoopSim.weaken (Le.ren (τ := []) (keys := [0, 3, 4, 9, 10, 11]) (nx := 48) (sl := [(0, .t (.lst 4 (List.map dstepT l))), (3, .t (.sc (.int .i64 b))), (4, .t (.sc (.int .i64 a))), (9, .t (.lst 4 (List.map dstepT l))), (10, .t (.sc (.int .i64 (l.length : Int)))), (11, .t (.sc (.int .i64 (((i + 1) : Nat) : Int))))]) (l := []) (by kernel_rfl)) ?_
              refine ih3 (b, a, (i + 1)) ?_ ?_
              · -- back 3.4, invariant
                refine ⟨by omega, by omega, by omega, by omega, by omega, ?_⟩
                rw [I3.2.2.2.2.2, chkD, if_pos (by omega), if_neg (by omega), if_neg (by first | omega | exact fun hh => adjD_no h10 hh.2)]
                ((repeat' split) <;> first | rfl | omega | (simp_all; done) | (simp_all; omega))
              · -- back 3.4, measure
                show (_:Nat) < _; omega
      · (try simp only [decide_eq_true_eq, decide_eq_false_iff_not, Int.not_lt, Int.not_le, gt_iff_lt] at h8)
        refine Sim.skip ?_
        refine andThen_normal ?_
        refine Sim.seq ?_
        refine Sim.seq ?_
        refine Sim.reg (orcs := []) (keys := [0, 3, 4, 6, 9, 10, 11, 57]) (τ := [(80, 80)]) (nx := 184)
          (sl := [(0, .t (.lst 4 (List.map dstepT l))), (3, .t (.sc (.int .i64 b))), (4, .t (.sc (.int .i64 a))), (6, .ptr 80 0), (9, .t (.lst 4 (List.map dstepT l))), (10, .t (.sc (.int .i64 (l.length : Int)))), (11, .t (.sc (.int .i64 (i : Int)))), (57, .t (.sc (.bool ((((l.getD i default)).kind) != 1))))]) (l := [(80, .box [.t (.sc (.int .i64 (((l.getD i default)).kind))), .t (.sc (.int .i64 (((l.getD i default)).n))), .t (.lst 2 (List.map attrT (((l.getD i default)).attrs))), .t (.lst 3 (List.map elemT (((l.getD i default)).elems)))])])
          (C := []) (by kernel_rfl) ?_ ?_
        · -- region 12
          trivial
        refine andThen_normal ?_
        refine Sim.cond (b := ((((l.getD i default)).kind) != 1)) (by kernel_rfl) (fun h12 => ?_) (fun h12 => ?_)
        · (try simp only [bne_iff_ne, bne_eq_false_iff_eq, ne_eq] at h12)
          refine Sim.reg (orcs := [(3, ⟨some (.t (.sc (.int .i64 (b + (((l.getD i default)).n))))), none, none, none⟩), (4, ⟨some (.t (.sc (.int .i64 (min (b + (((l.getD i default)).n)) 2147483648)))), none, none, none⟩)]) (keys := [0, 3, 4, 6, 9, 10, 11]) (τ := [(80, 80)]) (nx := 232)
            (sl := [(0, .t (.lst 4 (List.map dstepT l))), (3, .t (.sc (.int .i64 (min (b + (((l.getD i default)).n)) 2147483648)))), (4, .t (.sc (.int .i64 a))), (6, .ptr 80 0), (9, .t (.lst 4 (List.map dstepT l))), (10, .t (.sc (.int .i64 (l.length : Int)))), (11, .t (.sc (.int .i64 (i : Int))))]) (l := [(80, .box [.t (.sc (.int .i64 (((l.getD i default)).kind))), .t (.sc (.int .i64 (((l.getD i default)).n))), .t (.lst 2 (List.map attrT (((l.getD i default)).attrs))), .t (.lst 3 (List.map elemT (((l.getD i default)).elems)))])])
            (C := [Weak (.t (.sc (.int .i64 (IntKind.i64.wrap (b + (((l.getD i default)).n)))))) (.t (.sc (.int .i64 (b + (((l.getD i default)).n))))), Weak (.t (.sc (.int .i64 (if 2147483648 < (b + (((l.getD i default)).n)) then 2147483648 else (b + (((l.getD i default)).n)))))) (.t (.sc (.int .i64 (min (b + (((l.getD i default)).n)) 2147483648))))]) (by kernel_rfl) ?_ ?_
          · -- region 13
            refine ⟨(Weak.of_eq (nw ?_)), (Weak.of_eq min_if), trivial⟩
            all_goals omega
          refine andThen_normal ?_
          refine Sim.seq ?_
          refine Sim.reg (orcs := []) (keys := [0, 3, 4, 6, 9, 10, 11, 65]) (τ := [(80, 80)]) (nx := 256)
            (sl := [(0, .t (.lst 4 (List.map dstepT l))), (3, .t (.sc (.int .i64 (min (b + (((l.getD i default)).n)) 2147483648)))), (4, .t (.sc (.int .i64 a))), (6, .ptr 80 0), (9, .t (.lst 4 (List.map dstepT l))), (10, .t (.sc (.int .i64 (l.length : Int)))), (11, .t (.sc (.int .i64 (i : Int)))), (65, .t (.sc (.bool ((((l.getD i default)).kind) != 2))))]) (l := [(80, .box [.t (.sc (.int .i64 (((l.getD i default)).kind))), .t (.sc (.int .i64 (((l.getD i default)).n))), .t (.lst 2 (List.map attrT (((l.getD i default)).attrs))), .t (.lst 3 (List.map elemT (((l.getD i default)).elems)))])])
            (C := []) (by kernel_rfl) ?_ ?_
          · -- region 14
            trivial
          refine andThen_normal ?_
          refine Sim.cond (b := ((((l.getD i default)).kind) != 2)) (by kernel_rfl) (fun h14 => ?_) (fun h14 => ?_)
          · (try simp only [bne_iff_ne, bne_eq_false_iff_eq, ne_eq] at h14)
            refine Sim.reg (orcs := [(2, ⟨none, none, none, some (⟨0, [], .t (.sc (.int .i64 (szD ((l.getD i default))))), []⟩)⟩), (3, ⟨some (.t (.sc (.int .i64 (a + (szD ((l.getD i default))))))), none, none, none⟩), (4, ⟨some (.t (.sc (.int .i64 (min (a + (szD ((l.getD i default)))) 2147483648)))), none, none, none⟩)]) (keys := [0, 3, 4, 9, 10, 11]) (τ := []) (nx := 304)
              (sl := [(0, .t (.lst 4 (List.map dstepT l))), (3, .t (.sc (.int .i64 (min (b + (((l.getD i default)).n)) 2147483648)))), (4, .t (.sc (.int .i64 (min (a + (szD ((l.getD i default)))) 2147483648)))), (9, .t (.lst 4 (List.map dstepT l))), (10, .t (.sc (.int .i64 (l.length : Int)))), (11, .t (.sc (.int .i64 (i : Int))))]) (l := [])
              (C := [callable Try.prog 125 = true, FC Try.prog 125 [.t (dstepT ((l.getD i default)))] emp (.t (.sc (.int .i64 (szD ((l.getD i default)))))) emp, Weak (.t (.sc (.int .i64 (IntKind.i64.wrap (a + (szD ((l.getD i default)))))))) (.t (.sc (.int .i64 (a + (szD ((l.getD i default))))))), Weak (.t (.sc (.int .i64 (if 2147483648 < (a + (szD ((l.getD i default)))) then 2147483648 else (a + (szD ((l.getD i default)))))))) (.t (.sc (.int .i64 (min (a + (szD ((l.getD i default)))) 2147483648))))]) (by kernel_rfl) ?_ ?_
            · -- region 15
              refine ⟨(by kernel_rfl), (fc_size ((l.getD i default))), (Weak.of_eq (nw ?_)), (Weak.of_eq min_if), trivial⟩
              all_goals omega
            refine inBlk_normal ?_
            refine andThen_normal ?_
            refine Sim.reg (orcs := [(0, ⟨some (.t (.sc (.int .i64 ((i : Int) + 1)))), none, none, none⟩)]) (keys := [0, 3, 4, 9, 10, 11]) (τ := []) (nx := 320)
              (sl := [(0, .t (.lst 4 (List.map dstepT l))), (3, .t (.sc (.int .i64 (min (b + (((l.getD i default)).n)) 2147483648)))), (4, .t (.sc (.int .i64 (min (a + (szD ((l.getD i default)))) 2147483648)))), (9, .t (.lst 4 (List.map dstepT l))), (10, .t (.sc (.int .i64 (l.length : Int)))), (11, .t (.sc (.int .i64 ((i : Int) + 1))))]) (l := [])
              (C := [Weak (.t (.sc (.int .i64 (IntKind.i64.wrap ((i : Int) + 1))))) (.t (.sc (.int .i64 ((i : Int) + 1))))]) (by kernel_rfl) ?_ ?_
            · -- region 16
              refine ⟨(Weak.of_eq (nw ?_)), trivial⟩
              all_goals omega
            refine andThen_normal ?_
            refine LoopSim.weaken (Le.ren (τ := []) (keys := [0, 3, 4, 9, 10, 11]) (nx := 48) (sl := [(0, .t (.lst 4 (List.map dstepT l))), (3, .t (.sc (.int .i64 (min (b + (((l.getD i default)).n)) 2147483648)))), (4, .t (.sc (.int .i64 (min (a + (szD ((l.getD i default)))) 2147483648)))), (9, .t (.lst 4 (List.map dstepT l))), (10, .t (.sc (.int .i64 (l.length : Int)))), (11, .t (.sc (.int .i64 (((i + 1) : Nat) : Int))))]) (l := []) (by kernel_rfl)) ?_
            refine ih3 ((min (b + (((l.getD i default)).n)) 2147483648), (min (a + (szD ((l.getD i default)))) 2147483648), (i + 1)) ?_ ?_
            · -- back 3.5, invariant
              refine ⟨by omega, by omega, by omega, by omega, by omega, ?_⟩
              rw [I3.2.2.2.2.2, chkD, if_pos (by omega), if_neg (by omega), if_neg (by first | omega | exact fun hh => adjD_no h10 hh.2)]
              ((repeat' split) <;> first | rfl | omega | (simp_all; done) | (simp_all; omega))
            · -- back 3.5, measure
              show (_:Nat) < _; (first | omega | with_reducible exact fun h => h | (intro hq; rw [hq]; done) | (intro hq; rw [hq]; rfl) | (simp only [List.length_map]; done) | (simp only [List.length_map]; omega) | (simp; omega) | (simp; done))
          · (try simp only [bne_iff_ne, bne_eq_false_iff_eq, ne_eq] at h14)
            refine Sim.skip ?_
            refine inBlk_normal ?_
            refine andThen_normal ?_
            refine Sim.reg (orcs := [(0, ⟨some (.t (.sc (.int .i64 ((i : Int) + 1)))), none, none, none⟩)]) (keys := [0, 3, 4, 9, 10, 11]) (τ := []) (nx := 272)
              (sl := [(0, .t (.lst 4 (List.map dstepT l))), (3, .t (.sc (.int .i64 (min (b + (((l.getD i default)).n)) 2147483648)))), (4, .t (.sc (.int .i64 a))), (9, .t (.lst 4 (List.map dstepT l))), (10, .t (.sc (.int .i64 (l.length : Int)))), (11, .t (.sc (.int .i64 ((i : Int) + 1))))]) (l := [])
              (C := [Weak (.t (.sc (.int .i64 (IntKind.i64.wrap ((i : Int) + 1))))) (.t (.sc (.int .i64 ((i : Int) + 1))))]) (by kernel_rfl) ?_ ?_
            · -- region 16
              refine ⟨(Weak.of_eq (nw ?_)), trivial⟩
              all_goals omega
            refine andThen_normal ?_
            refine LoopSim.weaken (Le.ren (τ := []) (keys := [0, 3, 4, 9, 10, 11]) (nx := 48) (sl := [(0, .t (.lst 4 (List.map dstepT l))), (3, .t (.sc (.int .i64 (min (b + (((l.getD i default)).n)) 2147483648)))), (4, .t (.sc (.int .i64 a))), (9, .t (.lst 4 (List.map dstepT l))), (10, .t (.sc (.int .i64 (l.length : Int)))), (11, .t (.sc (.int .i64 (((i + 1) : Nat) : Int))))]) (l := []) (by kernel_rfl)) ?_
            refine ih3 ((min (b + (((l.getD i default)).n)) 2147483648), a, (i + 1)) ?_ ?_
            · -- back 3.6, invariant
              refine ⟨by omega, by omega, by omega, by omega, by omega, ?_⟩
              rw [I3.2.2.2.2.2, chkD, if_pos (by omega), if_neg (by omega), if_neg (by first | omega | exact fun hh => adjD_no h10 hh.2)]
              ((repeat' split) <;> first | rfl | omega | (simp_all; done) | (simp_all; omega))
            · -- back 3.6, measure
              show (_:Nat) < _; (first | omega | with_reducible exact fun h => h | (intro hq; rw [hq]; done) | (intro hq; rw [hq]; rfl) | (simp only [List.length_map]; done) | (simp only [List.length_map]; omega) | (simp; omega) | (simp; done))
        · (try simp only [bne_iff_ne, bne_eq_false_iff_eq, ne_eq] at h12)
          refine Sim.skip ?_
          refine andThen_normal ?_
          refine Sim.seq ?_
          refine Sim.reg (orcs := []) (keys := [0, 3, 4, 6, 9, 10, 11, 65]) (τ := [(80, 80)]) (nx := 208)
            (sl := [(0, .t (.lst 4 (List.map dstepT l))), (3, .t (.sc (.int .i64 b))), (4, .t (.sc (.int .i64 a))), (6, .ptr 80 0), (9, .t (.lst 4 (List.map dstepT l))), (10, .t (.sc (.int .i64 (l.length : Int)))), (11, .t (.sc (.int .i64 (i : Int)))), (65, .t (.sc (.bool ((((l.getD i default)).kind) != 2))))]) (l := [(80, .box [.t (.sc (.int .i64 (((l.getD i default)).kind))), .t (.sc (.int .i64 (((l.getD i default)).n))), .t (.lst 2 (List.map attrT (((l.getD i default)).attrs))), .t (.lst 3 (List.map elemT (((l.getD i default)).elems)))])])
            (C := []) (by kernel_rfl) ?_ ?_
          · -- region 14
            trivial
          refine andThen_normal ?_
          refine Sim.cond (b := ((((l.getD i default)).kind) != 2)) (by kernel_rfl) (fun h14 => ?_) (fun h14 => ?_)
          · (try simp only [bne_iff_ne, bne_eq_false_iff_eq, ne_eq] at h14)
            refine Sim.reg (orcs := [(2, ⟨none, none, none, some (⟨0, [], .t (.sc (.int .i64 (szD ((l.getD i default))))), []⟩)⟩), (3, ⟨some (.t (.sc (.int .i64 (a + (szD ((l.getD i default))))))), none, none, none⟩), (4, ⟨some (.t (.sc (.int .i64 (min (a + (szD ((l.getD i default)))) 2147483648)))), none, none, none⟩)]) (keys := [0, 3, 4, 9, 10, 11]) (τ := []) (nx := 256)
              (sl := [(0, .t (.lst 4 (List.map dstepT l))), (3, .t (.sc (.int .i64 b))), (4, .t (.sc (.int .i64 (min (a + (szD ((l.getD i default)))) 2147483648)))), (9, .t (.lst 4 (List.map dstepT l))), (10, .t (.sc (.int .i64 (l.length : Int)))), (11, .t (.sc (.int .i64 (i : Int))))]) (l := [])
              (C := [callable Try.prog 125 = true, FC Try.prog 125 [.t (dstepT ((l.getD i default)))] emp (.t (.sc (.int .i64 (szD ((l.getD i default)))))) emp, Weak (.t (.sc (.int .i64 (IntKind.i64.wrap (a + (szD ((l.getD i default)))))))) (.t (.sc (.int .i64 (a + (szD ((l.getD i default))))))), Weak (.t (.sc (.int .i64 (if 2147483648 < (a + (szD ((l.getD i default)))) then 2147483648 else (a + (szD ((l.getD i default)))))))) (.t (.sc (.int .i64 (min (a + (szD ((l.getD i default)))) 2147483648))))]) (by kernel_rfl) ?_ ?_
            · -- region 15
              refine ⟨(by kernel_rfl), (fc_size ((l.getD i default))), (Weak.of_eq (nw ?_)), (Weak.of_eq min_if), trivial⟩
              all_goals omega
            refine inBlk_normal ?_
            refine andThen_normal ?_
            refine Sim.reg (orcs := [(0, ⟨some (.t (.sc (.int .i64 ((i : Int) + 1)))), none, none, none⟩)]) (keys := [0, 3, 4, 9, 10, 11]) (τ := []) (nx := 272)
              (sl := [(0, .t (.lst 4 (List.map dstepT l))), (3, .t (.sc (.int .i64 b))), (4, .t (.sc (.int .i64 (min (a + (szD ((l.getD i default)))) 2147483648)))), (9, .t (.lst 4 (List.map dstepT l))), (10, .t (.sc (.int .i64 (l.length : Int)))), (11, .t (.sc (.int .i64 ((i : Int) + 1))))]) (l := [])
              (C := [Weak (.t (.sc (.int .i64 (IntKind.i64.wrap ((i : Int) + 1))))) (.t (.sc (.int .i64 ((i : Int) + 1))))]) (by kernel_rfl) ?_ ?_
            · -- region 16
              refine ⟨(Weak.of_eq (nw ?_)), trivial⟩
              all_goals omega
            refine andThen_normal ?_
            refine LoopSim.weaken (Le.ren (τ := []) (keys := [0, 3, 4, 9, 10, 11]) (nx := 48) (sl := [(0, .t (.lst 4 (List.map dstepT l))), (3, .t (.sc (.int .i64 b))), (4, .t (.sc (.int .i64 (min (a + (szD ((l.getD i default)))) 2147483648)))), (9, .t (.lst 4 (List.map dstepT l))), (10, .t (.sc (.int .i64 (l.length : Int)))), (11, .t (.sc (.int .i64 (((i + 1) : Nat) : Int))))]) (l := []) (by kernel_rfl)) ?_
            refine ih3 (b, (min (a + (szD ((l.getD i default)))) 2147483648), (i + 1)) ?_ ?_
            · -- back 3.7, invariant
              refine ⟨by omega, by omega, by omega, by omega, by omega, ?_⟩
              rw [I3.2.2.2.2.2, chkD, if_pos (by omega), if_neg (by omega), if_neg (by first | omega | exact fun hh => adjD_no h10 hh.2)]
              ((repeat' split) <;> first | rfl | omega | (simp_all; done) | (simp_all; omega))
            · -- back 3.7, measure
              show (_:Nat) < _; (first | omega | with_reducible exact fun h => h | (intro hq; rw [hq]; done) | (intro hq; rw [hq]; rfl) | (simp only [List.length_map]; done) | (simp only [List.length_map]; omega) | (simp; omega) | (simp; done))
          · (try simp only [bne_iff_ne, bne_eq_false_iff_eq, ne_eq] at h14)
            refine Sim.skip ?_
            refine inBlk_normal ?_
            refine andThen_normal ?_
            refine Sim.reg (orcs := [(0, ⟨some (.t (.sc (.int .i64 ((i : Int) + 1)))), none, none, none⟩)]) (keys := [0, 3, 4, 9, 10, 11]) (τ := []) (nx := 224)
              (sl := [(0, .t (.lst 4 (List.map dstepT l))), (3, .t (.sc (.int .i64 b))), (4, .t (.sc (.int .i64 a))), (9, .t (.lst 4 (List.map dstepT l))), (10, .t (.sc (.int .i64 (l.length : Int)))), (11, .t (.sc (.int .i64 ((i : Int) + 1))))]) (l := [])
              (C := [Weak (.t (.sc (.int .i64 (IntKind.i64.wrap ((i : Int) + 1))))) (.t (.sc (.int .i64 ((i : Int) + 1))))]) (by kernel_rfl) ?_ ?_
            · -- region 16
              refine ⟨(Weak.of_eq (nw ?_)), trivial⟩
              all_goals omega
            refine andThen_normal ?_
            refine LoopSim.weaken (Le.ren (τ := []) (keys := [0, 3, 4, 9, 10, 11]) (nx := 48) (sl := [(0, .t (.lst 4 (List.map dstepT l))), (3, .t (.sc (.int .i64 b))), (4, .t (.sc (.int .i64 a))), (9, .t (.lst 4 (List.map dstepT l))), (10, .t (.sc (.int .i64 (l.length : Int)))), (11, .t (.sc (.int .i64 (((i + 1) : Nat) : Int))))]) (l := []) (by kernel_rfl)) ?_
            refine ih3 (b, a, (i + 1)) ?_ ?_
            · -- back 3.8, invariant
              refine ⟨by omega, by omega, by omega, by omega, by omega, ?_⟩
              rw [I3.2.2.2.2.2, chkD, if_pos (by omega), if_neg (by omega), if_neg (by first | omega | exact fun hh => adjD_no h10 hh.2)]
              ((repeat' split) <;> first | rfl | omega | (simp_all; done) | (simp_all; omega))
            · -- back 3.8, measure
              show (_:Nat) < _; omega
  · (try simp only [decide_eq_true_eq, decide_eq_false_iff_not, Int.not_lt, Int.not_le] at h3)
    refine Sim.exit ?_
    refine andThen_exit ?_
    refine andThen_exit ?_
    refine inBlk_same ?_
    refine andThen_normal ?_
    refine Sim.seq ?_
    refine Sim.seq ?_
    refine Sim.reg (orcs := []) (keys := [77]) (τ := []) (nx := 104)
      (sl := [(77, .t (.sc (.bool (decide (b > 2147483647) || decide (a > 2147483647)))))]) (l := [])
      (C := [(!(decide (b > 2147483647))) = true → (!(decide (b > 2147483647))) = true, (decide (b > 2147483647)) = false → (!(decide (b > 2147483647))) = true]) (by kernel_rfl) ?_ ?_
    · -- region 17
      refine ⟨?_, ?_, trivial⟩
      all_goals (first | omega | with_reducible exact fun h => h | (intro hg hq; rw [hg, hq]; rfl) | (intro hq; rw [hq]; done) | (intro hq; rw [hq]; rfl) | ((try intro hg); (try simp [-List.getD_eq_getElem?_getD] at hg); (try simp only [List.length_map]); first | done | omega | rfl | (simp; done) | (simp; omega) | (simp [hg]; done) | (intro hq; simp [hg, hq]; done) | (intro hq; simp [hg, hq]; omega)))
    refine andThen_normal ?_
    refine Sim.cond (b := (decide (b > 2147483647) || decide (a > 2147483647))) (by kernel_rfl) (fun h17 => ?_) (fun h17 => ?_)
    · (try simp only [decide_eq_true_eq, decide_eq_false_iff_not, Int.not_lt, Int.not_le, gt_iff_lt, Bool.or_eq_true, Bool.or_eq_false_iff] at h17)
      refine Sim.seq ?_
      refine Sim.reg (orcs := []) (keys := [2]) (τ := []) (nx := 112)
        (sl := [(2, .t (.sc (.int .i64 3)))]) (l := [])
        (C := []) (by kernel_rfl) ?_ ?_
      · -- region 18
        trivial
      refine andThen_normal ?_
      refine Sim.ret ?_
      refine andThen_ret ?_
      refine Fin.mk2 (.inl rfl) (τ := []) (keys := [2]) (nx := 112) (sl := [(2, .t (.sc (.int .i64 3)))]) (l := []) (res' := .t (.sc (.int .i64 3))) (by kernel_rfl) ?_ (by kernel_rfl) ?_
      · -- end 3, objects
        first | done | rfl
      · -- end 3, result
        have e3 : ((checkD l) : Int) = 3 := by
          rw [I3.2.2.2.2.2, chkD]; ((repeat' split) <;> first | rfl | omega | (simp_all; done) | (simp_all; omega))
        show AVal.t (.sc (.int .i64 3)) = .t (.sc (.int .i64 (checkD l)))
        rw [e3]
        try rfl
    · (try simp only [decide_eq_true_eq, decide_eq_false_iff_not, Int.not_lt, Int.not_le, gt_iff_lt, Bool.or_eq_true, Bool.or_eq_false_iff] at h17)
      refine Sim.skip ?_
      refine andThen_normal ?_
      refine Sim.seq ?_
      refine Sim.reg (orcs := []) (keys := [2]) (τ := []) (nx := 112)
        (sl := [(2, .t (.sc (.int .i64 0)))]) (l := [])
        (C := []) (by kernel_rfl) ?_ ?_
      · -- region 19
        trivial
      refine andThen_normal ?_
      refine Sim.ret ?_
      refine Fin.mk2 (.inl rfl) (τ := []) (keys := [2]) (nx := 112) (sl := [(2, .t (.sc (.int .i64 0)))]) (l := []) (res' := .t (.sc (.int .i64 0))) (by kernel_rfl) ?_ (by kernel_rfl) ?_
      · -- end 4, objects
        first | done | rfl
      · -- end 4, result
        have e4 : ((checkD l) : Int) = 0 := by
          rw [I3.2.2.2.2.2, chkD]; ((repeat' split) <;> first | rfl | omega | (simp_all; done) | (simp_all; omega))
        show AVal.t (.sc (.int .i64 0)) = .t (.sc (.int .i64 (checkD l)))
        rw [e4]
        try rfl

theorem fc_dLens (l : List DStep) (hv : DValid l) : FC Try.prog 110 [.t (.lst 4 (List.map dstepT l))] (app emp []) (.tup [.t (.sc (.int .i64 (oldD l))), .t (.sc (.int .i64 (newD l)))]) (app emp []) := by
  refine FC.of_sim (fn := Try.f110) (nx := 0) (by kernel_rfl) rfl (by kernel_rfl) rfl ?_
  show Sim _ _ _ _ ⟨[(0, .t (.lst 4 (List.map dstepT l)))], app emp [], 0⟩ _
  refine Sim.len (t := 0) (k := 4) rfl (fun hl0 => ?_)
  rw [List.length_map] at hl0
  refine Sim.seq ?_
  refine Sim.reg (orcs := []) (keys := [0]) (τ := []) (nx := 16)
    (sl := [(0, .t (.lst 4 (List.map dstepT l)))]) (l := [])
    (C := []) (by kernel_rfl) ?_ ?_
  · -- region 0
    trivial
  refine andThen_normal ?_
  refine Sim.seq ?_
  refine Sim.reg (orcs := []) (keys := [0, 4, 5]) (τ := []) (nx := 32)
    (sl := [(0, .t (.lst 4 (List.map dstepT l))), (4, .t (.sc (.int .i64 0))), (5, .t (.sc (.int .i64 0)))]) (l := [])
    (C := []) (by kernel_rfl) ?_ ?_
  · -- region 1
    trivial
  refine andThen_normal ?_
  refine Sim.seq ?_
  refine Sim.seq ?_
  refine Sim.reg (orcs := [(1, ⟨some (.t (.sc (.int .i64 (l.length : Int)))), none, none, none⟩)]) (keys := [4, 5, 8, 9, 10]) (τ := []) (nx := 56)
    (sl := [(4, .t (.sc (.int .i64 0))), (5, .t (.sc (.int .i64 0))), (8, .t (.lst 4 (List.map dstepT l))), (9, .t (.sc (.int .i64 (l.length : Int)))), (10, .t (.sc (.int .i64 0)))]) (l := [])
    (C := [Weak (.t (.sc (.int .i64 ((List.map dstepT l).length : Int)))) (.t (.sc (.int .i64 (l.length : Int))))]) (by kernel_rfl) ?_ ?_
  · -- region 2
    exact ⟨(Weak.of_eq len_map), trivial⟩
  refine andThen_normal ?_
  refine Sim.block ?_
  refine Sim.weaken (Le.ren (τ := []) (keys := [4, 5, 8, 9, 10]) (nx := 56) (sl := [(4, .t (.sc (.int .i64 0))), (5, .t (.sc (.int .i64 0))), (8, .t (.lst 4 (List.map dstepT l))), (9, .t (.sc (.int .i64 (l.length : Int)))), (10, .t (.sc (.int .i64 ((0 : Nat) : Int))))]) (l := []) (by kernel_rfl)) ?_
  refine Sim.loop ?_
  refine loop_ind (α := Int × Int × Nat) (fun (b, a, i) => ⟨[(4, .t (.sc (.int .i64 b))), (5, .t (.sc (.int .i64 a))), (8, .t (.lst 4 (List.map dstepT l))), (9, .t (.sc (.int .i64 (l.length : Int)))), (10, .t (.sc (.int .i64 (i : Int))))], app emp [], 56⟩) (fun (b, a, i) => i ≤ l.length ∧ 0 ≤ b ∧ 0 ≤ a ∧ oldD l = b + oldD (l.drop i) ∧ newD l = a + newD (l.drop i)) (fun (b, a, i) => l.length - i) ?_ (0, 0, 0) ?_
  rotate_left
  · -- loop 3, start
    exact ⟨by omega, by decide, by decide, by simp, by simp⟩
  rintro ⟨b, a, i⟩ I3 ih3
  show LoopSim _ _ _ _ ⟨[(4, .t (.sc (.int .i64 b))), (5, .t (.sc (.int .i64 a))), (8, .t (.lst 4 (List.map dstepT l))), (9, .t (.sc (.int .i64 (l.length : Int)))), (10, .t (.sc (.int .i64 (i : Int))))], app emp [], 56⟩ _
  replace I3 : i ≤ l.length ∧ 0 ≤ b ∧ 0 ≤ a ∧ oldD l = b + oldD (l.drop i) ∧ newD l = a + newD (l.drop i) := I3
  have hv1 := hv.2.1
  have hv2 := hv.2.2
  refine LoopSim.step ?_
  refine Sim.seq ?_
  refine Sim.reg (orcs := []) (keys := [4, 5, 8, 9, 10, 11]) (τ := []) (nx := 64)
    (sl := [(4, .t (.sc (.int .i64 b))), (5, .t (.sc (.int .i64 a))), (8, .t (.lst 4 (List.map dstepT l))), (9, .t (.sc (.int .i64 (l.length : Int)))), (10, .t (.sc (.int .i64 (i : Int)))), (11, .t (.sc (.bool (decide ((i : Int) < (l.length : Int))))))]) (l := [])
    (C := []) (by kernel_rfl) ?_ ?_
  · -- region 3
    trivial
  refine andThen_normal ?_
  refine Sim.seq ?_
  refine Sim.cond (b := decide ((i : Int) < (l.length : Int))) (by kernel_rfl) (fun h3 => ?_) (fun h3 => ?_)
  · (try simp only [decide_eq_true_eq, decide_eq_false_iff_not, Int.not_lt, Int.not_le] at h3)
    refine Sim.skip ?_
    refine andThen_normal ?_
    refine Sim.seq ?_
    refine Sim.block ?_
    refine Sim.seq ?_
    refine Sim.reg (orcs := [(0, ⟨none, none, some (dstepT (l.getD i default)), none⟩)]) (keys := [4, 5, 7, 8, 9, 10]) (τ := [(80, 80)]) (nx := 96)
      (sl := [(4, .t (.sc (.int .i64 b))), (5, .t (.sc (.int .i64 a))), (7, .ptr 80 0), (8, .t (.lst 4 (List.map dstepT l))), (9, .t (.sc (.int .i64 (l.length : Int)))), (10, .t (.sc (.int .i64 (i : Int))))]) (l := [(80, .box [.t (.sc (.int .i64 (((l.getD i default)).kind))), .t (.sc (.int .i64 (((l.getD i default)).n))), .t (.lst 2 (List.map attrT (((l.getD i default)).attrs))), .t (.lst 3 (List.map elemT (((l.getD i default)).elems)))])])
      (C := [(0:Int) ≤ (i : Int), (List.map dstepT l)[i]? = some (dstepT (l.getD i default))]) (by kernel_rfl) ?_ ?_
    · -- region 4
      refine ⟨?_, (elt_nat ?_), trivial⟩
      all_goals omega
    refine andThen_normal ?_
    refine Sim.seq ?_
    refine Sim.seq ?_
    have hst := dlens_step (l := l) (i := i) (by omega) hv.1
    refine Sim.reg (orcs := []) (keys := [4, 5, 7, 8, 9, 10, 16]) (τ := [(80, 80)]) (nx := 120)
      (sl := [(4, .t (.sc (.int .i64 b))), (5, .t (.sc (.int .i64 a))), (7, .ptr 80 0), (8, .t (.lst 4 (List.map dstepT l))), (9, .t (.sc (.int .i64 (l.length : Int)))), (10, .t (.sc (.int .i64 (i : Int)))), (16, .t (.sc (.bool ((((l.getD i default)).kind) != 1))))]) (l := [(80, .box [.t (.sc (.int .i64 (((l.getD i default)).kind))), .t (.sc (.int .i64 (((l.getD i default)).n))), .t (.lst 2 (List.map attrT (((l.getD i default)).attrs))), .t (.lst 3 (List.map elemT (((l.getD i default)).elems)))])])
      (C := []) (by kernel_rfl) ?_ ?_
    · -- region 5
      trivial
    refine andThen_normal ?_
    refine Sim.cond (b := ((((l.getD i default)).kind) != 1)) (by kernel_rfl) (fun h5 => ?_) (fun h5 => ?_)
    · (try simp only [bne_iff_ne, bne_eq_false_iff_eq, ne_eq] at h5)
      have s1 := hst.1
      rw [if_neg (by omega)] at s1
      refine Sim.reg (orcs := [(3, ⟨some (.t (.sc (.int .i64 (b + (((l.getD i default)).n))))), none, none, none⟩)]) (keys := [4, 5, 7, 8, 9, 10]) (τ := [(80, 80)]) (nx := 160)
        (sl := [(4, .t (.sc (.int .i64 (b + (((l.getD i default)).n))))), (5, .t (.sc (.int .i64 a))), (7, .ptr 80 0), (8, .t (.lst 4 (List.map dstepT l))), (9, .t (.sc (.int .i64 (l.length : Int)))), (10, .t (.sc (.int .i64 (i : Int))))]) (l := [(80, .box [.t (.sc (.int .i64 (((l.getD i default)).kind))), .t (.sc (.int .i64 (((l.getD i default)).n))), .t (.lst 2 (List.map attrT (((l.getD i default)).attrs))), .t (.lst 3 (List.map elemT (((l.getD i default)).elems)))])])
        (C := [Weak (.t (.sc (.int .i64 (IntKind.i64.wrap (b + (((l.getD i default)).n)))))) (.t (.sc (.int .i64 (b + (((l.getD i default)).n)))))]) (by kernel_rfl) ?_ ?_
      · -- region 6
        refine ⟨(Weak.of_eq (nw ?_)), trivial⟩
        all_goals omega
      refine andThen_normal ?_
      refine Sim.seq ?_
      refine Sim.reg (orcs := []) (keys := [4, 5, 7, 8, 9, 10, 23]) (τ := [(80, 80)]) (nx := 184)
        (sl := [(4, .t (.sc (.int .i64 (b + (((l.getD i default)).n))))), (5, .t (.sc (.int .i64 a))), (7, .ptr 80 0), (8, .t (.lst 4 (List.map dstepT l))), (9, .t (.sc (.int .i64 (l.length : Int)))), (10, .t (.sc (.int .i64 (i : Int)))), (23, .t (.sc (.bool ((((l.getD i default)).kind) != 2))))]) (l := [(80, .box [.t (.sc (.int .i64 (((l.getD i default)).kind))), .t (.sc (.int .i64 (((l.getD i default)).n))), .t (.lst 2 (List.map attrT (((l.getD i default)).attrs))), .t (.lst 3 (List.map elemT (((l.getD i default)).elems)))])])
        (C := []) (by kernel_rfl) ?_ ?_
      · -- region 7
        trivial
      refine andThen_normal ?_
      refine Sim.cond (b := ((((l.getD i default)).kind) != 2)) (by kernel_rfl) (fun h7 => ?_) (fun h7 => ?_)
      · (try simp only [bne_iff_ne, bne_eq_false_iff_eq, ne_eq] at h7)
        have s2 := hst.2.1
        rw [if_neg (by omega)] at s2
        refine Sim.reg (orcs := [(2, ⟨none, none, none, some (⟨0, [], .t (.sc (.int .i64 (szD ((l.getD i default))))), []⟩)⟩), (3, ⟨some (.t (.sc (.int .i64 (a + (szD ((l.getD i default))))))), none, none, none⟩)]) (keys := [4, 5, 8, 9, 10]) (τ := []) (nx := 224)
          (sl := [(4, .t (.sc (.int .i64 (b + (((l.getD i default)).n))))), (5, .t (.sc (.int .i64 (a + (szD ((l.getD i default))))))), (8, .t (.lst 4 (List.map dstepT l))), (9, .t (.sc (.int .i64 (l.length : Int)))), (10, .t (.sc (.int .i64 (i : Int))))]) (l := [])
          (C := [callable Try.prog 125 = true, FC Try.prog 125 [.t (dstepT ((l.getD i default)))] emp (.t (.sc (.int .i64 (szD ((l.getD i default)))))) emp, Weak (.t (.sc (.int .i64 (IntKind.i64.wrap (a + (szD ((l.getD i default)))))))) (.t (.sc (.int .i64 (a + (szD ((l.getD i default)))))))]) (by kernel_rfl) ?_ ?_
        · -- region 8
          refine ⟨(by kernel_rfl), (fc_size ((l.getD i default))), (Weak.of_eq (nw ?_)), trivial⟩
          all_goals omega
        refine inBlk_normal ?_
        refine andThen_normal ?_
        refine Sim.reg (orcs := [(0, ⟨some (.t (.sc (.int .i64 ((i : Int) + 1)))), none, none, none⟩)]) (keys := [4, 5, 8, 9, 10]) (τ := []) (nx := 240)
          (sl := [(4, .t (.sc (.int .i64 (b + (((l.getD i default)).n))))), (5, .t (.sc (.int .i64 (a + (szD ((l.getD i default))))))), (8, .t (.lst 4 (List.map dstepT l))), (9, .t (.sc (.int .i64 (l.length : Int)))), (10, .t (.sc (.int .i64 ((i : Int) + 1))))]) (l := [])
          (C := [Weak (.t (.sc (.int .i64 (IntKind.i64.wrap ((i : Int) + 1))))) (.t (.sc (.int .i64 ((i : Int) + 1))))]) (by kernel_rfl) ?_ ?_
        · -- region 9
          refine ⟨(Weak.of_eq (nw ?_)), trivial⟩
          all_goals omega
        refine andThen_normal ?_
        refine LoopSim.weaken (Le.ren (τ := []) (keys := [4, 5, 8, 9, 10]) (nx := 56) (sl := [(4, .t (.sc (.int .i64 (b + (((l.getD i default)).n))))), (5, .t (.sc (.int .i64 (a + (szD ((l.getD i default))))))), (8, .t (.lst 4 (List.map dstepT l))), (9, .t (.sc (.int .i64 (l.length : Int)))), (10, .t (.sc (.int .i64 (((i + 1) : Nat) : Int))))]) (l := []) (by kernel_rfl)) ?_
        refine ih3 ((b + (((l.getD i default)).n)), (a + (szD ((l.getD i default)))), (i + 1)) ?_ ?_
        · -- back 3.1, invariant
          obtain ⟨s1, s2, s3, s4, s5, s6, s7, s8⟩ := hst
          first | rw [if_pos (by omega)] at s1 | rw [if_neg (by omega)] at s1
          first | rw [if_pos (by omega)] at s2 | rw [if_neg (by omega)] at s2
          refine ⟨by omega, by omega, by omega, by omega, by omega⟩
        · -- back 3.1, measure
          show (_:Nat) < _; (first | omega | with_reducible exact fun h => h | (intro hq; rw [hq]; done) | (intro hq; rw [hq]; rfl) | (simp only [List.length_map]; done) | (simp only [List.length_map]; omega) | (simp; omega) | (simp; done))
      · (try simp only [bne_iff_ne, bne_eq_false_iff_eq, ne_eq] at h7)
        refine Sim.skip ?_
        refine inBlk_normal ?_
        refine andThen_normal ?_
        refine Sim.reg (orcs := [(0, ⟨some (.t (.sc (.int .i64 ((i : Int) + 1)))), none, none, none⟩)]) (keys := [4, 5, 8, 9, 10]) (τ := []) (nx := 200)
          (sl := [(4, .t (.sc (.int .i64 (b + (((l.getD i default)).n))))), (5, .t (.sc (.int .i64 a))), (8, .t (.lst 4 (List.map dstepT l))), (9, .t (.sc (.int .i64 (l.length : Int)))), (10, .t (.sc (.int .i64 ((i : Int) + 1))))]) (l := [])
          (C := [Weak (.t (.sc (.int .i64 (IntKind.i64.wrap ((i : Int) + 1))))) (.t (.sc (.int .i64 ((i : Int) + 1))))]) (by kernel_rfl) ?_ ?_
        · -- region 9
          refine ⟨(Weak.of_eq (nw ?_)), trivial⟩
          all_goals omega
        refine andThen_normal ?_
        refine LoopSim.weaken (Le.ren (τ := []) (keys := [4, 5, 8, 9, 10]) (nx := 56) (sl := [(4, .t (.sc (.int .i64 (b + (((l.getD i default)).n))))), (5, .t (.sc (.int .i64 a))), (8, .t (.lst 4 (List.map dstepT l))), (9, .t (.sc (.int .i64 (l.length : Int)))), (10, .t (.sc (.int .i64 (((i + 1) : Nat) : Int))))]) (l := []) (by kernel_rfl)) ?_
        refine ih3 ((b + (((l.getD i default)).n)), a, (i + 1)) ?_ ?_
        · -- back 3.2, invariant
          obtain ⟨s1, s2, s3, s4, s5, s6, s7, s8⟩ := hst
          first | rw [if_pos (by omega)] at s1 | rw [if_neg (by omega)] at s1
          first | rw [if_pos (by omega)] at s2 | rw [if_neg (by omega)] at s2
          refine ⟨by omega, by omega, by omega, by omega, by omega⟩
        · -- back 3.2, measure
          show (_:Nat) < _; (first | omega | with_reducible exact fun h => h | (intro hq; rw [hq]; done) | (intro hq; rw [hq]; rfl) | (simp only [List.length_map]; done) | (simp only [List.length_map]; omega) | (simp; omega) | (simp; done))
    · (try simp only [bne_iff_ne, bne_eq_false_iff_eq, ne_eq] at h5)
      refine Sim.skip ?_
      refine andThen_normal ?_
      refine Sim.seq ?_
      refine Sim.reg (orcs := []) (keys := [4, 5, 7, 8, 9, 10, 23]) (τ := [(80, 80)]) (nx := 144)
        (sl := [(4, .t (.sc (.int .i64 b))), (5, .t (.sc (.int .i64 a))), (7, .ptr 80 0), (8, .t (.lst 4 (List.map dstepT l))), (9, .t (.sc (.int .i64 (l.length : Int)))), (10, .t (.sc (.int .i64 (i : Int)))), (23, .t (.sc (.bool ((((l.getD i default)).kind) != 2))))]) (l := [(80, .box [.t (.sc (.int .i64 (((l.getD i default)).kind))), .t (.sc (.int .i64 (((l.getD i default)).n))), .t (.lst 2 (List.map attrT (((l.getD i default)).attrs))), .t (.lst 3 (List.map elemT (((l.getD i default)).elems)))])])
        (C := []) (by kernel_rfl) ?_ ?_
      · -- region 7
        trivial
      refine andThen_normal ?_
      refine Sim.cond (b := ((((l.getD i default)).kind) != 2)) (by kernel_rfl) (fun h7 => ?_) (fun h7 => ?_)
      · (try simp only [bne_iff_ne, bne_eq_false_iff_eq, ne_eq] at h7)
        have s2 := hst.2.1
        rw [if_neg (by omega)] at s2
        refine Sim.reg (orcs := [(2, ⟨none, none, none, some (⟨0, [], .t (.sc (.int .i64 (szD ((l.getD i default))))), []⟩)⟩), (3, ⟨some (.t (.sc (.int .i64 (a + (szD ((l.getD i default))))))), none, none, none⟩)]) (keys := [4, 5, 8, 9, 10]) (τ := []) (nx := 184)
          (sl := [(4, .t (.sc (.int .i64 b))), (5, .t (.sc (.int .i64 (a + (szD ((l.getD i default))))))), (8, .t (.lst 4 (List.map dstepT l))), (9, .t (.sc (.int .i64 (l.length : Int)))), (10, .t (.sc (.int .i64 (i : Int))))]) (l := [])
          (C := [callable Try.prog 125 = true, FC Try.prog 125 [.t (dstepT ((l.getD i default)))] emp (.t (.sc (.int .i64 (szD ((l.getD i default)))))) emp, Weak (.t (.sc (.int .i64 (IntKind.i64.wrap (a + (szD ((l.getD i default)))))))) (.t (.sc (.int .i64 (a + (szD ((l.getD i default)))))))]) (by kernel_rfl) ?_ ?_
        · -- region 8
          refine ⟨(by kernel_rfl), (fc_size ((l.getD i default))), (Weak.of_eq (nw ?_)), trivial⟩
          all_goals omega
        refine inBlk_normal ?_
        refine andThen_normal ?_
        refine Sim.reg (orcs := [(0, ⟨some (.t (.sc (.int .i64 ((i : Int) + 1)))), none, none, none⟩)]) (keys := [4, 5, 8, 9, 10]) (τ := []) (nx := 200)
          (sl := [(4, .t (.sc (.int .i64 b))), (5, .t (.sc (.int .i64 (a + (szD ((l.getD i default))))))), (8, .t (.lst 4 (List.map dstepT l))), (9, .t (.sc (.int .i64 (l.length : Int)))), (10, .t (.sc (.int .i64 ((i : Int) + 1))))]) (l := [])
          (C := [Weak (.t (.sc (.int .i64 (IntKind.i64.wrap ((i : Int) + 1))))) (.t (.sc (.int .i64 ((i : Int) + 1))))]) (by kernel_rfl) ?_ ?_
        · -- region 9
          refine ⟨(Weak.of_eq (nw ?_)), trivial⟩
          all_goals omega
        refine andThen_normal ?_
        refine LoopSim.weaken (Le.ren (τ := []) (keys := [4, 5, 8, 9, 10]) (nx := 56) (sl := [(4, .t (.sc (.int .i64 b))), (5, .t (.sc (.int .i64 (a + (szD ((l.getD i default))))))), (8, .t (.lst 4 (List.map dstepT l))), (9, .t (.sc (.int .i64 (l.length : Int)))), (10, .t (.sc (.int .i64 (((i + 1) : Nat) : Int))))]) (l := []) (by kernel_rfl)) ?_
        refine ih3 (b, (a + (szD ((l.getD i default)))), (i + 1)) ?_ ?_
        · -- back 3.3, invariant
          obtain ⟨s1, s2, s3, s4, s5, s6, s7, s8⟩ := hst
          first | rw [if_pos (by omega)] at s1 | rw [if_neg (by omega)] at s1
          first | rw [if_pos (by omega)] at s2 | rw [if_neg (by omega)] at s2
          refine ⟨by omega, by omega, by omega, by omega, by omega⟩
        · -- back 3.3, measure
          show (_:Nat) < _; (first | omega | with_reducible exact fun h => h | (intro hq; rw [hq]; done) | (intro hq; rw [hq]; rfl) | (simp only [List.length_map]; done) | (simp only [List.length_map]; omega) | (simp; omega) | (simp; done))
      · (try simp only [bne_iff_ne, bne_eq_false_iff_eq, ne_eq] at h7)
        refine Sim.skip ?_
        refine inBlk_normal ?_
        refine andThen_normal ?_
        refine Sim.reg (orcs := [(0, ⟨some (.t (.sc (.int .i64 ((i : Int) + 1)))), none, none, none⟩)]) (keys := [4, 5, 8, 9, 10]) (τ := []) (nx := 160)
          (sl := [(4, .t (.sc (.int .i64 b))), (5, .t (.sc (.int .i64 a))), (8, .t (.lst 4 (List.map dstepT l))), (9, .t (.sc (.int .i64 (l.length : Int)))), (10, .t (.sc (.int .i64 ((i : Int) + 1))))]) (l := [])
          (C := [Weak (.t (.sc (.int .i64 (IntKind.i64.wrap ((i : Int) + 1))))) (.t (.sc (.int .i64 ((i : Int) + 1))))]) (by kernel_rfl) ?_ ?_
        · -- region 9
          refine ⟨(Weak.of_eq (nw ?_)), trivial⟩
          all_goals omega
        refine andThen_normal ?_
        refine LoopSim.weaken (Le.ren (τ := []) (keys := [4, 5, 8, 9, 10]) (nx := 56) (sl := [(4, .t (.sc (.int .i64 b))), (5, .t (.sc (.int .i64 a))), (8, .t (.lst 4 (List.map dstepT l))), (9, .t (.sc (.int .i64 (l.length : Int)))), (10, .t (.sc (.int .i64 (((i + 1) : Nat) : Int))))]) (l := []) (by kernel_rfl)) ?_
        refine ih3 (b, a, (i + 1)) ?_ ?_
        · -- back 3.4, invariant
          obtain ⟨s1, s2, s3, s4, s5, s6, s7, s8⟩ := hst
          first | rw [if_pos (by omega)] at s1 | rw [if_neg (by omega)] at s1
          first | rw [if_pos (by omega)] at s2 | rw [if_neg (by omega)] at s2
          refine ⟨by omega, by omega, by omega, by omega, by omega⟩
        · -- back 3.4, measure
          show (_:Nat) < _; omega
  · (try simp only [decide_eq_true_eq, decide_eq_false_iff_not, Int.not_lt, Int.not_le] at h3)
    refine Sim.exit ?_
    refine andThen_exit ?_
    refine andThen_exit ?_
    refine inBlk_same ?_
    refine andThen_normal ?_
    refine Sim.seq ?_
    refine Sim.reg (orcs := []) (keys := [2, 3]) (τ := []) (nx := 96)
      (sl := [(2, .t (.sc (.int .i64 b))), (3, .t (.sc (.int .i64 a)))]) (l := [])
      (C := []) (by kernel_rfl) ?_ ?_
    · -- region 10
      trivial
    refine andThen_normal ?_
    refine Sim.ret ?_
    refine Fin.mk2 (.inl rfl) (τ := []) (keys := [2, 3]) (nx := 96) (sl := [(2, .t (.sc (.int .i64 b))), (3, .t (.sc (.int .i64 a)))]) (l := []) (res' := .tup [.t (.sc (.int .i64 b)), .t (.sc (.int .i64 a))]) (by kernel_rfl) ?_ (by kernel_rfl) ?_
    · -- end 1, objects
      first | done | rfl
    · -- end 1, result
      have e1 : ((oldD l) : Int) = b := by
        have hE := dend (l := l) (i := i) (by omega)
        omega
      have e2 : ((newD l) : Int) = a := by
        have hE := dend (l := l) (i := i) (by omega)
        omega
      show AVal.tup [.t (.sc (.int .i64 b)), .t (.sc (.int .i64 a))] = .tup [.t (.sc (.int .i64 (oldD l))), .t (.sc (.int .i64 (newD l)))]
      rw [e1, e2]
      try rfl
end Go.Ch
