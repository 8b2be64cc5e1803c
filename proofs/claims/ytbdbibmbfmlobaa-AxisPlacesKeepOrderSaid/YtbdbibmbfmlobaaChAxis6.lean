import Derived.Test.YtbdbibmbfmlobaaAxisPlace
set_option linter.unusedVariables false
set_option linter.unusedSimpArgs false
set_option maxRecDepth 100000
set_option maxHeartbeats 4000000
open Go Go.Proofs Go.Ab
namespace Go.Ch
theorem fc_place (l : List AxStep) (p : Int) (hv : Valid l) (hp : 0 ≤ p ∧ p ≤ 2147483647) : FC Try.prog 97 [.t (.lst 2 (List.map stepT l)), .t (.sc (.int .i64 p))] (app emp []) (.t (.sc (.int .i64 (placeS l p 0 0)))) (app emp []) := by
  refine FC.of_sim (fn := Try.f97) (nx := 0) (by kernel_rfl) rfl (by kernel_rfl) rfl ?_
  show Sim _ _ _ _ ⟨[(0, .t (.lst 2 (List.map stepT l))), (1, .t (.sc (.int .i64 p)))], app emp [], 0⟩ _
  refine Sim.len (t := 0) (k := 2) rfl (fun hl0 => ?_)
  rw [List.length_map] at hl0
  have ca := check_iff.2 hv
  have hv1 : oldI l ≤ 2147483647 := by have := hv.2.1; unfold oldI; omega
  have hv2 : newI l ≤ 2147483647 := by have := hv.2.2; unfold newI; omega
  have o0 : 0 ≤ oldI l := by unfold oldI; omega
  have o1 : 0 ≤ newI l := by unfold newI; omega
  refine Sim.seq ?_
  refine Sim.reg (orcs := []) (keys := [0, 1]) (τ := []) (nx := 8)
    (sl := [(0, .t (.lst 2 (List.map stepT l))), (1, .t (.sc (.int .i64 p)))]) (l := [])
    (C := []) (by kernel_rfl) ?_ ?_
  · -- region 0
    trivial
  refine andThen_normal ?_
  refine Sim.seq ?_
  refine Sim.reg (orcs := []) (keys := [0, 1, 5, 6]) (τ := []) (nx := 24)
    (sl := [(0, .t (.lst 2 (List.map stepT l))), (1, .t (.sc (.int .i64 p))), (5, .t (.sc (.int .i64 0))), (6, .t (.sc (.int .i64 0)))]) (l := [])
    (C := []) (by kernel_rfl) ?_ ?_
  · -- region 1
    trivial
  refine andThen_normal ?_
  refine Sim.seq ?_
  refine Sim.seq ?_
  refine Sim.reg (orcs := [(1, ⟨some (.t (.sc (.int .i64 (l.length : Int)))), none, none, none⟩)]) (keys := [1, 5, 6, 9, 10, 11]) (τ := []) (nx := 48)
    (sl := [(1, .t (.sc (.int .i64 p))), (5, .t (.sc (.int .i64 0))), (6, .t (.sc (.int .i64 0))), (9, .t (.lst 2 (List.map stepT l))), (10, .t (.sc (.int .i64 (l.length : Int)))), (11, .t (.sc (.int .i64 0)))]) (l := [])
    (C := [AVal.t (.sc (.int .i64 (l.length : Int))) = .t (.sc (.int .i64 ((List.map stepT l).length : Int)))]) (by kernel_rfl) ?_ ?_
  · -- region 2
    exact ⟨len_map, trivial⟩
  refine andThen_normal ?_
  refine Sim.block ?_
  refine Sim.weaken (Le.ren (τ := []) (keys := [1, 5, 6, 9, 10, 11]) (nx := 48) (sl := [(1, .t (.sc (.int .i64 p))), (5, .t (.sc (.int .i64 0))), (6, .t (.sc (.int .i64 0))), (9, .t (.lst 2 (List.map stepT l))), (10, .t (.sc (.int .i64 (l.length : Int)))), (11, .t (.sc (.int .i64 ((0 : Nat) : Int))))]) (l := []) (by kernel_rfl)) ?_
  refine Sim.loop ?_
  refine loop_ind (α := Int × Int × Nat) (fun (fr, to, i) => ⟨[(1, .t (.sc (.int .i64 p))), (5, .t (.sc (.int .i64 fr))), (6, .t (.sc (.int .i64 to))), (9, .t (.lst 2 (List.map stepT l))), (10, .t (.sc (.int .i64 (l.length : Int)))), (11, .t (.sc (.int .i64 (i : Int))))], app emp [], 48⟩) (fun (fr, to, i) => i ≤ l.length ∧ 0 ≤ fr ∧ 0 ≤ to ∧ fr + oldU (ex (l.drop i)) = oldI l ∧ to + newU (ex (l.drop i)) = newI l ∧ fr ≤ p ∧ placeS l p 0 0 = placeS (l.drop i) p fr to) (fun (fr, to, i) => l.length - i) ?_ (0, 0, 0) ?_
  rotate_left
  · -- loop 3, start
    exact ⟨by omega, by decide, by decide, by simp [oldI], by simp [newI], by omega, rfl⟩
  rintro ⟨fr, to, i⟩ I3 ih3
  show LoopSim _ _ _ _ ⟨[(1, .t (.sc (.int .i64 p))), (5, .t (.sc (.int .i64 fr))), (6, .t (.sc (.int .i64 to))), (9, .t (.lst 2 (List.map stepT l))), (10, .t (.sc (.int .i64 (l.length : Int)))), (11, .t (.sc (.int .i64 (i : Int))))], app emp [], 48⟩ _
  replace I3 : i ≤ l.length ∧ 0 ≤ fr ∧ 0 ≤ to ∧ fr + oldU (ex (l.drop i)) = oldI l ∧ to + newU (ex (l.drop i)) = newI l ∧ fr ≤ p ∧ placeS l p 0 0 = placeS (l.drop i) p fr to := I3
  refine LoopSim.step ?_
  refine Sim.seq ?_
  refine Sim.reg (orcs := []) (keys := [1, 5, 6, 9, 10, 11, 12]) (τ := []) (nx := 56)
    (sl := [(1, .t (.sc (.int .i64 p))), (5, .t (.sc (.int .i64 fr))), (6, .t (.sc (.int .i64 to))), (9, .t (.lst 2 (List.map stepT l))), (10, .t (.sc (.int .i64 (l.length : Int)))), (11, .t (.sc (.int .i64 (i : Int)))), (12, .t (.sc (.bool (decide ((i : Int) < (l.length : Int))))))]) (l := [])
    (C := []) (by kernel_rfl) ?_ ?_
  · -- region 3
    trivial
  refine andThen_normal ?_
  refine Sim.seq ?_
  refine Sim.cond (b := decide ((i : Int) < (l.length : Int))) (by kernel_rfl) (fun h3 => ?_) (fun h3 => ?_)
  · (try simp only [decide_eq_true_eq, decide_eq_false_iff_not, Int.not_lt, Int.not_le] at h3)
    refine Sim.skip ?_
    refine andThen_normal ?_
    refine Sim.seq ?_
    refine Sim.block ?_
    refine Sim.seq ?_
    refine Sim.reg (orcs := [(0, ⟨none, none, some (stepT (l.getD i default)), none⟩)]) (keys := [1, 5, 6, 8, 9, 10, 11]) (τ := [(72, 72)]) (nx := 88)
      (sl := [(1, .t (.sc (.int .i64 p))), (5, .t (.sc (.int .i64 fr))), (6, .t (.sc (.int .i64 to))), (8, .ptr 72 0), (9, .t (.lst 2 (List.map stepT l))), (10, .t (.sc (.int .i64 (l.length : Int)))), (11, .t (.sc (.int .i64 (i : Int))))]) (l := [(72, .box [.t (.sc (.int .i64 (((l.getD i default)).kind))), .t (.sc (.int .i64 (((l.getD i default)).n)))])])
      (C := [(0:Int) ≤ (i : Int), (List.map stepT l)[i]? = some (stepT (l.getD i default))]) (by kernel_rfl) ?_ ?_
    · -- region 4
      refine ⟨?_, (elt_nat ?_), trivial⟩
      all_goals (first | omega | with_reducible exact fun h => h | (intro hg hq; rw [hg, hq]; rfl) | (intro hq; rw [hq]; done) | (intro hq; rw [hq]; rfl) | ((try intro hg); (try simp [-List.getD_eq_getElem?_getD] at hg); (try simp only [List.length_map]); first | done | omega | rfl | (simp; done) | (simp; omega) | (simp [hg]; done) | (intro hq; simp [hg, hq]; done) | (intro hq; simp [hg, hq]; omega)))
    refine andThen_normal ?_
    refine Sim.seq ?_
    refine Sim.seq ?_
    have hst := lens_step (l := l) (i := i) (by omega) hv.1
    have hd := drop_ats (l := l) (i := i) (by omega)
    refine Sim.reg (orcs := []) (keys := [1, 5, 6, 8, 9, 10, 11, 16]) (τ := [(72, 72)]) (nx := 104)
      (sl := [(1, .t (.sc (.int .i64 p))), (5, .t (.sc (.int .i64 fr))), (6, .t (.sc (.int .i64 to))), (8, .ptr 72 0), (9, .t (.lst 2 (List.map stepT l))), (10, .t (.sc (.int .i64 (l.length : Int)))), (11, .t (.sc (.int .i64 (i : Int)))), (16, .t (.sc (.int .i64 (((l.getD i default)).kind))))]) (l := [(72, .box [.t (.sc (.int .i64 (((l.getD i default)).kind))), .t (.sc (.int .i64 (((l.getD i default)).n)))])])
      (C := []) (by kernel_rfl) ?_ ?_
    · -- region 5
      trivial
    refine andThen_normal ?_
    refine Sim.block ?_
    refine Sim.seq ?_
    refine Sim.reg (orcs := []) (keys := [1, 5, 6, 8, 9, 10, 11, 16, 23]) (τ := [(72, 72)]) (nx := 120)
      (sl := [(1, .t (.sc (.int .i64 p))), (5, .t (.sc (.int .i64 fr))), (6, .t (.sc (.int .i64 to))), (8, .ptr 72 0), (9, .t (.lst 2 (List.map stepT l))), (10, .t (.sc (.int .i64 (l.length : Int)))), (11, .t (.sc (.int .i64 (i : Int)))), (16, .t (.sc (.int .i64 (((l.getD i default)).kind)))), (23, .t (.sc (.bool ((((l.getD i default)).kind) == 1))))]) (l := [(72, .box [.t (.sc (.int .i64 (((l.getD i default)).kind))), .t (.sc (.int .i64 (((l.getD i default)).n)))])])
      (C := []) (by kernel_rfl) ?_ ?_
    · -- region 8
      trivial
    refine andThen_normal ?_
    refine Sim.cond (b := ((((l.getD i default)).kind) == 1)) (by kernel_rfl) (fun h8 => ?_) (fun h8 => ?_)
    · (try simp only [beq_iff_eq, beq_eq_false_iff_ne, ne_eq] at h8)
      refine Sim.seq ?_
      refine Sim.reg (orcs := [(3, ⟨some (.t (.sc (.int .i64 (to + (((l.getD i default)).n))))), none, none, none⟩)]) (keys := [1, 5, 6, 9, 10, 11]) (τ := []) (nx := 160)
        (sl := [(1, .t (.sc (.int .i64 p))), (5, .t (.sc (.int .i64 fr))), (6, .t (.sc (.int .i64 (to + (((l.getD i default)).n))))), (9, .t (.lst 2 (List.map stepT l))), (10, .t (.sc (.int .i64 (l.length : Int)))), (11, .t (.sc (.int .i64 (i : Int))))]) (l := [])
        (C := [AVal.t (.sc (.int .i64 (to + (((l.getD i default)).n)))) = .t (.sc (.int .i64 (IntKind.i64.wrap (to + (((l.getD i default)).n)))))]) (by kernel_rfl) ?_ ?_
      · -- region 9
        refine ⟨(nw ?_), trivial⟩
        all_goals (first | omega | with_reducible exact fun h => h | (intro hg hq; rw [hg, hq]; rfl) | (intro hq; rw [hq]; done) | (intro hq; rw [hq]; rfl) | ((try intro hg); (try simp [-List.getD_eq_getElem?_getD] at hg); (try simp only [List.length_map]); first | done | omega | rfl | (simp; done) | (simp; omega) | (simp [hg]; done) | (intro hq; simp [hg, hq]; done) | (intro hq; simp [hg, hq]; omega)))
      refine andThen_normal ?_
      refine Sim.exit ?_
      refine inBlk_other (by decide) ?_
      refine andThen_exit ?_
      refine inBlk_same ?_
      refine andThen_normal ?_
      refine Sim.reg (orcs := [(0, ⟨some (.t (.sc (.int .i64 ((i : Int) + 1)))), none, none, none⟩)]) (keys := [1, 5, 6, 9, 10, 11]) (τ := []) (nx := 176)
        (sl := [(1, .t (.sc (.int .i64 p))), (5, .t (.sc (.int .i64 fr))), (6, .t (.sc (.int .i64 (to + (((l.getD i default)).n))))), (9, .t (.lst 2 (List.map stepT l))), (10, .t (.sc (.int .i64 (l.length : Int)))), (11, .t (.sc (.int .i64 ((i : Int) + 1))))]) (l := [])
        (C := [AVal.t (.sc (.int .i64 ((i : Int) + 1))) = .t (.sc (.int .i64 (IntKind.i64.wrap ((i : Int) + 1))))]) (by kernel_rfl) ?_ ?_
      · -- region 15
        refine ⟨(nw ?_), trivial⟩
        all_goals (first | omega | with_reducible exact fun h => h | (intro hg hq; rw [hg, hq]; rfl) | (intro hq; rw [hq]; done) | (intro hq; rw [hq]; rfl) | ((try intro hg); (try simp [-List.getD_eq_getElem?_getD] at hg); (try simp only [List.length_map]); first | done | omega | rfl | (simp; done) | (simp; omega) | (simp [hg]; done) | (intro hq; simp [hg, hq]; done) | (intro hq; simp [hg, hq]; omega)))
      refine andThen_normal ?_
      refine LoopSim.weaken (Le.ren (τ := []) (keys := [1, 5, 6, 9, 10, 11]) (nx := 48) (sl := [(1, .t (.sc (.int .i64 p))), (5, .t (.sc (.int .i64 fr))), (6, .t (.sc (.int .i64 (to + (((l.getD i default)).n))))), (9, .t (.lst 2 (List.map stepT l))), (10, .t (.sc (.int .i64 (l.length : Int)))), (11, .t (.sc (.int .i64 (((i + 1) : Nat) : Int))))]) (l := []) (by kernel_rfl)) ?_
      refine ih3 (fr, (to + (((l.getD i default)).n)), (i + 1)) ?_ ?_
      · -- back 3.1, invariant
        obtain ⟨s1, s2, s3, s4, s5⟩ := hst
        (first | rw [if_pos (by omega)] at s1 | rw [if_neg (by omega)] at s1)
        (first | rw [if_pos (by omega)] at s2 | rw [if_neg (by omega)] at s2)
        refine ⟨by omega, by omega, by omega, by omega, by omega, by omega, ?_⟩
        rw [I3.2.2.2.2.2.2, hd, placeS]
        ((repeat' split) <;> first | rfl | omega)
      · -- back 3.1, measure
        show (_:Nat) < _; (first | omega | with_reducible exact fun h => h | (intro hq; rw [hq]; done) | (intro hq; rw [hq]; rfl) | (simp only [List.length_map]; done) | (simp only [List.length_map]; omega) | (simp; omega) | (simp; done))
    · (try simp only [beq_iff_eq, beq_eq_false_iff_ne, ne_eq] at h8)
      refine Sim.seq ?_
      refine Sim.reg (orcs := []) (keys := [1, 5, 6, 8, 9, 10, 11, 29]) (τ := [(72, 72)]) (nx := 136)
        (sl := [(1, .t (.sc (.int .i64 p))), (5, .t (.sc (.int .i64 fr))), (6, .t (.sc (.int .i64 to))), (8, .ptr 72 0), (9, .t (.lst 2 (List.map stepT l))), (10, .t (.sc (.int .i64 (l.length : Int)))), (11, .t (.sc (.int .i64 (i : Int)))), (29, .t (.sc (.bool ((((l.getD i default)).kind) == 0))))]) (l := [(72, .box [.t (.sc (.int .i64 (((l.getD i default)).kind))), .t (.sc (.int .i64 (((l.getD i default)).n)))])])
        (C := []) (by kernel_rfl) ?_ ?_
      · -- region 10
        trivial
      refine andThen_normal ?_
      refine Sim.cond (b := ((((l.getD i default)).kind) == 0)) (by kernel_rfl) (fun h10 => ?_) (fun h10 => ?_)
      · (try simp only [beq_iff_eq, beq_eq_false_iff_ne, ne_eq] at h10)
        refine Sim.seq ?_
        refine Sim.seq ?_
        refine Sim.reg (orcs := [(4, ⟨some (.t (.sc (.int .i64 (fr + (((l.getD i default)).n))))), none, none, none⟩)]) (keys := [1, 5, 6, 8, 9, 10, 11, 36]) (τ := [(72, 72)]) (nx := 184)
          (sl := [(1, .t (.sc (.int .i64 p))), (5, .t (.sc (.int .i64 fr))), (6, .t (.sc (.int .i64 to))), (8, .ptr 72 0), (9, .t (.lst 2 (List.map stepT l))), (10, .t (.sc (.int .i64 (l.length : Int)))), (11, .t (.sc (.int .i64 (i : Int)))), (36, .t (.sc (.bool (decide (p < (fr + (((l.getD i default)).n)))))))]) (l := [(72, .box [.t (.sc (.int .i64 (((l.getD i default)).kind))), .t (.sc (.int .i64 (((l.getD i default)).n)))])])
          (C := [AVal.t (.sc (.int .i64 (fr + (((l.getD i default)).n)))) = .t (.sc (.int .i64 (IntKind.i64.wrap (fr + (((l.getD i default)).n)))))]) (by kernel_rfl) ?_ ?_
        · -- region 11
          refine ⟨(nw ?_), trivial⟩
          all_goals (first | omega | with_reducible exact fun h => h | (intro hg hq; rw [hg, hq]; rfl) | (intro hq; rw [hq]; done) | (intro hq; rw [hq]; rfl) | ((try intro hg); (try simp [-List.getD_eq_getElem?_getD] at hg); (try simp only [List.length_map]); first | done | omega | rfl | (simp; done) | (simp; omega) | (simp [hg]; done) | (intro hq; simp [hg, hq]; done) | (intro hq; simp [hg, hq]; omega)))
        refine andThen_normal ?_
        refine Sim.cond (b := decide (p < (fr + (((l.getD i default)).n)))) (by kernel_rfl) (fun h11 => ?_) (fun h11 => ?_)
        · (try simp only [decide_eq_true_eq, decide_eq_false_iff_not, Int.not_lt, Int.not_le] at h11)
          refine Sim.seq ?_
          refine Sim.reg (orcs := [(2, ⟨some (.t (.sc (.int .i64 (to + p)))), none, none, none⟩), (4, ⟨some (.t (.sc (.int .i64 ((to + p) - fr)))), none, none, none⟩)]) (keys := [4]) (τ := []) (nx := 232)
            (sl := [(4, .t (.sc (.int .i64 ((to + p) - fr))))]) (l := [])
            (C := [AVal.t (.sc (.int .i64 (to + p))) = .t (.sc (.int .i64 (IntKind.i64.wrap (to + p)))), AVal.t (.sc (.int .i64 ((to + p) - fr))) = .t (.sc (.int .i64 (IntKind.i64.wrap ((to + p) - fr))))]) (by kernel_rfl) ?_ ?_
          · -- region 12
            refine ⟨(nw ?_), (nw ?_), trivial⟩
            all_goals (first | omega | with_reducible exact fun h => h | (intro hg hq; rw [hg, hq]; rfl) | (intro hq; rw [hq]; done) | (intro hq; rw [hq]; rfl) | ((try intro hg); (try simp [-List.getD_eq_getElem?_getD] at hg); (try simp only [List.length_map]); first | done | omega | rfl | (simp; done) | (simp; omega) | (simp [hg]; done) | (intro hq; simp [hg, hq]; done) | (intro hq; simp [hg, hq]; omega)))
          refine andThen_normal ?_
          refine Sim.ret ?_
          refine andThen_ret ?_
          refine inBlk_ret ?_
          refine andThen_ret ?_
          refine inBlk_ret ?_
          refine andThen_ret ?_
          refine andThen_ret ?_
          refine inBlk_ret ?_
          refine andThen_ret ?_
          refine Fin.mk2 (.inl rfl) (τ := []) (keys := [4]) (nx := 232) (sl := [(4, .t (.sc (.int .i64 ((to + p) - fr))))]) (l := []) (res' := .t (.sc (.int .i64 ((to + p) - fr)))) (by kernel_rfl) ?_ (by kernel_rfl) ?_
          · -- end 1, objects
            first | done | rfl
          · -- end 1, result
            have e1 : ((placeS l p 0 0) : Int) = ((to + p) - fr) := by
              first | (rw [I3.2.2.2.2.2.2, drop_ends (by omega)]; rfl) | (rw [I3.2.2.2.2.2.2, hd, placeS]; ((repeat' split) <;> first | rfl | omega))
            show AVal.t (.sc (.int .i64 ((to + p) - fr))) = .t (.sc (.int .i64 (placeS l p 0 0)))
            rw [e1]
            try rfl
        · (try simp only [decide_eq_true_eq, decide_eq_false_iff_not, Int.not_lt, Int.not_le] at h11)
          refine Sim.skip ?_
          refine andThen_normal ?_
          refine Sim.reg (orcs := [(3, ⟨some (.t (.sc (.int .i64 (to + (((l.getD i default)).n))))), none, none, none⟩)]) (keys := [1, 5, 6, 8, 9, 10, 11]) (τ := [(72, 72)]) (nx := 224)
            (sl := [(1, .t (.sc (.int .i64 p))), (5, .t (.sc (.int .i64 fr))), (6, .t (.sc (.int .i64 (to + (((l.getD i default)).n))))), (8, .ptr 72 0), (9, .t (.lst 2 (List.map stepT l))), (10, .t (.sc (.int .i64 (l.length : Int)))), (11, .t (.sc (.int .i64 (i : Int))))]) (l := [(72, .box [.t (.sc (.int .i64 (((l.getD i default)).kind))), .t (.sc (.int .i64 (((l.getD i default)).n)))])])
            (C := [AVal.t (.sc (.int .i64 (to + (((l.getD i default)).n)))) = .t (.sc (.int .i64 (IntKind.i64.wrap (to + (((l.getD i default)).n)))))]) (by kernel_rfl) ?_ ?_
          · -- region 13
            refine ⟨(nw ?_), trivial⟩
            all_goals (first | omega | with_reducible exact fun h => h | (intro hg hq; rw [hg, hq]; rfl) | (intro hq; rw [hq]; done) | (intro hq; rw [hq]; rfl) | ((try intro hg); (try simp [-List.getD_eq_getElem?_getD] at hg); (try simp only [List.length_map]); first | done | omega | rfl | (simp; done) | (simp; omega) | (simp [hg]; done) | (intro hq; simp [hg, hq]; done) | (intro hq; simp [hg, hq]; omega)))
          refine inBlk_normal ?_
          refine andThen_normal ?_
          refine Sim.reg (orcs := [(3, ⟨some (.t (.sc (.int .i64 (fr + (((l.getD i default)).n))))), none, none, none⟩)]) (keys := [1, 5, 6, 9, 10, 11]) (τ := []) (nx := 264)
            (sl := [(1, .t (.sc (.int .i64 p))), (5, .t (.sc (.int .i64 (fr + (((l.getD i default)).n))))), (6, .t (.sc (.int .i64 (to + (((l.getD i default)).n))))), (9, .t (.lst 2 (List.map stepT l))), (10, .t (.sc (.int .i64 (l.length : Int)))), (11, .t (.sc (.int .i64 (i : Int))))]) (l := [])
            (C := [AVal.t (.sc (.int .i64 (fr + (((l.getD i default)).n)))) = .t (.sc (.int .i64 (IntKind.i64.wrap (fr + (((l.getD i default)).n)))))]) (by kernel_rfl) ?_ ?_
          · -- region 14
            refine ⟨(nw ?_), trivial⟩
            all_goals (first | omega | with_reducible exact fun h => h | (intro hg hq; rw [hg, hq]; rfl) | (intro hq; rw [hq]; done) | (intro hq; rw [hq]; rfl) | ((try intro hg); (try simp [-List.getD_eq_getElem?_getD] at hg); (try simp only [List.length_map]); first | done | omega | rfl | (simp; done) | (simp; omega) | (simp [hg]; done) | (intro hq; simp [hg, hq]; done) | (intro hq; simp [hg, hq]; omega)))
          refine inBlk_normal ?_
          refine andThen_normal ?_
          refine Sim.reg (orcs := [(0, ⟨some (.t (.sc (.int .i64 ((i : Int) + 1)))), none, none, none⟩)]) (keys := [1, 5, 6, 9, 10, 11]) (τ := []) (nx := 280)
            (sl := [(1, .t (.sc (.int .i64 p))), (5, .t (.sc (.int .i64 (fr + (((l.getD i default)).n))))), (6, .t (.sc (.int .i64 (to + (((l.getD i default)).n))))), (9, .t (.lst 2 (List.map stepT l))), (10, .t (.sc (.int .i64 (l.length : Int)))), (11, .t (.sc (.int .i64 ((i : Int) + 1))))]) (l := [])
            (C := [AVal.t (.sc (.int .i64 ((i : Int) + 1))) = .t (.sc (.int .i64 (IntKind.i64.wrap ((i : Int) + 1))))]) (by kernel_rfl) ?_ ?_
          · -- region 15
            refine ⟨(nw ?_), trivial⟩
            all_goals (first | omega | with_reducible exact fun h => h | (intro hg hq; rw [hg, hq]; rfl) | (intro hq; rw [hq]; done) | (intro hq; rw [hq]; rfl) | ((try intro hg); (try simp [-List.getD_eq_getElem?_getD] at hg); (try simp only [List.length_map]); first | done | omega | rfl | (simp; done) | (simp; omega) | (simp [hg]; done) | (intro hq; simp [hg, hq]; done) | (intro hq; simp [hg, hq]; omega)))
          refine andThen_normal ?_
          refine LoopSim.weaken (Le.ren (τ := []) (keys := [1, 5, 6, 9, 10, 11]) (nx := 48) (sl := [(1, .t (.sc (.int .i64 p))), (5, .t (.sc (.int .i64 (fr + (((l.getD i default)).n))))), (6, .t (.sc (.int .i64 (to + (((l.getD i default)).n))))), (9, .t (.lst 2 (List.map stepT l))), (10, .t (.sc (.int .i64 (l.length : Int)))), (11, .t (.sc (.int .i64 (((i + 1) : Nat) : Int))))]) (l := []) (by kernel_rfl)) ?_
          refine ih3 ((fr + (((l.getD i default)).n)), (to + (((l.getD i default)).n)), (i + 1)) ?_ ?_
          · -- back 3.2, invariant
            obtain ⟨s1, s2, s3, s4, s5⟩ := hst
            (first | rw [if_pos (by omega)] at s1 | rw [if_neg (by omega)] at s1)
            (first | rw [if_pos (by omega)] at s2 | rw [if_neg (by omega)] at s2)
            refine ⟨by omega, by omega, by omega, by omega, by omega, by omega, ?_⟩
            rw [I3.2.2.2.2.2.2, hd, placeS]
            ((repeat' split) <;> first | rfl | omega)
          · -- back 3.2, measure
            show (_:Nat) < _; (first | omega | with_reducible exact fun h => h | (intro hq; rw [hq]; done) | (intro hq; rw [hq]; rfl) | (simp only [List.length_map]; done) | (simp only [List.length_map]; omega) | (simp; omega) | (simp; done))
      · (try simp only [beq_iff_eq, beq_eq_false_iff_ne, ne_eq] at h10)
        refine Sim.seq ?_
        refine Sim.reg (orcs := [(4, ⟨some (.t (.sc (.int .i64 (fr + (((l.getD i default)).n))))), none, none, none⟩)]) (keys := [1, 5, 6, 8, 9, 10, 11, 22]) (τ := [(72, 72)]) (nx := 184)
          (sl := [(1, .t (.sc (.int .i64 p))), (5, .t (.sc (.int .i64 fr))), (6, .t (.sc (.int .i64 to))), (8, .ptr 72 0), (9, .t (.lst 2 (List.map stepT l))), (10, .t (.sc (.int .i64 (l.length : Int)))), (11, .t (.sc (.int .i64 (i : Int)))), (22, .t (.sc (.bool (decide (p < (fr + (((l.getD i default)).n)))))))]) (l := [(72, .box [.t (.sc (.int .i64 (((l.getD i default)).kind))), .t (.sc (.int .i64 (((l.getD i default)).n)))])])
          (C := [AVal.t (.sc (.int .i64 (fr + (((l.getD i default)).n)))) = .t (.sc (.int .i64 (IntKind.i64.wrap (fr + (((l.getD i default)).n)))))]) (by kernel_rfl) ?_ ?_
        · -- region 6
          refine ⟨(nw ?_), trivial⟩
          all_goals (first | omega | with_reducible exact fun h => h | (intro hg hq; rw [hg, hq]; rfl) | (intro hq; rw [hq]; done) | (intro hq; rw [hq]; rfl) | ((try intro hg); (try simp [-List.getD_eq_getElem?_getD] at hg); (try simp only [List.length_map]); first | done | omega | rfl | (simp; done) | (simp; omega) | (simp [hg]; done) | (intro hq; simp [hg, hq]; done) | (intro hq; simp [hg, hq]; omega)))
        refine andThen_normal ?_
        refine Sim.cond (b := decide (p < (fr + (((l.getD i default)).n)))) (by kernel_rfl) (fun h6 => ?_) (fun h6 => ?_)
        · (try simp only [decide_eq_true_eq, decide_eq_false_iff_not, Int.not_lt, Int.not_le] at h6)
          refine Sim.seq ?_
          refine Sim.reg (orcs := []) (keys := [4]) (τ := []) (nx := 192)
            (sl := [(4, .t (.sc (.int .i64 (-1))))]) (l := [])
            (C := []) (by kernel_rfl) ?_ ?_
          · -- region 7
            trivial
          refine andThen_normal ?_
          refine Sim.ret ?_
          refine inBlk_ret ?_
          refine andThen_ret ?_
          refine inBlk_ret ?_
          refine andThen_ret ?_
          refine andThen_ret ?_
          refine inBlk_ret ?_
          refine andThen_ret ?_
          refine Fin.mk2 (.inl rfl) (τ := []) (keys := [4]) (nx := 192) (sl := [(4, .t (.sc (.int .i64 (-1))))]) (l := []) (res' := .t (.sc (.int .i64 (-1)))) (by kernel_rfl) ?_ (by kernel_rfl) ?_
          · -- end 2, objects
            first | done | rfl
          · -- end 2, result
            have e2 : ((placeS l p 0 0) : Int) = -1 := by
              first | (rw [I3.2.2.2.2.2.2, drop_ends (by omega)]; rfl) | (rw [I3.2.2.2.2.2.2, hd, placeS]; ((repeat' split) <;> first | rfl | omega))
            show AVal.t (.sc (.int .i64 (-1))) = .t (.sc (.int .i64 (placeS l p 0 0)))
            rw [e2]
            try rfl
        · (try simp only [decide_eq_true_eq, decide_eq_false_iff_not, Int.not_lt, Int.not_le] at h6)
          refine Sim.skip ?_
          refine inBlk_normal ?_
          refine andThen_normal ?_
          refine Sim.reg (orcs := [(3, ⟨some (.t (.sc (.int .i64 (fr + (((l.getD i default)).n))))), none, none, none⟩)]) (keys := [1, 5, 6, 9, 10, 11]) (τ := []) (nx := 224)
            (sl := [(1, .t (.sc (.int .i64 p))), (5, .t (.sc (.int .i64 (fr + (((l.getD i default)).n))))), (6, .t (.sc (.int .i64 to))), (9, .t (.lst 2 (List.map stepT l))), (10, .t (.sc (.int .i64 (l.length : Int)))), (11, .t (.sc (.int .i64 (i : Int))))]) (l := [])
            (C := [AVal.t (.sc (.int .i64 (fr + (((l.getD i default)).n)))) = .t (.sc (.int .i64 (IntKind.i64.wrap (fr + (((l.getD i default)).n)))))]) (by kernel_rfl) ?_ ?_
          · -- region 14
            refine ⟨(nw ?_), trivial⟩
            all_goals (first | omega | with_reducible exact fun h => h | (intro hg hq; rw [hg, hq]; rfl) | (intro hq; rw [hq]; done) | (intro hq; rw [hq]; rfl) | ((try intro hg); (try simp [-List.getD_eq_getElem?_getD] at hg); (try simp only [List.length_map]); first | done | omega | rfl | (simp; done) | (simp; omega) | (simp [hg]; done) | (intro hq; simp [hg, hq]; done) | (intro hq; simp [hg, hq]; omega)))
          refine inBlk_normal ?_
          refine andThen_normal ?_
          refine Sim.reg (orcs := [(0, ⟨some (.t (.sc (.int .i64 ((i : Int) + 1)))), none, none, none⟩)]) (keys := [1, 5, 6, 9, 10, 11]) (τ := []) (nx := 240)
            (sl := [(1, .t (.sc (.int .i64 p))), (5, .t (.sc (.int .i64 (fr + (((l.getD i default)).n))))), (6, .t (.sc (.int .i64 to))), (9, .t (.lst 2 (List.map stepT l))), (10, .t (.sc (.int .i64 (l.length : Int)))), (11, .t (.sc (.int .i64 ((i : Int) + 1))))]) (l := [])
            (C := [AVal.t (.sc (.int .i64 ((i : Int) + 1))) = .t (.sc (.int .i64 (IntKind.i64.wrap ((i : Int) + 1))))]) (by kernel_rfl) ?_ ?_
          · -- region 15
            refine ⟨(nw ?_), trivial⟩
            all_goals (first | omega | with_reducible exact fun h => h | (intro hg hq; rw [hg, hq]; rfl) | (intro hq; rw [hq]; done) | (intro hq; rw [hq]; rfl) | ((try intro hg); (try simp [-List.getD_eq_getElem?_getD] at hg); (try simp only [List.length_map]); first | done | omega | rfl | (simp; done) | (simp; omega) | (simp [hg]; done) | (intro hq; simp [hg, hq]; done) | (intro hq; simp [hg, hq]; omega)))
          refine andThen_normal ?_
          refine LoopSim.weaken (Le.ren (τ := []) (keys := [1, 5, 6, 9, 10, 11]) (nx := 48) (sl := [(1, .t (.sc (.int .i64 p))), (5, .t (.sc (.int .i64 (fr + (((l.getD i default)).n))))), (6, .t (.sc (.int .i64 to))), (9, .t (.lst 2 (List.map stepT l))), (10, .t (.sc (.int .i64 (l.length : Int)))), (11, .t (.sc (.int .i64 (((i + 1) : Nat) : Int))))]) (l := []) (by kernel_rfl)) ?_
          refine ih3 ((fr + (((l.getD i default)).n)), to, (i + 1)) ?_ ?_
          · -- back 3.3, invariant
            obtain ⟨s1, s2, s3, s4, s5⟩ := hst
            (first | rw [if_pos (by omega)] at s1 | rw [if_neg (by omega)] at s1)
            (first | rw [if_pos (by omega)] at s2 | rw [if_neg (by omega)] at s2)
            refine ⟨by omega, by omega, by omega, by omega, by omega, by omega, ?_⟩
            rw [I3.2.2.2.2.2.2, hd, placeS]
            ((repeat' split) <;> first | rfl | omega)
          · -- back 3.3, measure
            show (_:Nat) < _; (first | omega | with_reducible exact fun h => h | (intro hq; rw [hq]; done) | (intro hq; rw [hq]; rfl) | (simp only [List.length_map]; done) | (simp only [List.length_map]; omega) | (simp; omega) | (simp; done))
  · (try simp only [decide_eq_true_eq, decide_eq_false_iff_not, Int.not_lt, Int.not_le] at h3)
    refine Sim.exit ?_
    refine andThen_exit ?_
    refine andThen_exit ?_
    refine inBlk_same ?_
    refine andThen_normal ?_
    refine Sim.seq ?_
    refine Sim.reg (orcs := []) (keys := [4]) (τ := []) (nx := 64)
      (sl := [(4, .t (.sc (.int .i64 (-1))))]) (l := [])
      (C := []) (by kernel_rfl) ?_ ?_
    · -- region 16
      trivial
    refine andThen_normal ?_
    refine Sim.ret ?_
    refine Fin.mk2 (.inl rfl) (τ := []) (keys := [4]) (nx := 64) (sl := [(4, .t (.sc (.int .i64 (-1))))]) (l := []) (res' := .t (.sc (.int .i64 (-1)))) (by kernel_rfl) ?_ (by kernel_rfl) ?_
    · -- end 3, objects
      first | done | rfl
    · -- end 3, result
      have e3 : ((placeS l p 0 0) : Int) = -1 := by
        first | (rw [I3.2.2.2.2.2.2, drop_ends (by omega)]; rfl) | (rw [I3.2.2.2.2.2.2, hd, placeS]; ((repeat' split) <;> first | rfl | omega))
      show AVal.t (.sc (.int .i64 (-1))) = .t (.sc (.int .i64 (placeS l p 0 0)))
      rw [e3]
      try rfl

theorem fc_axApply (l : List AxStep) (pl : List Int) (hv : Valid l) (hp : ∀ x ∈ pl, 0 ≤ x ∧ x < oldI l) (hlen : pl.length ≤ 1000000000) : FC Try.prog 44 [.t (.lst 2 (List.map stepT l)), .t (.lst 1 (List.map intT pl))] (app emp []) (.tup [.t (.lst 1 (List.map intT (List.map (fun x => placeS l x 0 0) pl))), .t (.sc (.int .i64 0))]) (app emp []) := by
  refine FC.of_sim (fn := Try.f44) (nx := 0) (by kernel_rfl) rfl (by kernel_rfl) rfl ?_
  show Sim _ _ _ _ ⟨[(0, .t (.lst 2 (List.map stepT l))), (1, .t (.lst 1 (List.map intT pl)))], app emp [], 0⟩ _
  refine Sim.len (t := 0) (k := 2) rfl (fun hl0 => ?_)
  rw [List.length_map] at hl0
  refine Sim.len (t := 1) (k := 1) rfl (fun hl1 => ?_)
  rw [List.length_map] at hl1
  have ca := check_iff.2 hv
  have hv1 : oldI l ≤ 2147483647 := by have := hv.2.1; unfold oldI; omega
  have hv2 : newI l ≤ 2147483647 := by have := hv.2.2; unfold newI; omega
  have o0 : 0 ≤ oldI l := by unfold oldI; omega
  have o1 : 0 ≤ newI l := by unfold newI; omega
  refine Sim.seq ?_
  refine Sim.reg (orcs := []) (keys := [0, 1]) (τ := []) (nx := 16)
    (sl := [(0, .t (.lst 2 (List.map stepT l))), (1, .t (.lst 1 (List.map intT pl)))]) (l := [])
    (C := []) (by kernel_rfl) ?_ ?_
  · -- region 0
    trivial
  refine andThen_normal ?_
  refine Sim.seq ?_
  refine Sim.seq ?_
  refine Sim.reg (orcs := [(1, ⟨none, none, none, some (⟨0, [], .t (.sc (.int .i64 (checkX l))), []⟩)⟩)]) (keys := [0, 1, 6]) (τ := []) (nx := 40)
    (sl := [(0, .t (.lst 2 (List.map stepT l))), (1, .t (.lst 1 (List.map intT pl))), (6, .t (.sc (.int .i64 (checkX l))))]) (l := [])
    (C := [callable Try.prog 89 = true, FC Try.prog 89 [.t (.lst 2 (List.map stepT l))] emp (.t (.sc (.int .i64 (checkX l)))) emp]) (by kernel_rfl) ?_ ?_
  · -- region 1
    exact ⟨(by kernel_rfl), (fc_axCheck l), trivial⟩
  refine andThen_normal ?_
  refine Sim.seq ?_
  refine Sim.reg (orcs := []) (keys := [0, 1, 6, 15]) (τ := []) (nx := 56)
    (sl := [(0, .t (.lst 2 (List.map stepT l))), (1, .t (.lst 1 (List.map intT pl))), (6, .t (.sc (.int .i64 (checkX l)))), (15, .t (.sc (.bool ((checkX l) != 0))))]) (l := [])
    (C := []) (by kernel_rfl) ?_ ?_
  · -- region 2
    trivial
  refine andThen_normal ?_
  refine Sim.cond (b := ((checkX l) != 0)) (by kernel_rfl) (fun h2 => ?_) (fun h2 => ?_)
  · (try simp only [bne_iff_ne, bne_eq_false_iff_eq, ne_eq] at h2)
    exfalso
    omega
  · (try simp only [bne_iff_ne, bne_eq_false_iff_eq, ne_eq] at h2)
    refine Sim.skip ?_
    refine andThen_normal ?_
    refine Sim.seq ?_
    refine Sim.reg (orcs := [(1, ⟨none, none, none, some (⟨0, [], .tup [.t (.sc (.int .i64 (oldI l))), .t (.sc (.int .i64 (newI l)))], []⟩)⟩)]) (keys := [0, 1, 7]) (τ := []) (nx := 112)
      (sl := [(0, .t (.lst 2 (List.map stepT l))), (1, .t (.lst 1 (List.map intT pl))), (7, .t (.sc (.int .i64 (oldI l))))]) (l := [])
      (C := [callable Try.prog 90 = true, FC Try.prog 90 [.t (.lst 2 (List.map stepT l))] emp (.tup [.t (.sc (.int .i64 (oldI l))), .t (.sc (.int .i64 (newI l)))]) emp]) (by kernel_rfl) ?_ ?_
    · -- region 4
      exact ⟨(by kernel_rfl), (fc_axLens l (by assumption)), trivial⟩
    refine andThen_normal ?_
    refine Sim.seq ?_
    refine Sim.reg (orcs := []) (keys := [0, 1, 7, 9]) (τ := []) (nx := 120)
      (sl := [(0, .t (.lst 2 (List.map stepT l))), (1, .t (.lst 1 (List.map intT pl))), (7, .t (.sc (.int .i64 (oldI l)))), (9, .t (.sc (.slice none 0 0)))]) (l := [])
      (C := []) (by kernel_rfl) ?_ ?_
    · -- region 5
      trivial
    refine andThen_normal ?_
    refine Sim.seq ?_
    refine Sim.seq ?_
    refine Sim.reg (orcs := [(1, ⟨some (.t (.sc (.int .i64 (pl.length : Int)))), none, none, none⟩)]) (keys := [0, 7, 9, 22, 23, 24]) (τ := []) (nx := 144)
      (sl := [(0, .t (.lst 2 (List.map stepT l))), (7, .t (.sc (.int .i64 (oldI l)))), (9, .t (.sc (.slice none 0 0))), (22, .t (.lst 1 (List.map intT pl))), (23, .t (.sc (.int .i64 (pl.length : Int)))), (24, .t (.sc (.int .i64 0)))]) (l := [])
      (C := [AVal.t (.sc (.int .i64 (pl.length : Int))) = .t (.sc (.int .i64 ((List.map intT pl).length : Int)))]) (by kernel_rfl) ?_ ?_
    · -- region 6
      exact ⟨len_map, trivial⟩
    refine andThen_normal ?_
    refine Sim.block ?_
    refine Sim.weaken (Le.nilRow (t := 9) (k := 1) (id := 144) rfl rfl rfl) ?_
    refine Sim.weaken (Le.ren (τ := [(144, 144)]) (keys := [0, 7, 9, 22, 23, 24]) (nx := 145) (sl := [(0, .t (.lst 2 (List.map stepT l))), (7, .t (.sc (.int .i64 (oldI l)))), (9, .row 144 0), (22, .t (.lst 1 (List.map intT pl))), (23, .t (.sc (.int .i64 (pl.length : Int)))), (24, .t (.sc (.int .i64 ((0 : Nat) : Int))))]) (l := [(144, .row 1 false (List.map intT []))]) (by kernel_rfl)) ?_
    refine Sim.loop ?_
    refine loop_ind (α := Nat × (List Int)) (fun (i, out) => ⟨[(0, .t (.lst 2 (List.map stepT l))), (7, .t (.sc (.int .i64 (oldI l)))), (9, .row 144 out.length), (22, .t (.lst 1 (List.map intT pl))), (23, .t (.sc (.int .i64 (pl.length : Int)))), (24, .t (.sc (.int .i64 (i : Int))))], app emp [(144, .row 1 false (List.map intT out))], 145⟩) (fun (i, out) => i ≤ pl.length ∧ out = (pl.take i).map (fun x => placeS l x 0 0)) (fun (i, out) => pl.length - i) ?_ (0, []) ?_
    rotate_left
    · -- loop 7, start
      exact ⟨by omega, rfl⟩
    rintro ⟨i, out⟩ I7 ih7
    show LoopSim _ _ _ _ ⟨[(0, .t (.lst 2 (List.map stepT l))), (7, .t (.sc (.int .i64 (oldI l)))), (9, .row 144 out.length), (22, .t (.lst 1 (List.map intT pl))), (23, .t (.sc (.int .i64 (pl.length : Int)))), (24, .t (.sc (.int .i64 (i : Int))))], app emp [(144, .row 1 false (List.map intT out))], 145⟩ _
    replace I7 : i ≤ pl.length ∧ out = (pl.take i).map (fun x => placeS l x 0 0) := I7
    have ol : out.length = i := by rw [I7.2]; simp; omega
    refine LoopSim.step ?_
    refine Sim.seq ?_
    refine Sim.reg (orcs := []) (keys := [0, 7, 9, 22, 23, 24, 25]) (τ := [(144, 144)]) (nx := 153)
      (sl := [(0, .t (.lst 2 (List.map stepT l))), (7, .t (.sc (.int .i64 (oldI l)))), (9, .row 144 out.length), (22, .t (.lst 1 (List.map intT pl))), (23, .t (.sc (.int .i64 (pl.length : Int)))), (24, .t (.sc (.int .i64 (i : Int)))), (25, .t (.sc (.bool (decide ((i : Int) < (pl.length : Int))))))]) (l := [(144, .row 1 false (List.map intT out))])
      (C := []) (by kernel_rfl) ?_ ?_
    · -- region 7
      trivial
    refine andThen_normal ?_
    refine Sim.seq ?_
    refine Sim.cond (b := decide ((i : Int) < (pl.length : Int))) (by kernel_rfl) (fun h7 => ?_) (fun h7 => ?_)
    · (try simp only [decide_eq_true_eq, decide_eq_false_iff_not, Int.not_lt, Int.not_le] at h7)
      refine Sim.skip ?_
      refine andThen_normal ?_
      refine Sim.seq ?_
      refine Sim.block ?_
      refine Sim.seq ?_
      refine Sim.reg (orcs := [(0, ⟨none, none, some (.sc (.int .i64 (pl.getD i default))), none⟩)]) (keys := [0, 7, 9, 11, 22, 23, 24]) (τ := [(144, 144)]) (nx := 177)
        (sl := [(0, .t (.lst 2 (List.map stepT l))), (7, .t (.sc (.int .i64 (oldI l)))), (9, .row 144 out.length), (11, .t (.sc (.int .i64 (pl.getD i default)))), (22, .t (.lst 1 (List.map intT pl))), (23, .t (.sc (.int .i64 (pl.length : Int)))), (24, .t (.sc (.int .i64 (i : Int))))]) (l := [(144, .row 1 false (List.map intT out))])
        (C := [(0:Int) ≤ (i : Int), (List.map intT pl)[i]? = some (.sc (.int .i64 (pl.getD i default)))]) (by kernel_rfl) ?_ ?_
      · -- region 8
        refine ⟨?_, (elt_nat ?_), trivial⟩
        all_goals (first | omega | with_reducible exact fun h => h | (intro hg hq; rw [hg, hq]; rfl) | (intro hq; rw [hq]; done) | (intro hq; rw [hq]; rfl) | ((try intro hg); (try simp [-List.getD_eq_getElem?_getD] at hg); (try simp only [List.length_map]); first | done | omega | rfl | (simp; done) | (simp; omega) | (simp [hg]; done) | (intro hq; simp [hg, hq]; done) | (intro hq; simp [hg, hq]; omega)))
      refine andThen_normal ?_
      refine Sim.seq ?_
      refine Sim.seq ?_
      have hx := hp (pl.getD i default) (by rw [show pl.getD i default = pl[i] by simp [List.getD, List.getElem?_eq_getElem (show i < pl.length by omega)]]; exact List.getElem_mem _)
      refine Sim.reg (orcs := []) (keys := [0, 7, 9, 11, 22, 23, 24, 34]) (τ := [(144, 144)]) (nx := 233)
        (sl := [(0, .t (.lst 2 (List.map stepT l))), (7, .t (.sc (.int .i64 (oldI l)))), (9, .row 144 out.length), (11, .t (.sc (.int .i64 (pl.getD i default)))), (22, .t (.lst 1 (List.map intT pl))), (23, .t (.sc (.int .i64 (pl.length : Int)))), (24, .t (.sc (.int .i64 (i : Int)))), (34, .t (.sc (.bool (decide ((pl.getD i default) < 0) || decide ((pl.getD i default) ≥ (oldI l))))))]) (l := [(144, .row 1 false (List.map intT out))])
        (C := [(!(decide ((pl.getD i default) < 0))) = true → (!(decide ((pl.getD i default) < 0))) = true, (!(decide ((pl.getD i default) < 0))) = true → (!(decide ((pl.getD i default) < 0))) = true, (decide ((pl.getD i default) < 0)) = false → (!(decide ((pl.getD i default) < 0))) = true]) (by kernel_rfl) ?_ ?_
      · -- region 9
        refine ⟨?_, ?_, ?_, trivial⟩
        all_goals (first | omega | with_reducible exact fun h => h | (intro hg hq; rw [hg, hq]; rfl) | (intro hq; rw [hq]; done) | (intro hq; rw [hq]; rfl) | ((try intro hg); (try simp [-List.getD_eq_getElem?_getD] at hg); (try simp only [List.length_map]); first | done | omega | rfl | (simp; done) | (simp; omega) | (simp [hg]; done) | (intro hq; simp [hg, hq]; done) | (intro hq; simp [hg, hq]; omega)))
      refine andThen_normal ?_
      refine Sim.cond (b := (decide ((pl.getD i default) < 0) || decide ((pl.getD i default) ≥ (oldI l)))) (by kernel_rfl) (fun h9 => ?_) (fun h9 => ?_)
      · (try simp only [decide_eq_true_eq, decide_eq_false_iff_not, Int.not_lt, Int.not_le, ge_iff_le, Bool.or_eq_true, Bool.or_eq_false_iff] at h9)
        exfalso
        omega
      · (try simp only [decide_eq_true_eq, decide_eq_false_iff_not, Int.not_lt, Int.not_le, ge_iff_le, Bool.or_eq_true, Bool.or_eq_false_iff] at h9)
        refine Sim.skip ?_
        refine andThen_normal ?_
        refine Sim.reg (orcs := [(3, ⟨none, none, none, some (⟨0, [], .t (.sc (.int .i64 (placeS l (pl.getD i default) 0 0))), []⟩)⟩), (5, ⟨some (.row 144 ((out ++ [(placeS l (pl.getD i default) 0 0)]).length)), some ([(144, .row 1 false (List.map intT (out ++ [(placeS l (pl.getD i default) 0 0)])))]), none, none⟩)]) (keys := [0, 7, 9, 22, 23, 24]) (τ := [(144, 144)]) (nx := 289)
          (sl := [(0, .t (.lst 2 (List.map stepT l))), (7, .t (.sc (.int .i64 (oldI l)))), (9, .row 144 ((out ++ [(placeS l (pl.getD i default) 0 0)]).length)), (22, .t (.lst 1 (List.map intT pl))), (23, .t (.sc (.int .i64 (pl.length : Int)))), (24, .t (.sc (.int .i64 (i : Int))))]) (l := [(144, .row 1 false (List.map intT (out ++ [(placeS l (pl.getD i default) 0 0)])))])
          (C := [callable Try.prog 97 = true, FC Try.prog 97 [.t (.lst 2 (List.map stepT l)), .t (.sc (.int .i64 (pl.getD i default)))] emp (.t (.sc (.int .i64 (placeS l (pl.getD i default) 0 0)))) emp, 1 = (List.map intT [(placeS l (pl.getD i default) 0 0)]).length, (out.length : Nat) = (List.map intT out).length, (out.length : Nat) + (List.map intT [(placeS l (pl.getD i default) 0 0)]).length ≤ 1099511627776, AVal.row 144 ((out ++ [(placeS l (pl.getD i default) 0 0)]).length) = .row 144 (out.length + (List.map intT [(placeS l (pl.getD i default) 0 0)]).length), ([(144, .row 1 false (List.map intT (out ++ [(placeS l (pl.getD i default) 0 0)])))] : List (Nat × Ob)) = [(144, .row 1 false (List.map intT out ++ List.map intT [(placeS l (pl.getD i default) 0 0)]))]]) (by kernel_rfl) ?_ ?_
        · -- region 11
          refine ⟨(by kernel_rfl), (fc_place l (pl.getD i default) (by assumption) (by omega)), ?_, ?_, ?_, (by simp), (row_append rfl), trivial⟩
          all_goals (first | omega | with_reducible exact fun h => h | (intro hg hq; rw [hg, hq]; rfl) | (intro hq; rw [hq]; done) | (intro hq; rw [hq]; rfl) | ((try intro hg); (try simp [-List.getD_eq_getElem?_getD] at hg); (try simp only [List.length_map]); first | done | omega | rfl | (simp; done) | (simp; omega) | (simp [hg]; done) | (intro hq; simp [hg, hq]; done) | (intro hq; simp [hg, hq]; omega)))
        refine inBlk_normal ?_
        refine andThen_normal ?_
        refine Sim.reg (orcs := [(0, ⟨some (.t (.sc (.int .i64 ((i : Int) + 1)))), none, none, none⟩)]) (keys := [0, 7, 9, 22, 23, 24]) (τ := [(144, 144)]) (nx := 305)
          (sl := [(0, .t (.lst 2 (List.map stepT l))), (7, .t (.sc (.int .i64 (oldI l)))), (9, .row 144 ((out ++ [(placeS l (pl.getD i default) 0 0)]).length)), (22, .t (.lst 1 (List.map intT pl))), (23, .t (.sc (.int .i64 (pl.length : Int)))), (24, .t (.sc (.int .i64 ((i : Int) + 1))))]) (l := [(144, .row 1 false (List.map intT (out ++ [(placeS l (pl.getD i default) 0 0)])))])
          (C := [AVal.t (.sc (.int .i64 ((i : Int) + 1))) = .t (.sc (.int .i64 (IntKind.i64.wrap ((i : Int) + 1))))]) (by kernel_rfl) ?_ ?_
        · -- region 12
          refine ⟨(nw ?_), trivial⟩
          all_goals (first | omega | with_reducible exact fun h => h | (intro hg hq; rw [hg, hq]; rfl) | (intro hq; rw [hq]; done) | (intro hq; rw [hq]; rfl) | ((try intro hg); (try simp [-List.getD_eq_getElem?_getD] at hg); (try simp only [List.length_map]); first | done | omega | rfl | (simp; done) | (simp; omega) | (simp [hg]; done) | (intro hq; simp [hg, hq]; done) | (intro hq; simp [hg, hq]; omega)))
        refine andThen_normal ?_
        refine LoopSim.weaken (Le.ren (τ := [(144, 144)]) (keys := [0, 7, 9, 22, 23, 24]) (nx := 145) (sl := [(0, .t (.lst 2 (List.map stepT l))), (7, .t (.sc (.int .i64 (oldI l)))), (9, .row 144 ((out ++ [(placeS l (pl.getD i default) 0 0)]).length)), (22, .t (.lst 1 (List.map intT pl))), (23, .t (.sc (.int .i64 (pl.length : Int)))), (24, .t (.sc (.int .i64 (((i + 1) : Nat) : Int))))]) (l := [(144, .row 1 false (List.map intT (out ++ [(placeS l (pl.getD i default) 0 0)])))]) (by kernel_rfl)) ?_
        refine ih7 ((i + 1), (out ++ [(placeS l (pl.getD i default) 0 0)])) ?_ ?_
        · -- back 7.1, invariant
          refine ⟨by omega, ?_⟩
          rw [I7.2, List.take_succ_eq_append_getElem (show i < pl.length by omega), List.map_append]
          simp [List.getD, List.getElem?_eq_getElem (show i < pl.length by omega)]
        · -- back 7.1, measure
          show (_:Nat) < _; (first | omega | with_reducible exact fun h => h | (intro hq; rw [hq]; done) | (intro hq; rw [hq]; rfl) | (simp only [List.length_map]; done) | (simp only [List.length_map]; omega) | (simp; omega) | (simp; done))
    · (try simp only [decide_eq_true_eq, decide_eq_false_iff_not, Int.not_lt, Int.not_le] at h7)
      refine Sim.exit ?_
      refine andThen_exit ?_
      refine andThen_exit ?_
      refine inBlk_same ?_
      refine andThen_normal ?_
      refine Sim.seq ?_
      refine Sim.reg (orcs := []) (keys := [4, 5]) (τ := [(144, 144)]) (nx := 177)
        (sl := [(4, .row 144 out.length), (5, .t (.sc (.int .i64 0)))]) (l := [(144, .row 1 false (List.map intT out))])
        (C := []) (by kernel_rfl) ?_ ?_
      · -- region 13
        trivial
      refine andThen_normal ?_
      refine Sim.ret ?_
      refine Fin.le (Le.freeze (t := 4) (v' := .t (.lst 1 (List.map intT out))) (g := [(144, .row 1 true (List.map intT out))]) (p := [(out.length : Nat) = (List.map intT out).length]) rfl (by kernel_rfl) ⟨(by (first | omega | with_reducible exact fun h => h | (intro hq; rw [hq]; done) | (intro hq; rw [hq]; rfl) | (simp only [List.length_map]; done) | (simp only [List.length_map]; omega) | (simp; omega) | (simp; done))), trivial⟩ (by kernel_rfl)) ?_
      refine Fin.mk2 (.inl rfl) (τ := []) (keys := [4, 5]) (nx := 177) (sl := [(4, .t (.lst 1 (List.map intT out))), (5, .t (.sc (.int .i64 0)))]) (l := []) (res' := .tup [.t (.lst 1 (List.map intT out)), .t (.sc (.int .i64 0))]) (by kernel_rfl) ?_ (by kernel_rfl) ?_
      · -- end 1, objects
        first | done | rfl
      · -- end 1, result
        have e1 : ((List.map (fun x => placeS l x 0 0) pl)) = out := by
          rw [I7.2, List.take_of_length_le (by omega)]
        show AVal.tup [.t (.lst 1 (List.map intT out)), .t (.sc (.int .i64 0))] = .tup [.t (.lst 1 (List.map intT (List.map (fun x => placeS l x 0 0) pl))), .t (.sc (.int .i64 0))]
        rw [e1]
        try rfl

theorem fc_gap (l : List AxStep) (x : Int) (r : Bool) (hv : Valid l) (hx : 0 ≤ x ∧ x ≤ oldI l) : FC Try.prog 45 [.t (.lst 2 (List.map stepT l)), .t (.sc (.int .i64 x)), .t (.sc (.bool r))] (app emp []) (.tup [.t (.sc (.int .i64 (gapS l x r 0 0))), .t (.sc (.int .i64 0))]) (app emp []) := by
  refine FC.of_sim (fn := Try.f45) (nx := 0) (by kernel_rfl) rfl (by kernel_rfl) rfl ?_
  show Sim _ _ _ _ ⟨[(0, .t (.lst 2 (List.map stepT l))), (1, .t (.sc (.int .i64 x))), (2, .t (.sc (.bool r)))], app emp [], 0⟩ _
  refine Sim.len (t := 0) (k := 2) rfl (fun hl0 => ?_)
  rw [List.length_map] at hl0
  have ca := check_iff.2 hv
  have hv1 : oldI l ≤ 2147483647 := by have := hv.2.1; unfold oldI; omega
  have hv2 : newI l ≤ 2147483647 := by have := hv.2.2; unfold newI; omega
  have o0 : 0 ≤ oldI l := by unfold oldI; omega
  have o1 : 0 ≤ newI l := by unfold newI; omega
  refine Sim.seq ?_
  refine Sim.reg (orcs := []) (keys := [0, 1, 2]) (τ := []) (nx := 16)
    (sl := [(0, .t (.lst 2 (List.map stepT l))), (1, .t (.sc (.int .i64 x))), (2, .t (.sc (.bool r)))]) (l := [])
    (C := []) (by kernel_rfl) ?_ ?_
  · -- region 0
    trivial
  refine andThen_normal ?_
  refine Sim.seq ?_
  refine Sim.seq ?_
  refine Sim.reg (orcs := [(1, ⟨none, none, none, some (⟨0, [], .t (.sc (.int .i64 (checkX l))), []⟩)⟩)]) (keys := [0, 1, 2, 8]) (τ := []) (nx := 40)
    (sl := [(0, .t (.lst 2 (List.map stepT l))), (1, .t (.sc (.int .i64 x))), (2, .t (.sc (.bool r))), (8, .t (.sc (.int .i64 (checkX l))))]) (l := [])
    (C := [callable Try.prog 89 = true, FC Try.prog 89 [.t (.lst 2 (List.map stepT l))] emp (.t (.sc (.int .i64 (checkX l)))) emp]) (by kernel_rfl) ?_ ?_
  · -- region 1
    exact ⟨(by kernel_rfl), (fc_axCheck l), trivial⟩
  refine andThen_normal ?_
  refine Sim.seq ?_
  refine Sim.reg (orcs := []) (keys := [0, 1, 2, 8, 18]) (τ := []) (nx := 56)
    (sl := [(0, .t (.lst 2 (List.map stepT l))), (1, .t (.sc (.int .i64 x))), (2, .t (.sc (.bool r))), (8, .t (.sc (.int .i64 (checkX l)))), (18, .t (.sc (.bool ((checkX l) != 0))))]) (l := [])
    (C := []) (by kernel_rfl) ?_ ?_
  · -- region 2
    trivial
  refine andThen_normal ?_
  refine Sim.cond (b := ((checkX l) != 0)) (by kernel_rfl) (fun h2 => ?_) (fun h2 => ?_)
  · (try simp only [bne_iff_ne, bne_eq_false_iff_eq, ne_eq] at h2)
    exfalso
    omega
  · (try simp only [bne_iff_ne, bne_eq_false_iff_eq, ne_eq] at h2)
    refine Sim.skip ?_
    refine andThen_normal ?_
    refine Sim.seq ?_
    refine Sim.seq ?_
    refine Sim.reg (orcs := [(1, ⟨none, none, none, some (⟨0, [], .tup [.t (.sc (.int .i64 (oldI l))), .t (.sc (.int .i64 (newI l)))], []⟩)⟩)]) (keys := [0, 1, 2, 9]) (τ := []) (nx := 112)
      (sl := [(0, .t (.lst 2 (List.map stepT l))), (1, .t (.sc (.int .i64 x))), (2, .t (.sc (.bool r))), (9, .t (.sc (.int .i64 (oldI l))))]) (l := [])
      (C := [callable Try.prog 90 = true, FC Try.prog 90 [.t (.lst 2 (List.map stepT l))] emp (.tup [.t (.sc (.int .i64 (oldI l))), .t (.sc (.int .i64 (newI l)))]) emp]) (by kernel_rfl) ?_ ?_
    · -- region 4
      exact ⟨(by kernel_rfl), (fc_axLens l (by assumption)), trivial⟩
    refine andThen_normal ?_
    refine Sim.seq ?_
    refine Sim.reg (orcs := []) (keys := [0, 1, 2, 31]) (τ := []) (nx := 168)
      (sl := [(0, .t (.lst 2 (List.map stepT l))), (1, .t (.sc (.int .i64 x))), (2, .t (.sc (.bool r))), (31, .t (.sc (.bool (decide (x < 0) || decide (x > (oldI l))))))]) (l := [])
      (C := [(!(decide (x < 0))) = true → (!(decide (x < 0))) = true, (!(decide (x < 0))) = true → (!(decide (x < 0))) = true, (decide (x < 0)) = false → (!(decide (x < 0))) = true]) (by kernel_rfl) ?_ ?_
    · -- region 5
      refine ⟨?_, ?_, ?_, trivial⟩
      all_goals (first | omega | with_reducible exact fun h => h | (intro hg hq; rw [hg, hq]; rfl) | (intro hq; rw [hq]; done) | (intro hq; rw [hq]; rfl) | ((try intro hg); (try simp [-List.getD_eq_getElem?_getD] at hg); (try simp only [List.length_map]); first | done | omega | rfl | (simp; done) | (simp; omega) | (simp [hg]; done) | (intro hq; simp [hg, hq]; done) | (intro hq; simp [hg, hq]; omega)))
    refine andThen_normal ?_
    refine Sim.cond (b := (decide (x < 0) || decide (x > (oldI l)))) (by kernel_rfl) (fun h5 => ?_) (fun h5 => ?_)
    · (try simp only [decide_eq_true_eq, decide_eq_false_iff_not, Int.not_lt, Int.not_le, gt_iff_lt, Bool.or_eq_true, Bool.or_eq_false_iff] at h5)
      exfalso
      omega
    · (try simp only [decide_eq_true_eq, decide_eq_false_iff_not, Int.not_lt, Int.not_le, gt_iff_lt, Bool.or_eq_true, Bool.or_eq_false_iff] at h5)
      refine Sim.skip ?_
      refine andThen_normal ?_
      refine Sim.seq ?_
      refine Sim.reg (orcs := []) (keys := [0, 1, 2, 11, 12]) (τ := []) (nx := 184)
        (sl := [(0, .t (.lst 2 (List.map stepT l))), (1, .t (.sc (.int .i64 x))), (2, .t (.sc (.bool r))), (11, .t (.sc (.int .i64 0))), (12, .t (.sc (.int .i64 0)))]) (l := [])
        (C := []) (by kernel_rfl) ?_ ?_
      · -- region 7
        trivial
      refine andThen_normal ?_
      refine Sim.seq ?_
      refine Sim.seq ?_
      refine Sim.reg (orcs := [(1, ⟨some (.t (.sc (.int .i64 (l.length : Int)))), none, none, none⟩)]) (keys := [1, 2, 11, 12, 32, 33, 34]) (τ := []) (nx := 208)
        (sl := [(1, .t (.sc (.int .i64 x))), (2, .t (.sc (.bool r))), (11, .t (.sc (.int .i64 0))), (12, .t (.sc (.int .i64 0))), (32, .t (.lst 2 (List.map stepT l))), (33, .t (.sc (.int .i64 (l.length : Int)))), (34, .t (.sc (.int .i64 0)))]) (l := [])
        (C := [AVal.t (.sc (.int .i64 (l.length : Int))) = .t (.sc (.int .i64 ((List.map stepT l).length : Int)))]) (by kernel_rfl) ?_ ?_
      · -- region 8
        exact ⟨len_map, trivial⟩
      refine andThen_normal ?_
      refine Sim.block ?_
      refine Sim.weaken (Le.ren (τ := []) (keys := [1, 2, 11, 12, 32, 33, 34]) (nx := 208) (sl := [(1, .t (.sc (.int .i64 x))), (2, .t (.sc (.bool r))), (11, .t (.sc (.int .i64 0))), (12, .t (.sc (.int .i64 0))), (32, .t (.lst 2 (List.map stepT l))), (33, .t (.sc (.int .i64 (l.length : Int)))), (34, .t (.sc (.int .i64 ((0 : Nat) : Int))))]) (l := []) (by kernel_rfl)) ?_
      refine Sim.loop ?_
      refine loop_ind (α := Int × Int × Nat) (fun (fr, to, i) => ⟨[(1, .t (.sc (.int .i64 x))), (2, .t (.sc (.bool r))), (11, .t (.sc (.int .i64 fr))), (12, .t (.sc (.int .i64 to))), (32, .t (.lst 2 (List.map stepT l))), (33, .t (.sc (.int .i64 (l.length : Int)))), (34, .t (.sc (.int .i64 (i : Int))))], app emp [], 208⟩) (fun (fr, to, i) => i ≤ l.length ∧ 0 ≤ fr ∧ 0 ≤ to ∧ fr + oldU (ex (l.drop i)) = oldI l ∧ to + newU (ex (l.drop i)) ≤ newI l ∧ gapS l x r 0 0 = gapS (l.drop i) x r fr to) (fun (fr, to, i) => l.length - i) ?_ (0, 0, 0) ?_
      rotate_left
      · -- loop 9, start
        exact ⟨by omega, by decide, by decide, by simp [oldI], by simp [newI], rfl⟩
      rintro ⟨fr, to, i⟩ I9 ih9
      show LoopSim _ _ _ _ ⟨[(1, .t (.sc (.int .i64 x))), (2, .t (.sc (.bool r))), (11, .t (.sc (.int .i64 fr))), (12, .t (.sc (.int .i64 to))), (32, .t (.lst 2 (List.map stepT l))), (33, .t (.sc (.int .i64 (l.length : Int)))), (34, .t (.sc (.int .i64 (i : Int))))], app emp [], 208⟩ _
      replace I9 : i ≤ l.length ∧ 0 ≤ fr ∧ 0 ≤ to ∧ fr + oldU (ex (l.drop i)) = oldI l ∧ to + newU (ex (l.drop i)) ≤ newI l ∧ gapS l x r 0 0 = gapS (l.drop i) x r fr to := I9
      refine LoopSim.step ?_
      refine Sim.seq ?_
      refine Sim.reg (orcs := []) (keys := [1, 2, 11, 12, 32, 33, 34, 35]) (τ := []) (nx := 216)
        (sl := [(1, .t (.sc (.int .i64 x))), (2, .t (.sc (.bool r))), (11, .t (.sc (.int .i64 fr))), (12, .t (.sc (.int .i64 to))), (32, .t (.lst 2 (List.map stepT l))), (33, .t (.sc (.int .i64 (l.length : Int)))), (34, .t (.sc (.int .i64 (i : Int)))), (35, .t (.sc (.bool (decide ((i : Int) < (l.length : Int))))))]) (l := [])
        (C := []) (by kernel_rfl) ?_ ?_
      · -- region 9
        trivial
      refine andThen_normal ?_
      refine Sim.seq ?_
      refine Sim.cond (b := decide ((i : Int) < (l.length : Int))) (by kernel_rfl) (fun h9 => ?_) (fun h9 => ?_)
      · (try simp only [decide_eq_true_eq, decide_eq_false_iff_not, Int.not_lt, Int.not_le] at h9)
        refine Sim.skip ?_
        refine andThen_normal ?_
        refine Sim.seq ?_
        refine Sim.block ?_
        refine Sim.seq ?_
        refine Sim.reg (orcs := [(0, ⟨none, none, some (stepT (l.getD i default)), none⟩)]) (keys := [1, 2, 11, 12, 14, 32, 33, 34]) (τ := [(232, 232)]) (nx := 248)
          (sl := [(1, .t (.sc (.int .i64 x))), (2, .t (.sc (.bool r))), (11, .t (.sc (.int .i64 fr))), (12, .t (.sc (.int .i64 to))), (14, .ptr 232 0), (32, .t (.lst 2 (List.map stepT l))), (33, .t (.sc (.int .i64 (l.length : Int)))), (34, .t (.sc (.int .i64 (i : Int))))]) (l := [(232, .box [.t (.sc (.int .i64 (((l.getD i default)).kind))), .t (.sc (.int .i64 (((l.getD i default)).n)))])])
          (C := [(0:Int) ≤ (i : Int), (List.map stepT l)[i]? = some (stepT (l.getD i default))]) (by kernel_rfl) ?_ ?_
        · -- region 10
          refine ⟨?_, (elt_nat ?_), trivial⟩
          all_goals (first | omega | with_reducible exact fun h => h | (intro hg hq; rw [hg, hq]; rfl) | (intro hq; rw [hq]; done) | (intro hq; rw [hq]; rfl) | ((try intro hg); (try simp [-List.getD_eq_getElem?_getD] at hg); (try simp only [List.length_map]); first | done | omega | rfl | (simp; done) | (simp; omega) | (simp [hg]; done) | (intro hq; simp [hg, hq]; done) | (intro hq; simp [hg, hq]; omega)))
        refine andThen_normal ?_
        refine Sim.seq ?_
        refine Sim.block ?_
        refine Sim.seq ?_
        refine Sim.seq ?_
        have hst := lens_step (l := l) (i := i) (by omega) hv.1
        have hd := drop_ats (l := l) (i := i) (by omega)
        refine Sim.reg (orcs := []) (keys := [1, 2, 11, 12, 14, 32, 33, 34, 38]) (τ := [(232, 232)]) (nx := 320)
          (sl := [(1, .t (.sc (.int .i64 x))), (2, .t (.sc (.bool r))), (11, .t (.sc (.int .i64 fr))), (12, .t (.sc (.int .i64 to))), (14, .ptr 232 0), (32, .t (.lst 2 (List.map stepT l))), (33, .t (.sc (.int .i64 (l.length : Int)))), (34, .t (.sc (.int .i64 (i : Int)))), (38, .t (.sc (.bool (((((l.getD i default)).kind) == 1) && decide (fr < x)))))]) (l := [(232, .box [.t (.sc (.int .i64 (((l.getD i default)).kind))), .t (.sc (.int .i64 (((l.getD i default)).n)))])])
          (C := [((((l.getD i default)).kind) == 1) = true → ((((l.getD i default)).kind) == 1) = true, ((((l.getD i default)).kind) == 1) = true → ((((l.getD i default)).kind) == 1) = true, ((((l.getD i default)).kind) == 1) = true → ((((l.getD i default)).kind) == 1) = true]) (by kernel_rfl) ?_ ?_
        · -- region 11
          refine ⟨?_, ?_, ?_, trivial⟩
          all_goals (first | omega | with_reducible exact fun h => h | (intro hg hq; rw [hg, hq]; rfl) | (intro hq; rw [hq]; done) | (intro hq; rw [hq]; rfl) | ((try intro hg); (try simp [-List.getD_eq_getElem?_getD] at hg); (try simp only [List.length_map]); first | done | omega | rfl | (simp; done) | (simp; omega) | (simp [hg]; done) | (intro hq; simp [hg, hq]; done) | (intro hq; simp [hg, hq]; omega)))
        refine andThen_normal ?_
        refine Sim.cond (b := (((((l.getD i default)).kind) == 1) && decide (fr < x))) (by kernel_rfl) (fun h11 => ?_) (fun h11 => ?_)
        · (try simp only [decide_eq_true_eq, decide_eq_false_iff_not, Int.not_lt, Int.not_le, Bool.and_eq_true, Bool.and_eq_false_iff, Bool.not_eq_true', Bool.not_eq_false', beq_iff_eq, beq_eq_false_iff_ne, ne_eq] at h11)
          refine Sim.skip ?_
          refine andThen_normal ?_
          refine Sim.cond (b := (((((l.getD i default)).kind) == 1) && decide (fr < x))) (by kernel_rfl) (fun h11 => ?_) (fun h11 => ?_)
          · (try simp only [decide_eq_true_eq, decide_eq_false_iff_not, Int.not_lt, Int.not_le, Bool.and_eq_true, Bool.and_eq_false_iff, Bool.not_eq_true', Bool.not_eq_false', beq_iff_eq, beq_eq_false_iff_ne, ne_eq] at h11)
            refine Sim.reg (orcs := [(3, ⟨some (.t (.sc (.int .i64 (to + (((l.getD i default)).n))))), none, none, none⟩)]) (keys := [1, 2, 11, 12, 14, 32, 33, 34]) (τ := [(232, 232)]) (nx := 360)
              (sl := [(1, .t (.sc (.int .i64 x))), (2, .t (.sc (.bool r))), (11, .t (.sc (.int .i64 fr))), (12, .t (.sc (.int .i64 (to + (((l.getD i default)).n))))), (14, .ptr 232 0), (32, .t (.lst 2 (List.map stepT l))), (33, .t (.sc (.int .i64 (l.length : Int)))), (34, .t (.sc (.int .i64 (i : Int))))]) (l := [(232, .box [.t (.sc (.int .i64 (((l.getD i default)).kind))), .t (.sc (.int .i64 (((l.getD i default)).n)))])])
              (C := [AVal.t (.sc (.int .i64 (to + (((l.getD i default)).n)))) = .t (.sc (.int .i64 (IntKind.i64.wrap (to + (((l.getD i default)).n)))))]) (by kernel_rfl) ?_ ?_
            · -- region 13
              refine ⟨(nw ?_), trivial⟩
              all_goals (first | omega | with_reducible exact fun h => h | (intro hg hq; rw [hg, hq]; rfl) | (intro hq; rw [hq]; done) | (intro hq; rw [hq]; rfl) | ((try intro hg); (try simp [-List.getD_eq_getElem?_getD] at hg); (try simp only [List.length_map]); first | done | omega | rfl | (simp; done) | (simp; omega) | (simp [hg]; done) | (intro hq; simp [hg, hq]; done) | (intro hq; simp [hg, hq]; omega)))
            refine inBlk_normal ?_
            refine andThen_normal ?_
            refine Sim.seq ?_
            refine Sim.reg (orcs := []) (keys := [1, 2, 11, 12, 14, 32, 33, 34, 77]) (τ := [(232, 232)]) (nx := 384)
              (sl := [(1, .t (.sc (.int .i64 x))), (2, .t (.sc (.bool r))), (11, .t (.sc (.int .i64 fr))), (12, .t (.sc (.int .i64 (to + (((l.getD i default)).n))))), (14, .ptr 232 0), (32, .t (.lst 2 (List.map stepT l))), (33, .t (.sc (.int .i64 (l.length : Int)))), (34, .t (.sc (.int .i64 (i : Int)))), (77, .t (.sc (.bool ((((l.getD i default)).kind) != 1))))]) (l := [(232, .box [.t (.sc (.int .i64 (((l.getD i default)).kind))), .t (.sc (.int .i64 (((l.getD i default)).n)))])])
              (C := []) (by kernel_rfl) ?_ ?_
            · -- region 16
              trivial
            refine andThen_normal ?_
            refine Sim.cond (b := ((((l.getD i default)).kind) != 1)) (by kernel_rfl) (fun h16 => ?_) (fun h16 => ?_)
            · (try simp only [bne_iff_ne, bne_eq_false_iff_eq, ne_eq] at h16)
              refine Sim.reg (orcs := [(3, ⟨some (.t (.sc (.int .i64 (fr + (((l.getD i default)).n))))), none, none, none⟩)]) (keys := [1, 2, 11, 12, 32, 33, 34]) (τ := []) (nx := 424)
                (sl := [(1, .t (.sc (.int .i64 x))), (2, .t (.sc (.bool r))), (11, .t (.sc (.int .i64 (fr + (((l.getD i default)).n))))), (12, .t (.sc (.int .i64 (to + (((l.getD i default)).n))))), (32, .t (.lst 2 (List.map stepT l))), (33, .t (.sc (.int .i64 (l.length : Int)))), (34, .t (.sc (.int .i64 (i : Int))))]) (l := [])
                (C := [AVal.t (.sc (.int .i64 (fr + (((l.getD i default)).n)))) = .t (.sc (.int .i64 (IntKind.i64.wrap (fr + (((l.getD i default)).n)))))]) (by kernel_rfl) ?_ ?_
              · -- region 17
                refine ⟨(nw ?_), trivial⟩
                all_goals (first | omega | with_reducible exact fun h => h | (intro hg hq; rw [hg, hq]; rfl) | (intro hq; rw [hq]; done) | (intro hq; rw [hq]; rfl) | ((try intro hg); (try simp [-List.getD_eq_getElem?_getD] at hg); (try simp only [List.length_map]); first | done | omega | rfl | (simp; done) | (simp; omega) | (simp [hg]; done) | (intro hq; simp [hg, hq]; done) | (intro hq; simp [hg, hq]; omega)))
              refine inBlk_normal ?_
              refine andThen_normal ?_
              refine Sim.reg (orcs := [(0, ⟨some (.t (.sc (.int .i64 ((i : Int) + 1)))), none, none, none⟩)]) (keys := [1, 2, 11, 12, 32, 33, 34]) (τ := []) (nx := 440)
                (sl := [(1, .t (.sc (.int .i64 x))), (2, .t (.sc (.bool r))), (11, .t (.sc (.int .i64 (fr + (((l.getD i default)).n))))), (12, .t (.sc (.int .i64 (to + (((l.getD i default)).n))))), (32, .t (.lst 2 (List.map stepT l))), (33, .t (.sc (.int .i64 (l.length : Int)))), (34, .t (.sc (.int .i64 ((i : Int) + 1))))]) (l := [])
                (C := [AVal.t (.sc (.int .i64 ((i : Int) + 1))) = .t (.sc (.int .i64 (IntKind.i64.wrap ((i : Int) + 1))))]) (by kernel_rfl) ?_ ?_
              · -- region 18
                refine ⟨(nw ?_), trivial⟩
                all_goals (first | omega | with_reducible exact fun h => h | (intro hg hq; rw [hg, hq]; rfl) | (intro hq; rw [hq]; done) | (intro hq; rw [hq]; rfl) | ((try intro hg); (try simp [-List.getD_eq_getElem?_getD] at hg); (try simp only [List.length_map]); first | done | omega | rfl | (simp; done) | (simp; omega) | (simp [hg]; done) | (intro hq; simp [hg, hq]; done) | (intro hq; simp [hg, hq]; omega)))
              refine andThen_normal ?_
              refine LoopSim.weaken (Le.ren (τ := []) (keys := [1, 2, 11, 12, 32, 33, 34]) (nx := 208) (sl := [(1, .t (.sc (.int .i64 x))), (2, .t (.sc (.bool r))), (11, .t (.sc (.int .i64 (fr + (((l.getD i default)).n))))), (12, .t (.sc (.int .i64 (to + (((l.getD i default)).n))))), (32, .t (.lst 2 (List.map stepT l))), (33, .t (.sc (.int .i64 (l.length : Int)))), (34, .t (.sc (.int .i64 (((i + 1) : Nat) : Int))))]) (l := []) (by kernel_rfl)) ?_
              refine ih9 ((fr + (((l.getD i default)).n)), (to + (((l.getD i default)).n)), (i + 1)) ?_ ?_
              · -- back 9.1, invariant
                obtain ⟨s1, s2, s3, s4, s5⟩ := hst
                (first | rw [if_pos (by omega)] at s1 | rw [if_neg (by omega)] at s1)
                (first | rw [if_pos (by omega)] at s2 | rw [if_neg (by omega)] at s2)
                refine ⟨by omega, by omega, by omega, by omega, by omega, ?_⟩
                rw [I9.2.2.2.2.2, hd, gapS]
                congr 1 <;> ((repeat' split) <;> first | rfl | omega | (exfalso; rename_i q; rcases q with ⟨_, q | ⟨q, q2⟩⟩; omega; rcases h12 with (h | h) | h; omega; omega; rw [q2] at h; cases h) | (simp_all; done) | (simp_all; omega))
              · -- back 9.1, measure
                show (_:Nat) < _; (first | omega | with_reducible exact fun h => h | (intro hq; rw [hq]; done) | (intro hq; rw [hq]; rfl) | (simp only [List.length_map]; done) | (simp only [List.length_map]; omega) | (simp; omega) | (simp; done))
            · (try simp only [bne_iff_ne, bne_eq_false_iff_eq, ne_eq] at h16)
              refine Sim.skip ?_
              refine inBlk_normal ?_
              refine andThen_normal ?_
              refine Sim.reg (orcs := [(0, ⟨some (.t (.sc (.int .i64 ((i : Int) + 1)))), none, none, none⟩)]) (keys := [1, 2, 11, 12, 32, 33, 34]) (τ := []) (nx := 400)
                (sl := [(1, .t (.sc (.int .i64 x))), (2, .t (.sc (.bool r))), (11, .t (.sc (.int .i64 fr))), (12, .t (.sc (.int .i64 (to + (((l.getD i default)).n))))), (32, .t (.lst 2 (List.map stepT l))), (33, .t (.sc (.int .i64 (l.length : Int)))), (34, .t (.sc (.int .i64 ((i : Int) + 1))))]) (l := [])
                (C := [AVal.t (.sc (.int .i64 ((i : Int) + 1))) = .t (.sc (.int .i64 (IntKind.i64.wrap ((i : Int) + 1))))]) (by kernel_rfl) ?_ ?_
              · -- region 18
                refine ⟨(nw ?_), trivial⟩
                all_goals (first | omega | with_reducible exact fun h => h | (intro hg hq; rw [hg, hq]; rfl) | (intro hq; rw [hq]; done) | (intro hq; rw [hq]; rfl) | ((try intro hg); (try simp [-List.getD_eq_getElem?_getD] at hg); (try simp only [List.length_map]); first | done | omega | rfl | (simp; done) | (simp; omega) | (simp [hg]; done) | (intro hq; simp [hg, hq]; done) | (intro hq; simp [hg, hq]; omega)))
              refine andThen_normal ?_
              refine LoopSim.weaken (Le.ren (τ := []) (keys := [1, 2, 11, 12, 32, 33, 34]) (nx := 208) (sl := [(1, .t (.sc (.int .i64 x))), (2, .t (.sc (.bool r))), (11, .t (.sc (.int .i64 fr))), (12, .t (.sc (.int .i64 (to + (((l.getD i default)).n))))), (32, .t (.lst 2 (List.map stepT l))), (33, .t (.sc (.int .i64 (l.length : Int)))), (34, .t (.sc (.int .i64 (((i + 1) : Nat) : Int))))]) (l := []) (by kernel_rfl)) ?_
              refine ih9 (fr, (to + (((l.getD i default)).n)), (i + 1)) ?_ ?_
              · -- back 9.2, invariant
                obtain ⟨s1, s2, s3, s4, s5⟩ := hst
                (first | rw [if_pos (by omega)] at s1 | rw [if_neg (by omega)] at s1)
                (first | rw [if_pos (by omega)] at s2 | rw [if_neg (by omega)] at s2)
                refine ⟨by omega, by omega, by omega, by omega, by omega, ?_⟩
                rw [I9.2.2.2.2.2, hd, gapS]
                congr 1 <;> ((repeat' split) <;> first | rfl | omega | (exfalso; rename_i q; rcases q with ⟨_, q | ⟨q, q2⟩⟩; omega; rcases h12 with (h | h) | h; omega; omega; rw [q2] at h; cases h) | (simp_all; done) | (simp_all; omega))
              · -- back 9.2, measure
                show (_:Nat) < _; (first | omega | with_reducible exact fun h => h | (intro hq; rw [hq]; done) | (intro hq; rw [hq]; rfl) | (simp only [List.length_map]; done) | (simp only [List.length_map]; omega) | (simp; omega) | (simp; done))
          · (try simp only [decide_eq_true_eq, decide_eq_false_iff_not, Int.not_lt, Int.not_le, Bool.and_eq_true, Bool.and_eq_false_iff, Bool.not_eq_true', Bool.not_eq_false', beq_iff_eq, beq_eq_false_iff_ne, ne_eq] at h11)
            refine Sim.seq ?_
            refine Sim.reg (orcs := []) (keys := [1, 2, 11, 12, 14, 32, 33, 34, 62]) (τ := [(232, 232)]) (nx := 352)
              (sl := [(1, .t (.sc (.int .i64 x))), (2, .t (.sc (.bool r))), (11, .t (.sc (.int .i64 fr))), (12, .t (.sc (.int .i64 to))), (14, .ptr 232 0), (32, .t (.lst 2 (List.map stepT l))), (33, .t (.sc (.int .i64 (l.length : Int)))), (34, .t (.sc (.int .i64 (i : Int)))), (62, .t (.sc (.bool ((((l.getD i default)).kind) == 0))))]) (l := [(232, .box [.t (.sc (.int .i64 (((l.getD i default)).kind))), .t (.sc (.int .i64 (((l.getD i default)).n)))])])
              (C := []) (by kernel_rfl) ?_ ?_
            · -- region 14
              trivial
            refine andThen_normal ?_
            refine Sim.cond (b := ((((l.getD i default)).kind) == 0)) (by kernel_rfl) (fun h14 => ?_) (fun h14 => ?_)
            · (try simp only [beq_iff_eq, beq_eq_false_iff_ne, ne_eq] at h14)
              refine Sim.reg (orcs := [(5, ⟨some (.t (.sc (.int .i64 (x - fr)))), none, none, none⟩), (6, ⟨some (.t (.sc (.int .i64 (max 0 (x - fr))))), none, none, none⟩), (7, ⟨some (.t (.sc (.int .i64 (min (((l.getD i default)).n) (max 0 (x - fr)))))), none, none, none⟩), (8, ⟨some (.t (.sc (.int .i64 (to + (min (((l.getD i default)).n) (max 0 (x - fr))))))), none, none, none⟩)]) (keys := [1, 2, 11, 12, 14, 32, 33, 34]) (τ := [(232, 232)]) (nx := 432)
                (sl := [(1, .t (.sc (.int .i64 x))), (2, .t (.sc (.bool r))), (11, .t (.sc (.int .i64 fr))), (12, .t (.sc (.int .i64 (to + (min (((l.getD i default)).n) (max 0 (x - fr))))))), (14, .ptr 232 0), (32, .t (.lst 2 (List.map stepT l))), (33, .t (.sc (.int .i64 (l.length : Int)))), (34, .t (.sc (.int .i64 (i : Int))))]) (l := [(232, .box [.t (.sc (.int .i64 (((l.getD i default)).kind))), .t (.sc (.int .i64 (((l.getD i default)).n)))])])
                (C := [AVal.t (.sc (.int .i64 (x - fr))) = .t (.sc (.int .i64 (IntKind.i64.wrap (x - fr)))), AVal.t (.sc (.int .i64 (max 0 (x - fr)))) = .t (.sc (.int .i64 (if (x - fr) > 0 then (x - fr) else 0))), AVal.t (.sc (.int .i64 (min (((l.getD i default)).n) (max 0 (x - fr))))) = .t (.sc (.int .i64 (if (max 0 (x - fr)) < (((l.getD i default)).n) then (max 0 (x - fr)) else (((l.getD i default)).n)))), AVal.t (.sc (.int .i64 (to + (min (((l.getD i default)).n) (max 0 (x - fr)))))) = .t (.sc (.int .i64 (IntKind.i64.wrap (to + (min (((l.getD i default)).n) (max 0 (x - fr)))))))]) (by kernel_rfl) ?_ ?_
              · -- region 15
                refine ⟨(nw ?_), max_if, min_if, (nw ?_), trivial⟩
                all_goals (first | omega | with_reducible exact fun h => h | (intro hg hq; rw [hg, hq]; rfl) | (intro hq; rw [hq]; done) | (intro hq; rw [hq]; rfl) | ((try intro hg); (try simp [-List.getD_eq_getElem?_getD] at hg); (try simp only [List.length_map]); first | done | omega | rfl | (simp; done) | (simp; omega) | (simp [hg]; done) | (intro hq; simp [hg, hq]; done) | (intro hq; simp [hg, hq]; omega)))
              refine inBlk_normal ?_
              refine andThen_normal ?_
              refine Sim.seq ?_
              refine Sim.reg (orcs := []) (keys := [1, 2, 11, 12, 14, 32, 33, 34, 77]) (τ := [(232, 232)]) (nx := 456)
                (sl := [(1, .t (.sc (.int .i64 x))), (2, .t (.sc (.bool r))), (11, .t (.sc (.int .i64 fr))), (12, .t (.sc (.int .i64 (to + (min (((l.getD i default)).n) (max 0 (x - fr))))))), (14, .ptr 232 0), (32, .t (.lst 2 (List.map stepT l))), (33, .t (.sc (.int .i64 (l.length : Int)))), (34, .t (.sc (.int .i64 (i : Int)))), (77, .t (.sc (.bool ((((l.getD i default)).kind) != 1))))]) (l := [(232, .box [.t (.sc (.int .i64 (((l.getD i default)).kind))), .t (.sc (.int .i64 (((l.getD i default)).n)))])])
                (C := []) (by kernel_rfl) ?_ ?_
              · -- region 16
                trivial
              refine andThen_normal ?_
              refine Sim.cond (b := ((((l.getD i default)).kind) != 1)) (by kernel_rfl) (fun h16 => ?_) (fun h16 => ?_)
              · (try simp only [bne_iff_ne, bne_eq_false_iff_eq, ne_eq] at h16)
                refine Sim.reg (orcs := [(3, ⟨some (.t (.sc (.int .i64 (fr + (((l.getD i default)).n))))), none, none, none⟩)]) (keys := [1, 2, 11, 12, 32, 33, 34]) (τ := []) (nx := 496)
                  (sl := [(1, .t (.sc (.int .i64 x))), (2, .t (.sc (.bool r))), (11, .t (.sc (.int .i64 (fr + (((l.getD i default)).n))))), (12, .t (.sc (.int .i64 (to + (min (((l.getD i default)).n) (max 0 (x - fr))))))), (32, .t (.lst 2 (List.map stepT l))), (33, .t (.sc (.int .i64 (l.length : Int)))), (34, .t (.sc (.int .i64 (i : Int))))]) (l := [])
                  (C := [AVal.t (.sc (.int .i64 (fr + (((l.getD i default)).n)))) = .t (.sc (.int .i64 (IntKind.i64.wrap (fr + (((l.getD i default)).n)))))]) (by kernel_rfl) ?_ ?_
                · -- region 17
                  refine ⟨(nw ?_), trivial⟩
                  all_goals (first | omega | with_reducible exact fun h => h | (intro hg hq; rw [hg, hq]; rfl) | (intro hq; rw [hq]; done) | (intro hq; rw [hq]; rfl) | ((try intro hg); (try simp [-List.getD_eq_getElem?_getD] at hg); (try simp only [List.length_map]); first | done | omega | rfl | (simp; done) | (simp; omega) | (simp [hg]; done) | (intro hq; simp [hg, hq]; done) | (intro hq; simp [hg, hq]; omega)))
                refine inBlk_normal ?_
                refine andThen_normal ?_
                refine Sim.reg (orcs := [(0, ⟨some (.t (.sc (.int .i64 ((i : Int) + 1)))), none, none, none⟩)]) (keys := [1, 2, 11, 12, 32, 33, 34]) (τ := []) (nx := 512)
                  (sl := [(1, .t (.sc (.int .i64 x))), (2, .t (.sc (.bool r))), (11, .t (.sc (.int .i64 (fr + (((l.getD i default)).n))))), (12, .t (.sc (.int .i64 (to + (min (((l.getD i default)).n) (max 0 (x - fr))))))), (32, .t (.lst 2 (List.map stepT l))), (33, .t (.sc (.int .i64 (l.length : Int)))), (34, .t (.sc (.int .i64 ((i : Int) + 1))))]) (l := [])
                  (C := [AVal.t (.sc (.int .i64 ((i : Int) + 1))) = .t (.sc (.int .i64 (IntKind.i64.wrap ((i : Int) + 1))))]) (by kernel_rfl) ?_ ?_
                · -- region 18
                  refine ⟨(nw ?_), trivial⟩
                  all_goals (first | omega | with_reducible exact fun h => h | (intro hg hq; rw [hg, hq]; rfl) | (intro hq; rw [hq]; done) | (intro hq; rw [hq]; rfl) | ((try intro hg); (try simp [-List.getD_eq_getElem?_getD] at hg); (try simp only [List.length_map]); first | done | omega | rfl | (simp; done) | (simp; omega) | (simp [hg]; done) | (intro hq; simp [hg, hq]; done) | (intro hq; simp [hg, hq]; omega)))
                refine andThen_normal ?_
                refine LoopSim.weaken (Le.ren (τ := []) (keys := [1, 2, 11, 12, 32, 33, 34]) (nx := 208) (sl := [(1, .t (.sc (.int .i64 x))), (2, .t (.sc (.bool r))), (11, .t (.sc (.int .i64 (fr + (((l.getD i default)).n))))), (12, .t (.sc (.int .i64 (to + (min (((l.getD i default)).n) (max 0 (x - fr))))))), (32, .t (.lst 2 (List.map stepT l))), (33, .t (.sc (.int .i64 (l.length : Int)))), (34, .t (.sc (.int .i64 (((i + 1) : Nat) : Int))))]) (l := []) (by kernel_rfl)) ?_
                refine ih9 ((fr + (((l.getD i default)).n)), (to + (min (((l.getD i default)).n) (max 0 (x - fr)))), (i + 1)) ?_ ?_
                · -- back 9.3, invariant
                  obtain ⟨s1, s2, s3, s4, s5⟩ := hst
                  (first | rw [if_pos (by omega)] at s1 | rw [if_neg (by omega)] at s1)
                  (first | rw [if_pos (by omega)] at s2 | rw [if_neg (by omega)] at s2)
                  refine ⟨by omega, by omega, by omega, by omega, by omega, ?_⟩
                  rw [I9.2.2.2.2.2, hd, gapS]
                  congr 1 <;> ((repeat' split) <;> first | rfl | omega | (exfalso; rename_i q; rcases q with ⟨_, q | ⟨q, q2⟩⟩; omega; rcases h12 with (h | h) | h; omega; omega; rw [q2] at h; cases h) | (simp_all; done) | (simp_all; omega))
                · -- back 9.3, measure
                  show (_:Nat) < _; (first | omega | with_reducible exact fun h => h | (intro hq; rw [hq]; done) | (intro hq; rw [hq]; rfl) | (simp only [List.length_map]; done) | (simp only [List.length_map]; omega) | (simp; omega) | (simp; done))
              · (try simp only [bne_iff_ne, bne_eq_false_iff_eq, ne_eq] at h16)
                refine Sim.skip ?_
                refine inBlk_normal ?_
                refine andThen_normal ?_
                refine Sim.reg (orcs := [(0, ⟨some (.t (.sc (.int .i64 ((i : Int) + 1)))), none, none, none⟩)]) (keys := [1, 2, 11, 12, 32, 33, 34]) (τ := []) (nx := 472)
                  (sl := [(1, .t (.sc (.int .i64 x))), (2, .t (.sc (.bool r))), (11, .t (.sc (.int .i64 fr))), (12, .t (.sc (.int .i64 (to + (min (((l.getD i default)).n) (max 0 (x - fr))))))), (32, .t (.lst 2 (List.map stepT l))), (33, .t (.sc (.int .i64 (l.length : Int)))), (34, .t (.sc (.int .i64 ((i : Int) + 1))))]) (l := [])
                  (C := [AVal.t (.sc (.int .i64 ((i : Int) + 1))) = .t (.sc (.int .i64 (IntKind.i64.wrap ((i : Int) + 1))))]) (by kernel_rfl) ?_ ?_
                · -- region 18
                  refine ⟨(nw ?_), trivial⟩
                  all_goals (first | omega | with_reducible exact fun h => h | (intro hg hq; rw [hg, hq]; rfl) | (intro hq; rw [hq]; done) | (intro hq; rw [hq]; rfl) | ((try intro hg); (try simp [-List.getD_eq_getElem?_getD] at hg); (try simp only [List.length_map]); first | done | omega | rfl | (simp; done) | (simp; omega) | (simp [hg]; done) | (intro hq; simp [hg, hq]; done) | (intro hq; simp [hg, hq]; omega)))
                refine andThen_normal ?_
                refine LoopSim.weaken (Le.ren (τ := []) (keys := [1, 2, 11, 12, 32, 33, 34]) (nx := 208) (sl := [(1, .t (.sc (.int .i64 x))), (2, .t (.sc (.bool r))), (11, .t (.sc (.int .i64 fr))), (12, .t (.sc (.int .i64 (to + (min (((l.getD i default)).n) (max 0 (x - fr))))))), (32, .t (.lst 2 (List.map stepT l))), (33, .t (.sc (.int .i64 (l.length : Int)))), (34, .t (.sc (.int .i64 (((i + 1) : Nat) : Int))))]) (l := []) (by kernel_rfl)) ?_
                refine ih9 (fr, (to + (min (((l.getD i default)).n) (max 0 (x - fr)))), (i + 1)) ?_ ?_
                · -- back 9.4, invariant
                  obtain ⟨s1, s2, s3, s4, s5⟩ := hst
                  (first | rw [if_pos (by omega)] at s1 | rw [if_neg (by omega)] at s1)
                  (first | rw [if_pos (by omega)] at s2 | rw [if_neg (by omega)] at s2)
                  refine ⟨by omega, by omega, by omega, by omega, by omega, ?_⟩
                  rw [I9.2.2.2.2.2, hd, gapS]
                  congr 1 <;> ((repeat' split) <;> first | rfl | omega | (exfalso; rename_i q; rcases q with ⟨_, q | ⟨q, q2⟩⟩; omega; rcases h12 with (h | h) | h; omega; omega; rw [q2] at h; cases h) | (simp_all; done) | (simp_all; omega))
                · -- back 9.4, measure
                  show (_:Nat) < _; (first | omega | with_reducible exact fun h => h | (intro hq; rw [hq]; done) | (intro hq; rw [hq]; rfl) | (simp only [List.length_map]; done) | (simp only [List.length_map]; omega) | (simp; omega) | (simp; done))
            · (try simp only [beq_iff_eq, beq_eq_false_iff_ne, ne_eq] at h14)
              refine Sim.skip ?_
              refine inBlk_normal ?_
              refine andThen_normal ?_
              refine Sim.seq ?_
              refine Sim.reg (orcs := []) (keys := [1, 2, 11, 12, 14, 32, 33, 34, 77]) (τ := [(232, 232)]) (nx := 376)
                (sl := [(1, .t (.sc (.int .i64 x))), (2, .t (.sc (.bool r))), (11, .t (.sc (.int .i64 fr))), (12, .t (.sc (.int .i64 to))), (14, .ptr 232 0), (32, .t (.lst 2 (List.map stepT l))), (33, .t (.sc (.int .i64 (l.length : Int)))), (34, .t (.sc (.int .i64 (i : Int)))), (77, .t (.sc (.bool ((((l.getD i default)).kind) != 1))))]) (l := [(232, .box [.t (.sc (.int .i64 (((l.getD i default)).kind))), .t (.sc (.int .i64 (((l.getD i default)).n)))])])
                (C := []) (by kernel_rfl) ?_ ?_
              · -- region 16
                trivial
              refine andThen_normal ?_
              refine Sim.cond (b := ((((l.getD i default)).kind) != 1)) (by kernel_rfl) (fun h16 => ?_) (fun h16 => ?_)
              · (try simp only [bne_iff_ne, bne_eq_false_iff_eq, ne_eq] at h16)
                refine Sim.reg (orcs := [(3, ⟨some (.t (.sc (.int .i64 (fr + (((l.getD i default)).n))))), none, none, none⟩)]) (keys := [1, 2, 11, 12, 32, 33, 34]) (τ := []) (nx := 416)
                  (sl := [(1, .t (.sc (.int .i64 x))), (2, .t (.sc (.bool r))), (11, .t (.sc (.int .i64 (fr + (((l.getD i default)).n))))), (12, .t (.sc (.int .i64 to))), (32, .t (.lst 2 (List.map stepT l))), (33, .t (.sc (.int .i64 (l.length : Int)))), (34, .t (.sc (.int .i64 (i : Int))))]) (l := [])
                  (C := [AVal.t (.sc (.int .i64 (fr + (((l.getD i default)).n)))) = .t (.sc (.int .i64 (IntKind.i64.wrap (fr + (((l.getD i default)).n)))))]) (by kernel_rfl) ?_ ?_
                · -- region 17
                  refine ⟨(nw ?_), trivial⟩
                  all_goals (first | omega | with_reducible exact fun h => h | (intro hg hq; rw [hg, hq]; rfl) | (intro hq; rw [hq]; done) | (intro hq; rw [hq]; rfl) | ((try intro hg); (try simp [-List.getD_eq_getElem?_getD] at hg); (try simp only [List.length_map]); first | done | omega | rfl | (simp; done) | (simp; omega) | (simp [hg]; done) | (intro hq; simp [hg, hq]; done) | (intro hq; simp [hg, hq]; omega)))
                refine inBlk_normal ?_
                refine andThen_normal ?_
                refine Sim.reg (orcs := [(0, ⟨some (.t (.sc (.int .i64 ((i : Int) + 1)))), none, none, none⟩)]) (keys := [1, 2, 11, 12, 32, 33, 34]) (τ := []) (nx := 432)
                  (sl := [(1, .t (.sc (.int .i64 x))), (2, .t (.sc (.bool r))), (11, .t (.sc (.int .i64 (fr + (((l.getD i default)).n))))), (12, .t (.sc (.int .i64 to))), (32, .t (.lst 2 (List.map stepT l))), (33, .t (.sc (.int .i64 (l.length : Int)))), (34, .t (.sc (.int .i64 ((i : Int) + 1))))]) (l := [])
                  (C := [AVal.t (.sc (.int .i64 ((i : Int) + 1))) = .t (.sc (.int .i64 (IntKind.i64.wrap ((i : Int) + 1))))]) (by kernel_rfl) ?_ ?_
                · -- region 18
                  refine ⟨(nw ?_), trivial⟩
                  all_goals (first | omega | with_reducible exact fun h => h | (intro hg hq; rw [hg, hq]; rfl) | (intro hq; rw [hq]; done) | (intro hq; rw [hq]; rfl) | ((try intro hg); (try simp [-List.getD_eq_getElem?_getD] at hg); (try simp only [List.length_map]); first | done | omega | rfl | (simp; done) | (simp; omega) | (simp [hg]; done) | (intro hq; simp [hg, hq]; done) | (intro hq; simp [hg, hq]; omega)))
                refine andThen_normal ?_
                refine LoopSim.weaken (Le.ren (τ := []) (keys := [1, 2, 11, 12, 32, 33, 34]) (nx := 208) (sl := [(1, .t (.sc (.int .i64 x))), (2, .t (.sc (.bool r))), (11, .t (.sc (.int .i64 (fr + (((l.getD i default)).n))))), (12, .t (.sc (.int .i64 to))), (32, .t (.lst 2 (List.map stepT l))), (33, .t (.sc (.int .i64 (l.length : Int)))), (34, .t (.sc (.int .i64 (((i + 1) : Nat) : Int))))]) (l := []) (by kernel_rfl)) ?_
                refine ih9 ((fr + (((l.getD i default)).n)), to, (i + 1)) ?_ ?_
                · -- back 9.5, invariant
                  obtain ⟨s1, s2, s3, s4, s5⟩ := hst
                  (first | rw [if_pos (by omega)] at s1 | rw [if_neg (by omega)] at s1)
                  (first | rw [if_pos (by omega)] at s2 | rw [if_neg (by omega)] at s2)
                  refine ⟨by omega, by omega, by omega, by omega, by omega, ?_⟩
                  rw [I9.2.2.2.2.2, hd, gapS]
                  congr 1 <;> ((repeat' split) <;> first | rfl | omega | (exfalso; rename_i q; rcases q with ⟨_, q | ⟨q, q2⟩⟩; omega; rcases h12 with (h | h) | h; omega; omega; rw [q2] at h; cases h) | (simp_all; done) | (simp_all; omega))
                · -- back 9.5, measure
                  show (_:Nat) < _; (first | omega | with_reducible exact fun h => h | (intro hq; rw [hq]; done) | (intro hq; rw [hq]; rfl) | (simp only [List.length_map]; done) | (simp only [List.length_map]; omega) | (simp; omega) | (simp; done))
              · (try simp only [bne_iff_ne, bne_eq_false_iff_eq, ne_eq] at h16)
                refine Sim.skip ?_
                refine inBlk_normal ?_
                refine andThen_normal ?_
                refine Sim.reg (orcs := [(0, ⟨some (.t (.sc (.int .i64 ((i : Int) + 1)))), none, none, none⟩)]) (keys := [1, 2, 11, 12, 32, 33, 34]) (τ := []) (nx := 392)
                  (sl := [(1, .t (.sc (.int .i64 x))), (2, .t (.sc (.bool r))), (11, .t (.sc (.int .i64 fr))), (12, .t (.sc (.int .i64 to))), (32, .t (.lst 2 (List.map stepT l))), (33, .t (.sc (.int .i64 (l.length : Int)))), (34, .t (.sc (.int .i64 ((i : Int) + 1))))]) (l := [])
                  (C := [AVal.t (.sc (.int .i64 ((i : Int) + 1))) = .t (.sc (.int .i64 (IntKind.i64.wrap ((i : Int) + 1))))]) (by kernel_rfl) ?_ ?_
                · -- region 18
                  refine ⟨(nw ?_), trivial⟩
                  all_goals (first | omega | with_reducible exact fun h => h | (intro hg hq; rw [hg, hq]; rfl) | (intro hq; rw [hq]; done) | (intro hq; rw [hq]; rfl) | ((try intro hg); (try simp [-List.getD_eq_getElem?_getD] at hg); (try simp only [List.length_map]); first | done | omega | rfl | (simp; done) | (simp; omega) | (simp [hg]; done) | (intro hq; simp [hg, hq]; done) | (intro hq; simp [hg, hq]; omega)))
                refine andThen_normal ?_
                refine LoopSim.weaken (Le.ren (τ := []) (keys := [1, 2, 11, 12, 32, 33, 34]) (nx := 208) (sl := [(1, .t (.sc (.int .i64 x))), (2, .t (.sc (.bool r))), (11, .t (.sc (.int .i64 fr))), (12, .t (.sc (.int .i64 to))), (32, .t (.lst 2 (List.map stepT l))), (33, .t (.sc (.int .i64 (l.length : Int)))), (34, .t (.sc (.int .i64 (((i + 1) : Nat) : Int))))]) (l := []) (by kernel_rfl)) ?_
                refine ih9 (fr, to, (i + 1)) ?_ ?_
                · -- back 9.6, invariant
                  obtain ⟨s1, s2, s3, s4, s5⟩ := hst
                  (first | rw [if_pos (by omega)] at s1 | rw [if_neg (by omega)] at s1)
                  (first | rw [if_pos (by omega)] at s2 | rw [if_neg (by omega)] at s2)
                  refine ⟨by omega, by omega, by omega, by omega, by omega, ?_⟩
                  rw [I9.2.2.2.2.2, hd, gapS]
                  congr 1 <;> ((repeat' split) <;> first | rfl | omega | (exfalso; rename_i q; rcases q with ⟨_, q | ⟨q, q2⟩⟩; omega; rcases h12 with (h | h) | h; omega; omega; rw [q2] at h; cases h) | (simp_all; done) | (simp_all; omega))
                · -- back 9.6, measure
                  show (_:Nat) < _; (first | omega | with_reducible exact fun h => h | (intro hq; rw [hq]; done) | (intro hq; rw [hq]; rfl) | (simp only [List.length_map]; done) | (simp only [List.length_map]; omega) | (simp; omega) | (simp; done))
        · (try simp only [decide_eq_true_eq, decide_eq_false_iff_not, Int.not_lt, Int.not_le, Bool.and_eq_true, Bool.and_eq_false_iff, Bool.not_eq_true', Bool.not_eq_false', beq_iff_eq, beq_eq_false_iff_ne, ne_eq] at h11)
          refine Sim.reg (orcs := []) (keys := [1, 2, 11, 12, 14, 32, 33, 34, 38]) (τ := [(232, 232)]) (nx := 416)
            (sl := [(1, .t (.sc (.int .i64 x))), (2, .t (.sc (.bool r))), (11, .t (.sc (.int .i64 fr))), (12, .t (.sc (.int .i64 to))), (14, .ptr 232 0), (32, .t (.lst 2 (List.map stepT l))), (33, .t (.sc (.int .i64 (l.length : Int)))), (34, .t (.sc (.int .i64 (i : Int)))), (38, .t (.sc (.bool ((((((l.getD i default)).kind) == 1) && (fr == x)) && r))))]) (l := [(232, .box [.t (.sc (.int .i64 (((l.getD i default)).kind))), .t (.sc (.int .i64 (((l.getD i default)).n)))])])
            (C := [((((l.getD i default)).kind) == 1) = true → ((((l.getD i default)).kind) == 1) = true, ((((l.getD i default)).kind) == 1) = true → ((((l.getD i default)).kind) == 1) = true, ((((l.getD i default)).kind) == 1) = true → ((((l.getD i default)).kind) == 1) = true, (((((l.getD i default)).kind) == 1) && (fr == x)) = true → (((((l.getD i default)).kind) == 1) && (fr == x)) = true]) (by kernel_rfl) ?_ ?_
          · -- region 12
            refine ⟨?_, ?_, ?_, ?_, trivial⟩
            all_goals (first | omega | with_reducible exact fun h => h | (intro hg hq; rw [hg, hq]; rfl) | (intro hq; rw [hq]; done) | (intro hq; rw [hq]; rfl) | ((try intro hg); (try simp [-List.getD_eq_getElem?_getD] at hg); (try simp only [List.length_map]); first | done | omega | rfl | (simp; done) | (simp; omega) | (simp [hg]; done) | (intro hq; simp [hg, hq]; done) | (intro hq; simp [hg, hq]; omega)))
          refine andThen_normal ?_
          refine Sim.cond (b := ((((((l.getD i default)).kind) == 1) && (fr == x)) && r)) (by kernel_rfl) (fun h12 => ?_) (fun h12 => ?_)
          · (try simp only [Bool.and_eq_true, Bool.and_eq_false_iff, Bool.not_eq_true', Bool.not_eq_false', beq_iff_eq, beq_eq_false_iff_ne, ne_eq] at h12)
            refine Sim.reg (orcs := [(3, ⟨some (.t (.sc (.int .i64 (to + (((l.getD i default)).n))))), none, none, none⟩)]) (keys := [1, 2, 11, 12, 14, 32, 33, 34]) (τ := [(232, 232)]) (nx := 456)
              (sl := [(1, .t (.sc (.int .i64 x))), (2, .t (.sc (.bool r))), (11, .t (.sc (.int .i64 fr))), (12, .t (.sc (.int .i64 (to + (((l.getD i default)).n))))), (14, .ptr 232 0), (32, .t (.lst 2 (List.map stepT l))), (33, .t (.sc (.int .i64 (l.length : Int)))), (34, .t (.sc (.int .i64 (i : Int))))]) (l := [(232, .box [.t (.sc (.int .i64 (((l.getD i default)).kind))), .t (.sc (.int .i64 (((l.getD i default)).n)))])])
              (C := [AVal.t (.sc (.int .i64 (to + (((l.getD i default)).n)))) = .t (.sc (.int .i64 (IntKind.i64.wrap (to + (((l.getD i default)).n)))))]) (by kernel_rfl) ?_ ?_
            · -- region 13
              refine ⟨(nw ?_), trivial⟩
              all_goals (first | omega | with_reducible exact fun h => h | (intro hg hq; rw [hg, hq]; rfl) | (intro hq; rw [hq]; done) | (intro hq; rw [hq]; rfl) | ((try intro hg); (try simp [-List.getD_eq_getElem?_getD] at hg); (try simp only [List.length_map]); first | done | omega | rfl | (simp; done) | (simp; omega) | (simp [hg]; done) | (intro hq; simp [hg, hq]; done) | (intro hq; simp [hg, hq]; omega)))
            refine inBlk_normal ?_
            refine andThen_normal ?_
            refine Sim.seq ?_
            refine Sim.reg (orcs := []) (keys := [1, 2, 11, 12, 14, 32, 33, 34, 77]) (τ := [(232, 232)]) (nx := 480)
              (sl := [(1, .t (.sc (.int .i64 x))), (2, .t (.sc (.bool r))), (11, .t (.sc (.int .i64 fr))), (12, .t (.sc (.int .i64 (to + (((l.getD i default)).n))))), (14, .ptr 232 0), (32, .t (.lst 2 (List.map stepT l))), (33, .t (.sc (.int .i64 (l.length : Int)))), (34, .t (.sc (.int .i64 (i : Int)))), (77, .t (.sc (.bool ((((l.getD i default)).kind) != 1))))]) (l := [(232, .box [.t (.sc (.int .i64 (((l.getD i default)).kind))), .t (.sc (.int .i64 (((l.getD i default)).n)))])])
              (C := []) (by kernel_rfl) ?_ ?_
            · -- region 16
              trivial
            refine andThen_normal ?_
            refine Sim.cond (b := ((((l.getD i default)).kind) != 1)) (by kernel_rfl) (fun h16 => ?_) (fun h16 => ?_)
            · (try simp only [bne_iff_ne, bne_eq_false_iff_eq, ne_eq] at h16)
              refine Sim.reg (orcs := [(3, ⟨some (.t (.sc (.int .i64 (fr + (((l.getD i default)).n))))), none, none, none⟩)]) (keys := [1, 2, 11, 12, 32, 33, 34]) (τ := []) (nx := 520)
                (sl := [(1, .t (.sc (.int .i64 x))), (2, .t (.sc (.bool r))), (11, .t (.sc (.int .i64 (fr + (((l.getD i default)).n))))), (12, .t (.sc (.int .i64 (to + (((l.getD i default)).n))))), (32, .t (.lst 2 (List.map stepT l))), (33, .t (.sc (.int .i64 (l.length : Int)))), (34, .t (.sc (.int .i64 (i : Int))))]) (l := [])
                (C := [AVal.t (.sc (.int .i64 (fr + (((l.getD i default)).n)))) = .t (.sc (.int .i64 (IntKind.i64.wrap (fr + (((l.getD i default)).n)))))]) (by kernel_rfl) ?_ ?_
              · -- region 17
                refine ⟨(nw ?_), trivial⟩
                all_goals (first | omega | with_reducible exact fun h => h | (intro hg hq; rw [hg, hq]; rfl) | (intro hq; rw [hq]; done) | (intro hq; rw [hq]; rfl) | ((try intro hg); (try simp [-List.getD_eq_getElem?_getD] at hg); (try simp only [List.length_map]); first | done | omega | rfl | (simp; done) | (simp; omega) | (simp [hg]; done) | (intro hq; simp [hg, hq]; done) | (intro hq; simp [hg, hq]; omega)))
              refine inBlk_normal ?_
              refine andThen_normal ?_
              refine Sim.reg (orcs := [(0, ⟨some (.t (.sc (.int .i64 ((i : Int) + 1)))), none, none, none⟩)]) (keys := [1, 2, 11, 12, 32, 33, 34]) (τ := []) (nx := 536)
                (sl := [(1, .t (.sc (.int .i64 x))), (2, .t (.sc (.bool r))), (11, .t (.sc (.int .i64 (fr + (((l.getD i default)).n))))), (12, .t (.sc (.int .i64 (to + (((l.getD i default)).n))))), (32, .t (.lst 2 (List.map stepT l))), (33, .t (.sc (.int .i64 (l.length : Int)))), (34, .t (.sc (.int .i64 ((i : Int) + 1))))]) (l := [])
                (C := [AVal.t (.sc (.int .i64 ((i : Int) + 1))) = .t (.sc (.int .i64 (IntKind.i64.wrap ((i : Int) + 1))))]) (by kernel_rfl) ?_ ?_
              · -- region 18
                refine ⟨(nw ?_), trivial⟩
                all_goals (first | omega | with_reducible exact fun h => h | (intro hg hq; rw [hg, hq]; rfl) | (intro hq; rw [hq]; done) | (intro hq; rw [hq]; rfl) | ((try intro hg); (try simp [-List.getD_eq_getElem?_getD] at hg); (try simp only [List.length_map]); first | done | omega | rfl | (simp; done) | (simp; omega) | (simp [hg]; done) | (intro hq; simp [hg, hq]; done) | (intro hq; simp [hg, hq]; omega)))
              refine andThen_normal ?_
              refine LoopSim.weaken (Le.ren (τ := []) (keys := [1, 2, 11, 12, 32, 33, 34]) (nx := 208) (sl := [(1, .t (.sc (.int .i64 x))), (2, .t (.sc (.bool r))), (11, .t (.sc (.int .i64 (fr + (((l.getD i default)).n))))), (12, .t (.sc (.int .i64 (to + (((l.getD i default)).n))))), (32, .t (.lst 2 (List.map stepT l))), (33, .t (.sc (.int .i64 (l.length : Int)))), (34, .t (.sc (.int .i64 (((i + 1) : Nat) : Int))))]) (l := []) (by kernel_rfl)) ?_
              refine ih9 ((fr + (((l.getD i default)).n)), (to + (((l.getD i default)).n)), (i + 1)) ?_ ?_
              · -- back 9.7, invariant
                obtain ⟨s1, s2, s3, s4, s5⟩ := hst
                (first | rw [if_pos (by omega)] at s1 | rw [if_neg (by omega)] at s1)
                (first | rw [if_pos (by omega)] at s2 | rw [if_neg (by omega)] at s2)
                refine ⟨by omega, by omega, by omega, by omega, by omega, ?_⟩
                rw [I9.2.2.2.2.2, hd, gapS]
                congr 1 <;> ((repeat' split) <;> first | rfl | omega | (exfalso; rename_i q; rcases q with ⟨_, q | ⟨q, q2⟩⟩; omega; rcases h12 with (h | h) | h; omega; omega; rw [q2] at h; cases h) | (simp_all; done) | (simp_all; omega))
              · -- back 9.7, measure
                show (_:Nat) < _; (first | omega | with_reducible exact fun h => h | (intro hq; rw [hq]; done) | (intro hq; rw [hq]; rfl) | (simp only [List.length_map]; done) | (simp only [List.length_map]; omega) | (simp; omega) | (simp; done))
            · (try simp only [bne_iff_ne, bne_eq_false_iff_eq, ne_eq] at h16)
              refine Sim.skip ?_
              refine inBlk_normal ?_
              refine andThen_normal ?_
              refine Sim.reg (orcs := [(0, ⟨some (.t (.sc (.int .i64 ((i : Int) + 1)))), none, none, none⟩)]) (keys := [1, 2, 11, 12, 32, 33, 34]) (τ := []) (nx := 496)
                (sl := [(1, .t (.sc (.int .i64 x))), (2, .t (.sc (.bool r))), (11, .t (.sc (.int .i64 fr))), (12, .t (.sc (.int .i64 (to + (((l.getD i default)).n))))), (32, .t (.lst 2 (List.map stepT l))), (33, .t (.sc (.int .i64 (l.length : Int)))), (34, .t (.sc (.int .i64 ((i : Int) + 1))))]) (l := [])
                (C := [AVal.t (.sc (.int .i64 ((i : Int) + 1))) = .t (.sc (.int .i64 (IntKind.i64.wrap ((i : Int) + 1))))]) (by kernel_rfl) ?_ ?_
              · -- region 18
                refine ⟨(nw ?_), trivial⟩
                all_goals (first | omega | with_reducible exact fun h => h | (intro hg hq; rw [hg, hq]; rfl) | (intro hq; rw [hq]; done) | (intro hq; rw [hq]; rfl) | ((try intro hg); (try simp [-List.getD_eq_getElem?_getD] at hg); (try simp only [List.length_map]); first | done | omega | rfl | (simp; done) | (simp; omega) | (simp [hg]; done) | (intro hq; simp [hg, hq]; done) | (intro hq; simp [hg, hq]; omega)))
              refine andThen_normal ?_
              refine LoopSim.weaken (Le.ren (τ := []) (keys := [1, 2, 11, 12, 32, 33, 34]) (nx := 208) (sl := [(1, .t (.sc (.int .i64 x))), (2, .t (.sc (.bool r))), (11, .t (.sc (.int .i64 fr))), (12, .t (.sc (.int .i64 (to + (((l.getD i default)).n))))), (32, .t (.lst 2 (List.map stepT l))), (33, .t (.sc (.int .i64 (l.length : Int)))), (34, .t (.sc (.int .i64 (((i + 1) : Nat) : Int))))]) (l := []) (by kernel_rfl)) ?_
              refine ih9 (fr, (to + (((l.getD i default)).n)), (i + 1)) ?_ ?_
              · -- back 9.8, invariant
                obtain ⟨s1, s2, s3, s4, s5⟩ := hst
                (first | rw [if_pos (by omega)] at s1 | rw [if_neg (by omega)] at s1)
                (first | rw [if_pos (by omega)] at s2 | rw [if_neg (by omega)] at s2)
                refine ⟨by omega, by omega, by omega, by omega, by omega, ?_⟩
                rw [I9.2.2.2.2.2, hd, gapS]
                congr 1 <;> ((repeat' split) <;> first | rfl | omega | (exfalso; rename_i q; rcases q with ⟨_, q | ⟨q, q2⟩⟩; omega; rcases h12 with (h | h) | h; omega; omega; rw [q2] at h; cases h) | (simp_all; done) | (simp_all; omega))
              · -- back 9.8, measure
                show (_:Nat) < _; (first | omega | with_reducible exact fun h => h | (intro hq; rw [hq]; done) | (intro hq; rw [hq]; rfl) | (simp only [List.length_map]; done) | (simp only [List.length_map]; omega) | (simp; omega) | (simp; done))
          · (try simp only [Bool.and_eq_true, Bool.and_eq_false_iff, Bool.not_eq_true', Bool.not_eq_false', beq_iff_eq, beq_eq_false_iff_ne, ne_eq] at h12)
            refine Sim.seq ?_
            refine Sim.reg (orcs := []) (keys := [1, 2, 11, 12, 14, 32, 33, 34, 62]) (τ := [(232, 232)]) (nx := 448)
              (sl := [(1, .t (.sc (.int .i64 x))), (2, .t (.sc (.bool r))), (11, .t (.sc (.int .i64 fr))), (12, .t (.sc (.int .i64 to))), (14, .ptr 232 0), (32, .t (.lst 2 (List.map stepT l))), (33, .t (.sc (.int .i64 (l.length : Int)))), (34, .t (.sc (.int .i64 (i : Int)))), (62, .t (.sc (.bool ((((l.getD i default)).kind) == 0))))]) (l := [(232, .box [.t (.sc (.int .i64 (((l.getD i default)).kind))), .t (.sc (.int .i64 (((l.getD i default)).n)))])])
              (C := []) (by kernel_rfl) ?_ ?_
            · -- region 14
              trivial
            refine andThen_normal ?_
            refine Sim.cond (b := ((((l.getD i default)).kind) == 0)) (by kernel_rfl) (fun h14 => ?_) (fun h14 => ?_)
            · (try simp only [beq_iff_eq, beq_eq_false_iff_ne, ne_eq] at h14)
              refine Sim.reg (orcs := [(5, ⟨some (.t (.sc (.int .i64 (x - fr)))), none, none, none⟩), (6, ⟨some (.t (.sc (.int .i64 (max 0 (x - fr))))), none, none, none⟩), (7, ⟨some (.t (.sc (.int .i64 (min (((l.getD i default)).n) (max 0 (x - fr)))))), none, none, none⟩), (8, ⟨some (.t (.sc (.int .i64 (to + (min (((l.getD i default)).n) (max 0 (x - fr))))))), none, none, none⟩)]) (keys := [1, 2, 11, 12, 14, 32, 33, 34]) (τ := [(232, 232)]) (nx := 528)
                (sl := [(1, .t (.sc (.int .i64 x))), (2, .t (.sc (.bool r))), (11, .t (.sc (.int .i64 fr))), (12, .t (.sc (.int .i64 (to + (min (((l.getD i default)).n) (max 0 (x - fr))))))), (14, .ptr 232 0), (32, .t (.lst 2 (List.map stepT l))), (33, .t (.sc (.int .i64 (l.length : Int)))), (34, .t (.sc (.int .i64 (i : Int))))]) (l := [(232, .box [.t (.sc (.int .i64 (((l.getD i default)).kind))), .t (.sc (.int .i64 (((l.getD i default)).n)))])])
                (C := [AVal.t (.sc (.int .i64 (x - fr))) = .t (.sc (.int .i64 (IntKind.i64.wrap (x - fr)))), AVal.t (.sc (.int .i64 (max 0 (x - fr)))) = .t (.sc (.int .i64 (if (x - fr) > 0 then (x - fr) else 0))), AVal.t (.sc (.int .i64 (min (((l.getD i default)).n) (max 0 (x - fr))))) = .t (.sc (.int .i64 (if (max 0 (x - fr)) < (((l.getD i default)).n) then (max 0 (x - fr)) else (((l.getD i default)).n)))), AVal.t (.sc (.int .i64 (to + (min (((l.getD i default)).n) (max 0 (x - fr)))))) = .t (.sc (.int .i64 (IntKind.i64.wrap (to + (min (((l.getD i default)).n) (max 0 (x - fr)))))))]) (by kernel_rfl) ?_ ?_
              · -- region 15
                refine ⟨(nw ?_), max_if, min_if, (nw ?_), trivial⟩
                all_goals (first | omega | with_reducible exact fun h => h | (intro hg hq; rw [hg, hq]; rfl) | (intro hq; rw [hq]; done) | (intro hq; rw [hq]; rfl) | ((try intro hg); (try simp [-List.getD_eq_getElem?_getD] at hg); (try simp only [List.length_map]); first | done | omega | rfl | (simp; done) | (simp; omega) | (simp [hg]; done) | (intro hq; simp [hg, hq]; done) | (intro hq; simp [hg, hq]; omega)))
              refine inBlk_normal ?_
              refine andThen_normal ?_
              refine Sim.seq ?_
              refine Sim.reg (orcs := []) (keys := [1, 2, 11, 12, 14, 32, 33, 34, 77]) (τ := [(232, 232)]) (nx := 552)
                (sl := [(1, .t (.sc (.int .i64 x))), (2, .t (.sc (.bool r))), (11, .t (.sc (.int .i64 fr))), (12, .t (.sc (.int .i64 (to + (min (((l.getD i default)).n) (max 0 (x - fr))))))), (14, .ptr 232 0), (32, .t (.lst 2 (List.map stepT l))), (33, .t (.sc (.int .i64 (l.length : Int)))), (34, .t (.sc (.int .i64 (i : Int)))), (77, .t (.sc (.bool ((((l.getD i default)).kind) != 1))))]) (l := [(232, .box [.t (.sc (.int .i64 (((l.getD i default)).kind))), .t (.sc (.int .i64 (((l.getD i default)).n)))])])
                (C := []) (by kernel_rfl) ?_ ?_
              · -- region 16
                trivial
              refine andThen_normal ?_
              refine Sim.cond (b := ((((l.getD i default)).kind) != 1)) (by kernel_rfl) (fun h16 => ?_) (fun h16 => ?_)
              · (try simp only [bne_iff_ne, bne_eq_false_iff_eq, ne_eq] at h16)
                refine Sim.reg (orcs := [(3, ⟨some (.t (.sc (.int .i64 (fr + (((l.getD i default)).n))))), none, none, none⟩)]) (keys := [1, 2, 11, 12, 32, 33, 34]) (τ := []) (nx := 592)
                  (sl := [(1, .t (.sc (.int .i64 x))), (2, .t (.sc (.bool r))), (11, .t (.sc (.int .i64 (fr + (((l.getD i default)).n))))), (12, .t (.sc (.int .i64 (to + (min (((l.getD i default)).n) (max 0 (x - fr))))))), (32, .t (.lst 2 (List.map stepT l))), (33, .t (.sc (.int .i64 (l.length : Int)))), (34, .t (.sc (.int .i64 (i : Int))))]) (l := [])
                  (C := [AVal.t (.sc (.int .i64 (fr + (((l.getD i default)).n)))) = .t (.sc (.int .i64 (IntKind.i64.wrap (fr + (((l.getD i default)).n)))))]) (by kernel_rfl) ?_ ?_
                · -- region 17
                  refine ⟨(nw ?_), trivial⟩
                  all_goals (first | omega | with_reducible exact fun h => h | (intro hg hq; rw [hg, hq]; rfl) | (intro hq; rw [hq]; done) | (intro hq; rw [hq]; rfl) | ((try intro hg); (try simp [-List.getD_eq_getElem?_getD] at hg); (try simp only [List.length_map]); first | done | omega | rfl | (simp; done) | (simp; omega) | (simp [hg]; done) | (intro hq; simp [hg, hq]; done) | (intro hq; simp [hg, hq]; omega)))
                refine inBlk_normal ?_
                refine andThen_normal ?_
                refine Sim.reg (orcs := [(0, ⟨some (.t (.sc (.int .i64 ((i : Int) + 1)))), none, none, none⟩)]) (keys := [1, 2, 11, 12, 32, 33, 34]) (τ := []) (nx := 608)
                  (sl := [(1, .t (.sc (.int .i64 x))), (2, .t (.sc (.bool r))), (11, .t (.sc (.int .i64 (fr + (((l.getD i default)).n))))), (12, .t (.sc (.int .i64 (to + (min (((l.getD i default)).n) (max 0 (x - fr))))))), (32, .t (.lst 2 (List.map stepT l))), (33, .t (.sc (.int .i64 (l.length : Int)))), (34, .t (.sc (.int .i64 ((i : Int) + 1))))]) (l := [])
                  (C := [AVal.t (.sc (.int .i64 ((i : Int) + 1))) = .t (.sc (.int .i64 (IntKind.i64.wrap ((i : Int) + 1))))]) (by kernel_rfl) ?_ ?_
                · -- region 18
                  refine ⟨(nw ?_), trivial⟩
                  all_goals (first | omega | with_reducible exact fun h => h | (intro hg hq; rw [hg, hq]; rfl) | (intro hq; rw [hq]; done) | (intro hq; rw [hq]; rfl) | ((try intro hg); (try simp [-List.getD_eq_getElem?_getD] at hg); (try simp only [List.length_map]); first | done | omega | rfl | (simp; done) | (simp; omega) | (simp [hg]; done) | (intro hq; simp [hg, hq]; done) | (intro hq; simp [hg, hq]; omega)))
                refine andThen_normal ?_
                refine LoopSim.weaken (Le.ren (τ := []) (keys := [1, 2, 11, 12, 32, 33, 34]) (nx := 208) (sl := [(1, .t (.sc (.int .i64 x))), (2, .t (.sc (.bool r))), (11, .t (.sc (.int .i64 (fr + (((l.getD i default)).n))))), (12, .t (.sc (.int .i64 (to + (min (((l.getD i default)).n) (max 0 (x - fr))))))), (32, .t (.lst 2 (List.map stepT l))), (33, .t (.sc (.int .i64 (l.length : Int)))), (34, .t (.sc (.int .i64 (((i + 1) : Nat) : Int))))]) (l := []) (by kernel_rfl)) ?_
                refine ih9 ((fr + (((l.getD i default)).n)), (to + (min (((l.getD i default)).n) (max 0 (x - fr)))), (i + 1)) ?_ ?_
                · -- back 9.9, invariant
                  obtain ⟨s1, s2, s3, s4, s5⟩ := hst
                  (first | rw [if_pos (by omega)] at s1 | rw [if_neg (by omega)] at s1)
                  (first | rw [if_pos (by omega)] at s2 | rw [if_neg (by omega)] at s2)
                  refine ⟨by omega, by omega, by omega, by omega, by omega, ?_⟩
                  rw [I9.2.2.2.2.2, hd, gapS]
                  congr 1 <;> ((repeat' split) <;> first | rfl | omega | (exfalso; rename_i q; rcases q with ⟨_, q | ⟨q, q2⟩⟩; omega; rcases h12 with (h | h) | h; omega; omega; rw [q2] at h; cases h) | (simp_all; done) | (simp_all; omega))
                · -- back 9.9, measure
                  show (_:Nat) < _; (first | omega | with_reducible exact fun h => h | (intro hq; rw [hq]; done) | (intro hq; rw [hq]; rfl) | (simp only [List.length_map]; done) | (simp only [List.length_map]; omega) | (simp; omega) | (simp; done))
              · (try simp only [bne_iff_ne, bne_eq_false_iff_eq, ne_eq] at h16)
                refine Sim.skip ?_
                refine inBlk_normal ?_
                refine andThen_normal ?_
                refine Sim.reg (orcs := [(0, ⟨some (.t (.sc (.int .i64 ((i : Int) + 1)))), none, none, none⟩)]) (keys := [1, 2, 11, 12, 32, 33, 34]) (τ := []) (nx := 568)
                  (sl := [(1, .t (.sc (.int .i64 x))), (2, .t (.sc (.bool r))), (11, .t (.sc (.int .i64 fr))), (12, .t (.sc (.int .i64 (to + (min (((l.getD i default)).n) (max 0 (x - fr))))))), (32, .t (.lst 2 (List.map stepT l))), (33, .t (.sc (.int .i64 (l.length : Int)))), (34, .t (.sc (.int .i64 ((i : Int) + 1))))]) (l := [])
                  (C := [AVal.t (.sc (.int .i64 ((i : Int) + 1))) = .t (.sc (.int .i64 (IntKind.i64.wrap ((i : Int) + 1))))]) (by kernel_rfl) ?_ ?_
                · -- region 18
                  refine ⟨(nw ?_), trivial⟩
                  all_goals (first | omega | with_reducible exact fun h => h | (intro hg hq; rw [hg, hq]; rfl) | (intro hq; rw [hq]; done) | (intro hq; rw [hq]; rfl) | ((try intro hg); (try simp [-List.getD_eq_getElem?_getD] at hg); (try simp only [List.length_map]); first | done | omega | rfl | (simp; done) | (simp; omega) | (simp [hg]; done) | (intro hq; simp [hg, hq]; done) | (intro hq; simp [hg, hq]; omega)))
                refine andThen_normal ?_
                refine LoopSim.weaken (Le.ren (τ := []) (keys := [1, 2, 11, 12, 32, 33, 34]) (nx := 208) (sl := [(1, .t (.sc (.int .i64 x))), (2, .t (.sc (.bool r))), (11, .t (.sc (.int .i64 fr))), (12, .t (.sc (.int .i64 (to + (min (((l.getD i default)).n) (max 0 (x - fr))))))), (32, .t (.lst 2 (List.map stepT l))), (33, .t (.sc (.int .i64 (l.length : Int)))), (34, .t (.sc (.int .i64 (((i + 1) : Nat) : Int))))]) (l := []) (by kernel_rfl)) ?_
                refine ih9 (fr, (to + (min (((l.getD i default)).n) (max 0 (x - fr)))), (i + 1)) ?_ ?_
                · -- back 9.10, invariant
                  obtain ⟨s1, s2, s3, s4, s5⟩ := hst
                  (first | rw [if_pos (by omega)] at s1 | rw [if_neg (by omega)] at s1)
                  (first | rw [if_pos (by omega)] at s2 | rw [if_neg (by omega)] at s2)
                  refine ⟨by omega, by omega, by omega, by omega, by omega, ?_⟩
                  rw [I9.2.2.2.2.2, hd, gapS]
                  congr 1 <;> ((repeat' split) <;> first | rfl | omega | (exfalso; rename_i q; rcases q with ⟨_, q | ⟨q, q2⟩⟩; omega; rcases h12 with (h | h) | h; omega; omega; rw [q2] at h; cases h) | (simp_all; done) | (simp_all; omega))
                · -- back 9.10, measure
                  show (_:Nat) < _; (first | omega | with_reducible exact fun h => h | (intro hq; rw [hq]; done) | (intro hq; rw [hq]; rfl) | (simp only [List.length_map]; done) | (simp only [List.length_map]; omega) | (simp; omega) | (simp; done))
            · (try simp only [beq_iff_eq, beq_eq_false_iff_ne, ne_eq] at h14)
              refine Sim.skip ?_
              refine inBlk_normal ?_
              refine andThen_normal ?_
              refine Sim.seq ?_
              refine Sim.reg (orcs := []) (keys := [1, 2, 11, 12, 14, 32, 33, 34, 77]) (τ := [(232, 232)]) (nx := 472)
                (sl := [(1, .t (.sc (.int .i64 x))), (2, .t (.sc (.bool r))), (11, .t (.sc (.int .i64 fr))), (12, .t (.sc (.int .i64 to))), (14, .ptr 232 0), (32, .t (.lst 2 (List.map stepT l))), (33, .t (.sc (.int .i64 (l.length : Int)))), (34, .t (.sc (.int .i64 (i : Int)))), (77, .t (.sc (.bool ((((l.getD i default)).kind) != 1))))]) (l := [(232, .box [.t (.sc (.int .i64 (((l.getD i default)).kind))), .t (.sc (.int .i64 (((l.getD i default)).n)))])])
                (C := []) (by kernel_rfl) ?_ ?_
              · -- region 16
                trivial
              refine andThen_normal ?_
              refine Sim.cond (b := ((((l.getD i default)).kind) != 1)) (by kernel_rfl) (fun h16 => ?_) (fun h16 => ?_)
              · (try simp only [bne_iff_ne, bne_eq_false_iff_eq, ne_eq] at h16)
                refine Sim.reg (orcs := [(3, ⟨some (.t (.sc (.int .i64 (fr + (((l.getD i default)).n))))), none, none, none⟩)]) (keys := [1, 2, 11, 12, 32, 33, 34]) (τ := []) (nx := 512)
                  (sl := [(1, .t (.sc (.int .i64 x))), (2, .t (.sc (.bool r))), (11, .t (.sc (.int .i64 (fr + (((l.getD i default)).n))))), (12, .t (.sc (.int .i64 to))), (32, .t (.lst 2 (List.map stepT l))), (33, .t (.sc (.int .i64 (l.length : Int)))), (34, .t (.sc (.int .i64 (i : Int))))]) (l := [])
                  (C := [AVal.t (.sc (.int .i64 (fr + (((l.getD i default)).n)))) = .t (.sc (.int .i64 (IntKind.i64.wrap (fr + (((l.getD i default)).n)))))]) (by kernel_rfl) ?_ ?_
                · -- region 17
                  refine ⟨(nw ?_), trivial⟩
                  all_goals (first | omega | with_reducible exact fun h => h | (intro hg hq; rw [hg, hq]; rfl) | (intro hq; rw [hq]; done) | (intro hq; rw [hq]; rfl) | ((try intro hg); (try simp [-List.getD_eq_getElem?_getD] at hg); (try simp only [List.length_map]); first | done | omega | rfl | (simp; done) | (simp; omega) | (simp [hg]; done) | (intro hq; simp [hg, hq]; done) | (intro hq; simp [hg, hq]; omega)))
                refine inBlk_normal ?_
                refine andThen_normal ?_
                refine Sim.reg (orcs := [(0, ⟨some (.t (.sc (.int .i64 ((i : Int) + 1)))), none, none, none⟩)]) (keys := [1, 2, 11, 12, 32, 33, 34]) (τ := []) (nx := 528)
                  (sl := [(1, .t (.sc (.int .i64 x))), (2, .t (.sc (.bool r))), (11, .t (.sc (.int .i64 (fr + (((l.getD i default)).n))))), (12, .t (.sc (.int .i64 to))), (32, .t (.lst 2 (List.map stepT l))), (33, .t (.sc (.int .i64 (l.length : Int)))), (34, .t (.sc (.int .i64 ((i : Int) + 1))))]) (l := [])
                  (C := [AVal.t (.sc (.int .i64 ((i : Int) + 1))) = .t (.sc (.int .i64 (IntKind.i64.wrap ((i : Int) + 1))))]) (by kernel_rfl) ?_ ?_
                · -- region 18
                  refine ⟨(nw ?_), trivial⟩
                  all_goals (first | omega | with_reducible exact fun h => h | (intro hg hq; rw [hg, hq]; rfl) | (intro hq; rw [hq]; done) | (intro hq; rw [hq]; rfl) | ((try intro hg); (try simp [-List.getD_eq_getElem?_getD] at hg); (try simp only [List.length_map]); first | done | omega | rfl | (simp; done) | (simp; omega) | (simp [hg]; done) | (intro hq; simp [hg, hq]; done) | (intro hq; simp [hg, hq]; omega)))
                refine andThen_normal ?_
                refine LoopSim.weaken (Le.ren (τ := []) (keys := [1, 2, 11, 12, 32, 33, 34]) (nx := 208) (sl := [(1, .t (.sc (.int .i64 x))), (2, .t (.sc (.bool r))), (11, .t (.sc (.int .i64 (fr + (((l.getD i default)).n))))), (12, .t (.sc (.int .i64 to))), (32, .t (.lst 2 (List.map stepT l))), (33, .t (.sc (.int .i64 (l.length : Int)))), (34, .t (.sc (.int .i64 (((i + 1) : Nat) : Int))))]) (l := []) (by kernel_rfl)) ?_
                refine ih9 ((fr + (((l.getD i default)).n)), to, (i + 1)) ?_ ?_
                · -- back 9.11, invariant
                  obtain ⟨s1, s2, s3, s4, s5⟩ := hst
                  (first | rw [if_pos (by omega)] at s1 | rw [if_neg (by omega)] at s1)
                  (first | rw [if_pos (by omega)] at s2 | rw [if_neg (by omega)] at s2)
                  refine ⟨by omega, by omega, by omega, by omega, by omega, ?_⟩
                  rw [I9.2.2.2.2.2, hd, gapS]
                  congr 1 <;> ((repeat' split) <;> first | rfl | omega | (exfalso; rename_i q; rcases q with ⟨_, q | ⟨q, q2⟩⟩; omega; rcases h12 with (h | h) | h; omega; omega; rw [q2] at h; cases h) | (simp_all; done) | (simp_all; omega))
                · -- back 9.11, measure
                  show (_:Nat) < _; (first | omega | with_reducible exact fun h => h | (intro hq; rw [hq]; done) | (intro hq; rw [hq]; rfl) | (simp only [List.length_map]; done) | (simp only [List.length_map]; omega) | (simp; omega) | (simp; done))
              · (try simp only [bne_iff_ne, bne_eq_false_iff_eq, ne_eq] at h16)
                refine Sim.skip ?_
                refine inBlk_normal ?_
                refine andThen_normal ?_
                refine Sim.reg (orcs := [(0, ⟨some (.t (.sc (.int .i64 ((i : Int) + 1)))), none, none, none⟩)]) (keys := [1, 2, 11, 12, 32, 33, 34]) (τ := []) (nx := 488)
                  (sl := [(1, .t (.sc (.int .i64 x))), (2, .t (.sc (.bool r))), (11, .t (.sc (.int .i64 fr))), (12, .t (.sc (.int .i64 to))), (32, .t (.lst 2 (List.map stepT l))), (33, .t (.sc (.int .i64 (l.length : Int)))), (34, .t (.sc (.int .i64 ((i : Int) + 1))))]) (l := [])
                  (C := [AVal.t (.sc (.int .i64 ((i : Int) + 1))) = .t (.sc (.int .i64 (IntKind.i64.wrap ((i : Int) + 1))))]) (by kernel_rfl) ?_ ?_
                · -- region 18
                  refine ⟨(nw ?_), trivial⟩
                  all_goals (first | omega | with_reducible exact fun h => h | (intro hg hq; rw [hg, hq]; rfl) | (intro hq; rw [hq]; done) | (intro hq; rw [hq]; rfl) | ((try intro hg); (try simp [-List.getD_eq_getElem?_getD] at hg); (try simp only [List.length_map]); first | done | omega | rfl | (simp; done) | (simp; omega) | (simp [hg]; done) | (intro hq; simp [hg, hq]; done) | (intro hq; simp [hg, hq]; omega)))
                refine andThen_normal ?_
                refine LoopSim.weaken (Le.ren (τ := []) (keys := [1, 2, 11, 12, 32, 33, 34]) (nx := 208) (sl := [(1, .t (.sc (.int .i64 x))), (2, .t (.sc (.bool r))), (11, .t (.sc (.int .i64 fr))), (12, .t (.sc (.int .i64 to))), (32, .t (.lst 2 (List.map stepT l))), (33, .t (.sc (.int .i64 (l.length : Int)))), (34, .t (.sc (.int .i64 (((i + 1) : Nat) : Int))))]) (l := []) (by kernel_rfl)) ?_
                refine ih9 (fr, to, (i + 1)) ?_ ?_
                · -- back 9.12, invariant
                  obtain ⟨s1, s2, s3, s4, s5⟩ := hst
                  (first | rw [if_pos (by omega)] at s1 | rw [if_neg (by omega)] at s1)
                  (first | rw [if_pos (by omega)] at s2 | rw [if_neg (by omega)] at s2)
                  refine ⟨by omega, by omega, by omega, by omega, by omega, ?_⟩
                  rw [I9.2.2.2.2.2, hd, gapS]
                  congr 1 <;> ((repeat' split) <;> first | rfl | omega | (exfalso; rename_i q; rcases q with ⟨_, q | ⟨q, q2⟩⟩; omega; rcases h12 with (h | h) | h; omega; omega; rw [q2] at h; cases h) | (simp_all; done) | (simp_all; omega))
                · -- back 9.12, measure
                  show (_:Nat) < _; (first | omega | with_reducible exact fun h => h | (intro hq; rw [hq]; done) | (intro hq; rw [hq]; rfl) | (simp only [List.length_map]; done) | (simp only [List.length_map]; omega) | (simp; omega) | (simp; done))
      · (try simp only [decide_eq_true_eq, decide_eq_false_iff_not, Int.not_lt, Int.not_le] at h9)
        refine Sim.exit ?_
        refine andThen_exit ?_
        refine andThen_exit ?_
        refine inBlk_same ?_
        refine andThen_normal ?_
        refine Sim.seq ?_
        refine Sim.reg (orcs := []) (keys := [6, 7]) (τ := []) (nx := 240)
          (sl := [(6, .t (.sc (.int .i64 to))), (7, .t (.sc (.int .i64 0)))]) (l := [])
          (C := []) (by kernel_rfl) ?_ ?_
        · -- region 19
          trivial
        refine andThen_normal ?_
        refine Sim.ret ?_
        refine Fin.mk2 (.inl rfl) (τ := []) (keys := [6, 7]) (nx := 240) (sl := [(6, .t (.sc (.int .i64 to))), (7, .t (.sc (.int .i64 0)))]) (l := []) (res' := .tup [.t (.sc (.int .i64 to)), .t (.sc (.int .i64 0))]) (by kernel_rfl) ?_ (by kernel_rfl) ?_
        · -- end 1, objects
          first | done | rfl
        · -- end 1, result
          have e1 : ((gapS l x r 0 0) : Int) = to := by
            rw [I9.2.2.2.2.2, drop_ends (by omega)]; rfl
          show AVal.tup [.t (.sc (.int .i64 to)), .t (.sc (.int .i64 0))] = .tup [.t (.sc (.int .i64 (gapS l x r 0 0))), .t (.sc (.int .i64 0))]
          rw [e1]
          try rfl

theorem fc_hull (l : List AxStep) (f t : Int) (hv : Valid l) (hf : 0 ≤ f ∧ f ≤ t ∧ t ≤ oldI l) : FC Try.prog 96 [.t (.lst 2 (List.map stepT l)), .t (.sc (.int .i64 f)), .t (.sc (.int .i64 t))] (app emp []) (.tup [.t (.sc (.int .i64 ((hullS l f t 0 0 0 0).1))), .t (.sc (.int .i64 ((hullS l f t 0 0 0 0).2)))]) (app emp []) := by
  refine FC.of_sim (fn := Try.f96) (nx := 0) (by kernel_rfl) rfl (by kernel_rfl) rfl ?_
  show Sim _ _ _ _ ⟨[(0, .t (.lst 2 (List.map stepT l))), (1, .t (.sc (.int .i64 f))), (2, .t (.sc (.int .i64 t)))], app emp [], 0⟩ _
  refine Sim.len (t := 0) (k := 2) rfl (fun hl0 => ?_)
  rw [List.length_map] at hl0
  have ca := check_iff.2 hv
  have hv1 : oldI l ≤ 2147483647 := by have := hv.2.1; unfold oldI; omega
  have hv2 : newI l ≤ 2147483647 := by have := hv.2.2; unfold newI; omega
  have o0 : 0 ≤ oldI l := by unfold oldI; omega
  have o1 : 0 ≤ newI l := by unfold newI; omega
  refine Sim.seq ?_
  refine Sim.reg (orcs := []) (keys := [0, 1, 2]) (τ := []) (nx := 16)
    (sl := [(0, .t (.lst 2 (List.map stepT l))), (1, .t (.sc (.int .i64 f))), (2, .t (.sc (.int .i64 t)))]) (l := [])
    (C := []) (by kernel_rfl) ?_ ?_
  · -- region 0
    trivial
  refine andThen_normal ?_
  refine Sim.seq ?_
  refine Sim.reg (orcs := []) (keys := [0, 1, 2, 8, 9, 10, 11]) (τ := []) (nx := 48)
    (sl := [(0, .t (.lst 2 (List.map stepT l))), (1, .t (.sc (.int .i64 f))), (2, .t (.sc (.int .i64 t))), (8, .t (.sc (.int .i64 0))), (9, .t (.sc (.int .i64 0))), (10, .t (.sc (.int .i64 0))), (11, .t (.sc (.int .i64 0)))]) (l := [])
    (C := []) (by kernel_rfl) ?_ ?_
  · -- region 1
    trivial
  refine andThen_normal ?_
  refine Sim.seq ?_
  refine Sim.seq ?_
  refine Sim.reg (orcs := [(1, ⟨some (.t (.sc (.int .i64 (l.length : Int)))), none, none, none⟩)]) (keys := [1, 2, 8, 9, 10, 11, 16, 17, 18]) (τ := []) (nx := 72)
    (sl := [(1, .t (.sc (.int .i64 f))), (2, .t (.sc (.int .i64 t))), (8, .t (.sc (.int .i64 0))), (9, .t (.sc (.int .i64 0))), (10, .t (.sc (.int .i64 0))), (11, .t (.sc (.int .i64 0))), (16, .t (.lst 2 (List.map stepT l))), (17, .t (.sc (.int .i64 (l.length : Int)))), (18, .t (.sc (.int .i64 0)))]) (l := [])
    (C := [AVal.t (.sc (.int .i64 (l.length : Int))) = .t (.sc (.int .i64 ((List.map stepT l).length : Int)))]) (by kernel_rfl) ?_ ?_
  · -- region 2
    exact ⟨len_map, trivial⟩
  refine andThen_normal ?_
  refine Sim.block ?_
  refine Sim.weaken (Le.ren (τ := []) (keys := [1, 2, 8, 9, 10, 11, 16, 17, 18]) (nx := 72) (sl := [(1, .t (.sc (.int .i64 f))), (2, .t (.sc (.int .i64 t))), (8, .t (.sc (.int .i64 0))), (9, .t (.sc (.int .i64 0))), (10, .t (.sc (.int .i64 0))), (11, .t (.sc (.int .i64 0))), (16, .t (.lst 2 (List.map stepT l))), (17, .t (.sc (.int .i64 (l.length : Int)))), (18, .t (.sc (.int .i64 ((0 : Nat) : Int))))]) (l := []) (by kernel_rfl)) ?_
  refine Sim.loop ?_
  refine loop_ind (α := Int × Int × Int × Int × Nat) (fun (first, last, fr, to, i) => ⟨[(1, .t (.sc (.int .i64 f))), (2, .t (.sc (.int .i64 t))), (8, .t (.sc (.int .i64 first))), (9, .t (.sc (.int .i64 last))), (10, .t (.sc (.int .i64 fr))), (11, .t (.sc (.int .i64 to))), (16, .t (.lst 2 (List.map stepT l))), (17, .t (.sc (.int .i64 (l.length : Int)))), (18, .t (.sc (.int .i64 (i : Int))))], app emp [], 72⟩) (fun (first, last, fr, to, i) => i ≤ l.length ∧ 0 ≤ fr ∧ 0 ≤ to ∧ fr + oldU (ex (l.drop i)) = oldI l ∧ to + newU (ex (l.drop i)) = newI l ∧ 0 ≤ first ∧ first ≤ 10000000000 ∧ 0 ≤ last ∧ last ≤ 10000000000 ∧ hullS l f t 0 0 0 0 = hullS (l.drop i) f t first last fr to) (fun (first, last, fr, to, i) => l.length - i) ?_ (0, 0, 0, 0, 0) ?_
  rotate_left
  · -- loop 3, start
    exact ⟨by omega, by decide, by decide, by simp [oldI], by simp [newI], by decide, by decide, by decide, by decide, rfl⟩
  rintro ⟨first, last, fr, to, i⟩ I3 ih3
  show LoopSim _ _ _ _ ⟨[(1, .t (.sc (.int .i64 f))), (2, .t (.sc (.int .i64 t))), (8, .t (.sc (.int .i64 first))), (9, .t (.sc (.int .i64 last))), (10, .t (.sc (.int .i64 fr))), (11, .t (.sc (.int .i64 to))), (16, .t (.lst 2 (List.map stepT l))), (17, .t (.sc (.int .i64 (l.length : Int)))), (18, .t (.sc (.int .i64 (i : Int))))], app emp [], 72⟩ _
  replace I3 : i ≤ l.length ∧ 0 ≤ fr ∧ 0 ≤ to ∧ fr + oldU (ex (l.drop i)) = oldI l ∧ to + newU (ex (l.drop i)) = newI l ∧ 0 ≤ first ∧ first ≤ 10000000000 ∧ 0 ≤ last ∧ last ≤ 10000000000 ∧ hullS l f t 0 0 0 0 = hullS (l.drop i) f t first last fr to := I3
  refine LoopSim.step ?_
  refine Sim.seq ?_
  refine Sim.reg (orcs := []) (keys := [1, 2, 8, 9, 10, 11, 16, 17, 18, 19]) (τ := []) (nx := 80)
    (sl := [(1, .t (.sc (.int .i64 f))), (2, .t (.sc (.int .i64 t))), (8, .t (.sc (.int .i64 first))), (9, .t (.sc (.int .i64 last))), (10, .t (.sc (.int .i64 fr))), (11, .t (.sc (.int .i64 to))), (16, .t (.lst 2 (List.map stepT l))), (17, .t (.sc (.int .i64 (l.length : Int)))), (18, .t (.sc (.int .i64 (i : Int)))), (19, .t (.sc (.bool (decide ((i : Int) < (l.length : Int))))))]) (l := [])
    (C := []) (by kernel_rfl) ?_ ?_
  · -- region 3
    trivial
  refine andThen_normal ?_
  refine Sim.seq ?_
  refine Sim.cond (b := decide ((i : Int) < (l.length : Int))) (by kernel_rfl) (fun h3 => ?_) (fun h3 => ?_)
  · (try simp only [decide_eq_true_eq, decide_eq_false_iff_not, Int.not_lt, Int.not_le] at h3)
    refine Sim.skip ?_
    refine andThen_normal ?_
    refine Sim.seq ?_
    refine Sim.block ?_
    refine Sim.seq ?_
    refine Sim.reg (orcs := [(0, ⟨none, none, some (stepT (l.getD i default)), none⟩)]) (keys := [1, 2, 8, 9, 10, 11, 13, 16, 17, 18]) (τ := [(96, 96)]) (nx := 112)
      (sl := [(1, .t (.sc (.int .i64 f))), (2, .t (.sc (.int .i64 t))), (8, .t (.sc (.int .i64 first))), (9, .t (.sc (.int .i64 last))), (10, .t (.sc (.int .i64 fr))), (11, .t (.sc (.int .i64 to))), (13, .ptr 96 0), (16, .t (.lst 2 (List.map stepT l))), (17, .t (.sc (.int .i64 (l.length : Int)))), (18, .t (.sc (.int .i64 (i : Int))))]) (l := [(96, .box [.t (.sc (.int .i64 (((l.getD i default)).kind))), .t (.sc (.int .i64 (((l.getD i default)).n)))])])
      (C := [(0:Int) ≤ (i : Int), (List.map stepT l)[i]? = some (stepT (l.getD i default))]) (by kernel_rfl) ?_ ?_
    · -- region 4
      refine ⟨?_, (elt_nat ?_), trivial⟩
      all_goals (first | omega | with_reducible exact fun h => h | (intro hg hq; rw [hg, hq]; rfl) | (intro hq; rw [hq]; done) | (intro hq; rw [hq]; rfl) | ((try intro hg); (try simp [-List.getD_eq_getElem?_getD] at hg); (try simp only [List.length_map]); first | done | omega | rfl | (simp; done) | (simp; omega) | (simp [hg]; done) | (intro hq; simp [hg, hq]; done) | (intro hq; simp [hg, hq]; omega)))
    refine andThen_normal ?_
    refine Sim.seq ?_
    have hst := lens_step (l := l) (i := i) (by omega) hv.1
    have hd := drop_ats (l := l) (i := i) (by omega)
    refine Sim.regD (by kernel_rfl) (orcs := [(2, ⟨some (.t (.sc (.int .i64 (max f fr)))), none, none, none⟩), (7, ⟨some (.t (.sc (.int .i64 (fr + (((l.getD i default)).n))))), none, none, none⟩), (8, ⟨some (.t (.sc (.int .i64 (min t (fr + (((l.getD i default)).n)))))), none, none, none⟩)]) (keys := [1, 2, 8, 9, 10, 11, 13, 14, 15, 16, 17, 18]) (τ := [(96, 96)]) (nx := 200)
      (sl := [(1, .t (.sc (.int .i64 f))), (2, .t (.sc (.int .i64 t))), (8, .t (.sc (.int .i64 first))), (9, .t (.sc (.int .i64 last))), (10, .t (.sc (.int .i64 fr))), (11, .t (.sc (.int .i64 to))), (13, .ptr 96 0), (14, .t (.sc (.int .i64 (max f fr)))), (15, .t (.sc (.int .i64 (min t (fr + (((l.getD i default)).n)))))), (16, .t (.lst 2 (List.map stepT l))), (17, .t (.sc (.int .i64 (l.length : Int)))), (18, .t (.sc (.int .i64 (i : Int))))]) (l := [(96, .box [.t (.sc (.int .i64 (((l.getD i default)).kind))), .t (.sc (.int .i64 (((l.getD i default)).n)))])])
      (C := [AVal.t (.sc (.int .i64 (max f fr))) = .t (.sc (.int .i64 (if fr > f then fr else f))), AVal.t (.sc (.int .i64 (fr + (((l.getD i default)).n)))) = .t (.sc (.int .i64 (IntKind.i64.wrap (fr + (((l.getD i default)).n))))), AVal.t (.sc (.int .i64 (min t (fr + (((l.getD i default)).n))))) = .t (.sc (.int .i64 (if (fr + (((l.getD i default)).n)) < t then (fr + (((l.getD i default)).n)) else t)))]) (by kernel_rfl) ?_ ?_
    · -- region 5
      refine ⟨max_if, (nw ?_), min_if, trivial⟩
      all_goals (first | omega | with_reducible exact fun h => h | (intro hg hq; rw [hg, hq]; rfl) | (intro hq; rw [hq]; done) | (intro hq; rw [hq]; rfl) | ((try intro hg); (try simp [-List.getD_eq_getElem?_getD] at hg); (try simp only [List.length_map]); first | done | omega | rfl | (simp; done) | (simp; omega) | (simp [hg]; done) | (intro hq; simp [hg, hq]; done) | (intro hq; simp [hg, hq]; omega)))
    refine andThen_normal ?_
    refine Sim.seq ?_
    refine Sim.seq ?_
    refine Sim.reg (orcs := []) (keys := [1, 2, 8, 9, 10, 11, 13, 14, 15, 16, 17, 18, 38]) (τ := [(96, 96)]) (nx := 264)
      (sl := [(1, .t (.sc (.int .i64 f))), (2, .t (.sc (.int .i64 t))), (8, .t (.sc (.int .i64 first))), (9, .t (.sc (.int .i64 last))), (10, .t (.sc (.int .i64 fr))), (11, .t (.sc (.int .i64 to))), (13, .ptr 96 0), (14, .t (.sc (.int .i64 (max f fr)))), (15, .t (.sc (.int .i64 (min t (fr + (((l.getD i default)).n)))))), (16, .t (.lst 2 (List.map stepT l))), (17, .t (.sc (.int .i64 (l.length : Int)))), (18, .t (.sc (.int .i64 (i : Int)))), (38, .t (.sc (.bool (((((l.getD i default)).kind) == 0) && decide ((max f fr) < (min t (fr + (((l.getD i default)).n))))))))]) (l := [(96, .box [.t (.sc (.int .i64 (((l.getD i default)).kind))), .t (.sc (.int .i64 (((l.getD i default)).n)))])])
      (C := [((((l.getD i default)).kind) == 0) = true → ((((l.getD i default)).kind) == 0) = true, ((((l.getD i default)).kind) == 0) = true → ((((l.getD i default)).kind) == 0) = true, ((((l.getD i default)).kind) == 0) = true → ((((l.getD i default)).kind) == 0) = true]) (by kernel_rfl) ?_ ?_
    · -- region 6
      refine ⟨?_, ?_, ?_, trivial⟩
      all_goals (first | omega | with_reducible exact fun h => h | (intro hg hq; rw [hg, hq]; rfl) | (intro hq; rw [hq]; done) | (intro hq; rw [hq]; rfl) | ((try intro hg); (try simp [-List.getD_eq_getElem?_getD] at hg); (try simp only [List.length_map]); first | done | omega | rfl | (simp; done) | (simp; omega) | (simp [hg]; done) | (intro hq; simp [hg, hq]; done) | (intro hq; simp [hg, hq]; omega)))
    refine andThen_normal ?_
    refine Sim.cond (b := (((((l.getD i default)).kind) == 0) && decide ((max f fr) < (min t (fr + (((l.getD i default)).n)))))) (by kernel_rfl) (fun h6 => ?_) (fun h6 => ?_)
    · (try simp only [decide_eq_true_eq, decide_eq_false_iff_not, Int.not_lt, Int.not_le, Bool.and_eq_true, Bool.and_eq_false_iff, Bool.not_eq_true', Bool.not_eq_false', beq_iff_eq, beq_eq_false_iff_ne, ne_eq] at h6)
      refine Sim.seq ?_
      refine Sim.seq ?_
      refine Sim.reg (orcs := []) (keys := [1, 2, 8, 10, 11, 13, 14, 15, 16, 17, 18, 40]) (τ := [(96, 96)]) (nx := 280)
        (sl := [(1, .t (.sc (.int .i64 f))), (2, .t (.sc (.int .i64 t))), (8, .t (.sc (.int .i64 first))), (10, .t (.sc (.int .i64 fr))), (11, .t (.sc (.int .i64 to))), (13, .ptr 96 0), (14, .t (.sc (.int .i64 (max f fr)))), (15, .t (.sc (.int .i64 (min t (fr + (((l.getD i default)).n)))))), (16, .t (.lst 2 (List.map stepT l))), (17, .t (.sc (.int .i64 (l.length : Int)))), (18, .t (.sc (.int .i64 (i : Int)))), (40, .t (.sc (.bool (last == 0))))]) (l := [(96, .box [.t (.sc (.int .i64 (((l.getD i default)).kind))), .t (.sc (.int .i64 (((l.getD i default)).n)))])])
        (C := []) (by kernel_rfl) ?_ ?_
      · -- region 7
        trivial
      refine andThen_normal ?_
      refine Sim.cond (b := (last == 0)) (by kernel_rfl) (fun h7 => ?_) (fun h7 => ?_)
      · (try simp only [beq_iff_eq, beq_eq_false_iff_ne, ne_eq] at h7)
        refine Sim.reg (orcs := [(2, ⟨some (.t (.sc (.int .i64 (to + (max f fr))))), none, none, none⟩), (4, ⟨some (.t (.sc (.int .i64 ((to + (max f fr)) - fr)))), none, none, none⟩)]) (keys := [1, 2, 8, 10, 11, 13, 15, 16, 17, 18]) (τ := [(96, 96)]) (nx := 328)
          (sl := [(1, .t (.sc (.int .i64 f))), (2, .t (.sc (.int .i64 t))), (8, .t (.sc (.int .i64 ((to + (max f fr)) - fr)))), (10, .t (.sc (.int .i64 fr))), (11, .t (.sc (.int .i64 to))), (13, .ptr 96 0), (15, .t (.sc (.int .i64 (min t (fr + (((l.getD i default)).n)))))), (16, .t (.lst 2 (List.map stepT l))), (17, .t (.sc (.int .i64 (l.length : Int)))), (18, .t (.sc (.int .i64 (i : Int))))]) (l := [(96, .box [.t (.sc (.int .i64 (((l.getD i default)).kind))), .t (.sc (.int .i64 (((l.getD i default)).n)))])])
          (C := [AVal.t (.sc (.int .i64 (to + (max f fr)))) = .t (.sc (.int .i64 (IntKind.i64.wrap (to + (max f fr))))), AVal.t (.sc (.int .i64 ((to + (max f fr)) - fr))) = .t (.sc (.int .i64 (IntKind.i64.wrap ((to + (max f fr)) - fr))))]) (by kernel_rfl) ?_ ?_
        · -- region 8
          refine ⟨(nw ?_), (nw ?_), trivial⟩
          all_goals (first | omega | with_reducible exact fun h => h | (intro hg hq; rw [hg, hq]; rfl) | (intro hq; rw [hq]; done) | (intro hq; rw [hq]; rfl) | ((try intro hg); (try simp [-List.getD_eq_getElem?_getD] at hg); (try simp only [List.length_map]); first | done | omega | rfl | (simp; done) | (simp; omega) | (simp [hg]; done) | (intro hq; simp [hg, hq]; done) | (intro hq; simp [hg, hq]; omega)))
        refine andThen_normal ?_
        refine Sim.reg (orcs := [(2, ⟨some (.t (.sc (.int .i64 (to + (min t (fr + (((l.getD i default)).n))))))), none, none, none⟩), (4, ⟨some (.t (.sc (.int .i64 ((to + (min t (fr + (((l.getD i default)).n)))) - fr)))), none, none, none⟩)]) (keys := [1, 2, 8, 9, 10, 11, 13, 16, 17, 18]) (τ := [(96, 96)]) (nx := 376)
          (sl := [(1, .t (.sc (.int .i64 f))), (2, .t (.sc (.int .i64 t))), (8, .t (.sc (.int .i64 ((to + (max f fr)) - fr)))), (9, .t (.sc (.int .i64 ((to + (min t (fr + (((l.getD i default)).n)))) - fr)))), (10, .t (.sc (.int .i64 fr))), (11, .t (.sc (.int .i64 to))), (13, .ptr 96 0), (16, .t (.lst 2 (List.map stepT l))), (17, .t (.sc (.int .i64 (l.length : Int)))), (18, .t (.sc (.int .i64 (i : Int))))]) (l := [(96, .box [.t (.sc (.int .i64 (((l.getD i default)).kind))), .t (.sc (.int .i64 (((l.getD i default)).n)))])])
          (C := [AVal.t (.sc (.int .i64 (to + (min t (fr + (((l.getD i default)).n)))))) = .t (.sc (.int .i64 (IntKind.i64.wrap (to + (min t (fr + (((l.getD i default)).n))))))), AVal.t (.sc (.int .i64 ((to + (min t (fr + (((l.getD i default)).n)))) - fr))) = .t (.sc (.int .i64 (IntKind.i64.wrap ((to + (min t (fr + (((l.getD i default)).n)))) - fr))))]) (by kernel_rfl) ?_ ?_
        · -- region 9
          refine ⟨(nw ?_), (nw ?_), trivial⟩
          all_goals (first | omega | with_reducible exact fun h => h | (intro hg hq; rw [hg, hq]; rfl) | (intro hq; rw [hq]; done) | (intro hq; rw [hq]; rfl) | ((try intro hg); (try simp [-List.getD_eq_getElem?_getD] at hg); (try simp only [List.length_map]); first | done | omega | rfl | (simp; done) | (simp; omega) | (simp [hg]; done) | (intro hq; simp [hg, hq]; done) | (intro hq; simp [hg, hq]; omega)))
        refine andThen_normal ?_
        refine Sim.seq ?_
        refine Sim.seq ?_
        refine Sim.reg (orcs := []) (keys := [1, 2, 8, 9, 10, 11, 13, 16, 17, 18, 53]) (τ := [(96, 96)]) (nx := 400)
          (sl := [(1, .t (.sc (.int .i64 f))), (2, .t (.sc (.int .i64 t))), (8, .t (.sc (.int .i64 ((to + (max f fr)) - fr)))), (9, .t (.sc (.int .i64 ((to + (min t (fr + (((l.getD i default)).n)))) - fr)))), (10, .t (.sc (.int .i64 fr))), (11, .t (.sc (.int .i64 to))), (13, .ptr 96 0), (16, .t (.lst 2 (List.map stepT l))), (17, .t (.sc (.int .i64 (l.length : Int)))), (18, .t (.sc (.int .i64 (i : Int)))), (53, .t (.sc (.bool ((((l.getD i default)).kind) != 2))))]) (l := [(96, .box [.t (.sc (.int .i64 (((l.getD i default)).kind))), .t (.sc (.int .i64 (((l.getD i default)).n)))])])
          (C := []) (by kernel_rfl) ?_ ?_
        · -- region 10
          trivial
        refine andThen_normal ?_
        refine Sim.cond (b := ((((l.getD i default)).kind) != 2)) (by kernel_rfl) (fun h10 => ?_) (fun h10 => ?_)
        · (try simp only [bne_iff_ne, bne_eq_false_iff_eq, ne_eq] at h10)
          refine Sim.reg (orcs := [(3, ⟨some (.t (.sc (.int .i64 (to + (((l.getD i default)).n))))), none, none, none⟩)]) (keys := [1, 2, 8, 9, 10, 11, 13, 16, 17, 18]) (τ := [(96, 96)]) (nx := 440)
            (sl := [(1, .t (.sc (.int .i64 f))), (2, .t (.sc (.int .i64 t))), (8, .t (.sc (.int .i64 ((to + (max f fr)) - fr)))), (9, .t (.sc (.int .i64 ((to + (min t (fr + (((l.getD i default)).n)))) - fr)))), (10, .t (.sc (.int .i64 fr))), (11, .t (.sc (.int .i64 (to + (((l.getD i default)).n))))), (13, .ptr 96 0), (16, .t (.lst 2 (List.map stepT l))), (17, .t (.sc (.int .i64 (l.length : Int)))), (18, .t (.sc (.int .i64 (i : Int))))]) (l := [(96, .box [.t (.sc (.int .i64 (((l.getD i default)).kind))), .t (.sc (.int .i64 (((l.getD i default)).n)))])])
            (C := [AVal.t (.sc (.int .i64 (to + (((l.getD i default)).n)))) = .t (.sc (.int .i64 (IntKind.i64.wrap (to + (((l.getD i default)).n)))))]) (by kernel_rfl) ?_ ?_
          · -- region 11
            refine ⟨(nw ?_), trivial⟩
            all_goals (first | omega | with_reducible exact fun h => h | (intro hg hq; rw [hg, hq]; rfl) | (intro hq; rw [hq]; done) | (intro hq; rw [hq]; rfl) | ((try intro hg); (try simp [-List.getD_eq_getElem?_getD] at hg); (try simp only [List.length_map]); first | done | omega | rfl | (simp; done) | (simp; omega) | (simp [hg]; done) | (intro hq; simp [hg, hq]; done) | (intro hq; simp [hg, hq]; omega)))
          refine andThen_normal ?_
          refine Sim.seq ?_
          refine Sim.reg (orcs := []) (keys := [1, 2, 8, 9, 10, 11, 13, 16, 17, 18, 60]) (τ := [(96, 96)]) (nx := 464)
            (sl := [(1, .t (.sc (.int .i64 f))), (2, .t (.sc (.int .i64 t))), (8, .t (.sc (.int .i64 ((to + (max f fr)) - fr)))), (9, .t (.sc (.int .i64 ((to + (min t (fr + (((l.getD i default)).n)))) - fr)))), (10, .t (.sc (.int .i64 fr))), (11, .t (.sc (.int .i64 (to + (((l.getD i default)).n))))), (13, .ptr 96 0), (16, .t (.lst 2 (List.map stepT l))), (17, .t (.sc (.int .i64 (l.length : Int)))), (18, .t (.sc (.int .i64 (i : Int)))), (60, .t (.sc (.bool ((((l.getD i default)).kind) != 1))))]) (l := [(96, .box [.t (.sc (.int .i64 (((l.getD i default)).kind))), .t (.sc (.int .i64 (((l.getD i default)).n)))])])
            (C := []) (by kernel_rfl) ?_ ?_
          · -- region 12
            trivial
          refine andThen_normal ?_
          refine Sim.cond (b := ((((l.getD i default)).kind) != 1)) (by kernel_rfl) (fun h12 => ?_) (fun h12 => ?_)
          · (try simp only [bne_iff_ne, bne_eq_false_iff_eq, ne_eq] at h12)
            refine Sim.reg (orcs := [(3, ⟨some (.t (.sc (.int .i64 (fr + (((l.getD i default)).n))))), none, none, none⟩)]) (keys := [1, 2, 8, 9, 10, 11, 16, 17, 18]) (τ := []) (nx := 504)
              (sl := [(1, .t (.sc (.int .i64 f))), (2, .t (.sc (.int .i64 t))), (8, .t (.sc (.int .i64 ((to + (max f fr)) - fr)))), (9, .t (.sc (.int .i64 ((to + (min t (fr + (((l.getD i default)).n)))) - fr)))), (10, .t (.sc (.int .i64 (fr + (((l.getD i default)).n))))), (11, .t (.sc (.int .i64 (to + (((l.getD i default)).n))))), (16, .t (.lst 2 (List.map stepT l))), (17, .t (.sc (.int .i64 (l.length : Int)))), (18, .t (.sc (.int .i64 (i : Int))))]) (l := [])
              (C := [AVal.t (.sc (.int .i64 (fr + (((l.getD i default)).n)))) = .t (.sc (.int .i64 (IntKind.i64.wrap (fr + (((l.getD i default)).n)))))]) (by kernel_rfl) ?_ ?_
            · -- region 13
              refine ⟨(nw ?_), trivial⟩
              all_goals (first | omega | with_reducible exact fun h => h | (intro hg hq; rw [hg, hq]; rfl) | (intro hq; rw [hq]; done) | (intro hq; rw [hq]; rfl) | ((try intro hg); (try simp [-List.getD_eq_getElem?_getD] at hg); (try simp only [List.length_map]); first | done | omega | rfl | (simp; done) | (simp; omega) | (simp [hg]; done) | (intro hq; simp [hg, hq]; done) | (intro hq; simp [hg, hq]; omega)))
            refine inBlk_normal ?_
            refine andThen_normal ?_
            refine Sim.reg (orcs := [(0, ⟨some (.t (.sc (.int .i64 ((i : Int) + 1)))), none, none, none⟩)]) (keys := [1, 2, 8, 9, 10, 11, 16, 17, 18]) (τ := []) (nx := 520)
              (sl := [(1, .t (.sc (.int .i64 f))), (2, .t (.sc (.int .i64 t))), (8, .t (.sc (.int .i64 ((to + (max f fr)) - fr)))), (9, .t (.sc (.int .i64 ((to + (min t (fr + (((l.getD i default)).n)))) - fr)))), (10, .t (.sc (.int .i64 (fr + (((l.getD i default)).n))))), (11, .t (.sc (.int .i64 (to + (((l.getD i default)).n))))), (16, .t (.lst 2 (List.map stepT l))), (17, .t (.sc (.int .i64 (l.length : Int)))), (18, .t (.sc (.int .i64 ((i : Int) + 1))))]) (l := [])
              (C := [AVal.t (.sc (.int .i64 ((i : Int) + 1))) = .t (.sc (.int .i64 (IntKind.i64.wrap ((i : Int) + 1))))]) (by kernel_rfl) ?_ ?_
            · -- region 14
              refine ⟨(nw ?_), trivial⟩
              all_goals (first | omega | with_reducible exact fun h => h | (intro hg hq; rw [hg, hq]; rfl) | (intro hq; rw [hq]; done) | (intro hq; rw [hq]; rfl) | ((try intro hg); (try simp [-List.getD_eq_getElem?_getD] at hg); (try simp only [List.length_map]); first | done | omega | rfl | (simp; done) | (simp; omega) | (simp [hg]; done) | (intro hq; simp [hg, hq]; done) | (intro hq; simp [hg, hq]; omega)))
            refine andThen_normal ?_
            refine LoopSim.weaken (Le.ren (τ := []) (keys := [1, 2, 8, 9, 10, 11, 16, 17, 18]) (nx := 72) (sl := [(1, .t (.sc (.int .i64 f))), (2, .t (.sc (.int .i64 t))), (8, .t (.sc (.int .i64 ((to + (max f fr)) - fr)))), (9, .t (.sc (.int .i64 ((to + (min t (fr + (((l.getD i default)).n)))) - fr)))), (10, .t (.sc (.int .i64 (fr + (((l.getD i default)).n))))), (11, .t (.sc (.int .i64 (to + (((l.getD i default)).n))))), (16, .t (.lst 2 (List.map stepT l))), (17, .t (.sc (.int .i64 (l.length : Int)))), (18, .t (.sc (.int .i64 (((i + 1) : Nat) : Int))))]) (l := []) (by kernel_rfl)) ?_
            refine ih3 (((to + (max f fr)) - fr), ((to + (min t (fr + (((l.getD i default)).n)))) - fr), (fr + (((l.getD i default)).n)), (to + (((l.getD i default)).n)), (i + 1)) ?_ ?_
            · -- back 3.1, invariant
              obtain ⟨s1, s2, s3, s4, s5⟩ := hst
              (first | rw [if_pos (by omega)] at s1 | rw [if_neg (by omega)] at s1)
              (first | rw [if_pos (by omega)] at s2 | rw [if_neg (by omega)] at s2)
              refine ⟨by omega, by omega, by omega, by omega, by omega, by omega, by omega, by omega, by omega, ?_⟩
              rw [I3.2.2.2.2.2.2.2.2.2, hd, hullS]
              congr 1 <;> ((repeat' split) <;> first | rfl | omega)
            · -- back 3.1, measure
              show (_:Nat) < _; (first | omega | with_reducible exact fun h => h | (intro hq; rw [hq]; done) | (intro hq; rw [hq]; rfl) | (simp only [List.length_map]; done) | (simp only [List.length_map]; omega) | (simp; omega) | (simp; done))
          · (try simp only [bne_iff_ne, bne_eq_false_iff_eq, ne_eq] at h12)
            refine Sim.skip ?_
            refine inBlk_normal ?_
            refine andThen_normal ?_
            refine Sim.reg (orcs := [(0, ⟨some (.t (.sc (.int .i64 ((i : Int) + 1)))), none, none, none⟩)]) (keys := [1, 2, 8, 9, 10, 11, 16, 17, 18]) (τ := []) (nx := 480)
              (sl := [(1, .t (.sc (.int .i64 f))), (2, .t (.sc (.int .i64 t))), (8, .t (.sc (.int .i64 ((to + (max f fr)) - fr)))), (9, .t (.sc (.int .i64 ((to + (min t (fr + (((l.getD i default)).n)))) - fr)))), (10, .t (.sc (.int .i64 fr))), (11, .t (.sc (.int .i64 (to + (((l.getD i default)).n))))), (16, .t (.lst 2 (List.map stepT l))), (17, .t (.sc (.int .i64 (l.length : Int)))), (18, .t (.sc (.int .i64 ((i : Int) + 1))))]) (l := [])
              (C := [AVal.t (.sc (.int .i64 ((i : Int) + 1))) = .t (.sc (.int .i64 (IntKind.i64.wrap ((i : Int) + 1))))]) (by kernel_rfl) ?_ ?_
            · -- region 14
              refine ⟨(nw ?_), trivial⟩
              all_goals (first | omega | with_reducible exact fun h => h | (intro hg hq; rw [hg, hq]; rfl) | (intro hq; rw [hq]; done) | (intro hq; rw [hq]; rfl) | ((try intro hg); (try simp [-List.getD_eq_getElem?_getD] at hg); (try simp only [List.length_map]); first | done | omega | rfl | (simp; done) | (simp; omega) | (simp [hg]; done) | (intro hq; simp [hg, hq]; done) | (intro hq; simp [hg, hq]; omega)))
            refine andThen_normal ?_
            refine LoopSim.weaken (Le.ren (τ := []) (keys := [1, 2, 8, 9, 10, 11, 16, 17, 18]) (nx := 72) (sl := [(1, .t (.sc (.int .i64 f))), (2, .t (.sc (.int .i64 t))), (8, .t (.sc (.int .i64 ((to + (max f fr)) - fr)))), (9, .t (.sc (.int .i64 ((to + (min t (fr + (((l.getD i default)).n)))) - fr)))), (10, .t (.sc (.int .i64 fr))), (11, .t (.sc (.int .i64 (to + (((l.getD i default)).n))))), (16, .t (.lst 2 (List.map stepT l))), (17, .t (.sc (.int .i64 (l.length : Int)))), (18, .t (.sc (.int .i64 (((i + 1) : Nat) : Int))))]) (l := []) (by kernel_rfl)) ?_
            refine ih3 (((to + (max f fr)) - fr), ((to + (min t (fr + (((l.getD i default)).n)))) - fr), fr, (to + (((l.getD i default)).n)), (i + 1)) ?_ ?_
            · -- back 3.2, invariant
              obtain ⟨s1, s2, s3, s4, s5⟩ := hst
              (first | rw [if_pos (by omega)] at s1 | rw [if_neg (by omega)] at s1)
              (first | rw [if_pos (by omega)] at s2 | rw [if_neg (by omega)] at s2)
              refine ⟨by omega, by omega, by omega, by omega, by omega, by omega, by omega, by omega, by omega, ?_⟩
              rw [I3.2.2.2.2.2.2.2.2.2, hd, hullS]
              congr 1 <;> ((repeat' split) <;> first | rfl | omega)
            · -- back 3.2, measure
              show (_:Nat) < _; (first | omega | with_reducible exact fun h => h | (intro hq; rw [hq]; done) | (intro hq; rw [hq]; rfl) | (simp only [List.length_map]; done) | (simp only [List.length_map]; omega) | (simp; omega) | (simp; done))
        · (try simp only [bne_iff_ne, bne_eq_false_iff_eq, ne_eq] at h10)
          refine Sim.skip ?_
          refine andThen_normal ?_
          refine Sim.seq ?_
          refine Sim.reg (orcs := []) (keys := [1, 2, 8, 9, 10, 11, 13, 16, 17, 18, 60]) (τ := [(96, 96)]) (nx := 424)
            (sl := [(1, .t (.sc (.int .i64 f))), (2, .t (.sc (.int .i64 t))), (8, .t (.sc (.int .i64 ((to + (max f fr)) - fr)))), (9, .t (.sc (.int .i64 ((to + (min t (fr + (((l.getD i default)).n)))) - fr)))), (10, .t (.sc (.int .i64 fr))), (11, .t (.sc (.int .i64 to))), (13, .ptr 96 0), (16, .t (.lst 2 (List.map stepT l))), (17, .t (.sc (.int .i64 (l.length : Int)))), (18, .t (.sc (.int .i64 (i : Int)))), (60, .t (.sc (.bool ((((l.getD i default)).kind) != 1))))]) (l := [(96, .box [.t (.sc (.int .i64 (((l.getD i default)).kind))), .t (.sc (.int .i64 (((l.getD i default)).n)))])])
            (C := []) (by kernel_rfl) ?_ ?_
          · -- region 12
            trivial
          refine andThen_normal ?_
          refine Sim.cond (b := ((((l.getD i default)).kind) != 1)) (by kernel_rfl) (fun h12 => ?_) (fun h12 => ?_)
          · (try simp only [bne_iff_ne, bne_eq_false_iff_eq, ne_eq] at h12)
            refine Sim.reg (orcs := [(3, ⟨some (.t (.sc (.int .i64 (fr + (((l.getD i default)).n))))), none, none, none⟩)]) (keys := [1, 2, 8, 9, 10, 11, 16, 17, 18]) (τ := []) (nx := 464)
              (sl := [(1, .t (.sc (.int .i64 f))), (2, .t (.sc (.int .i64 t))), (8, .t (.sc (.int .i64 ((to + (max f fr)) - fr)))), (9, .t (.sc (.int .i64 ((to + (min t (fr + (((l.getD i default)).n)))) - fr)))), (10, .t (.sc (.int .i64 (fr + (((l.getD i default)).n))))), (11, .t (.sc (.int .i64 to))), (16, .t (.lst 2 (List.map stepT l))), (17, .t (.sc (.int .i64 (l.length : Int)))), (18, .t (.sc (.int .i64 (i : Int))))]) (l := [])
              (C := [AVal.t (.sc (.int .i64 (fr + (((l.getD i default)).n)))) = .t (.sc (.int .i64 (IntKind.i64.wrap (fr + (((l.getD i default)).n)))))]) (by kernel_rfl) ?_ ?_
            · -- region 13
              refine ⟨(nw ?_), trivial⟩
              all_goals (first | omega | with_reducible exact fun h => h | (intro hg hq; rw [hg, hq]; rfl) | (intro hq; rw [hq]; done) | (intro hq; rw [hq]; rfl) | ((try intro hg); (try simp [-List.getD_eq_getElem?_getD] at hg); (try simp only [List.length_map]); first | done | omega | rfl | (simp; done) | (simp; omega) | (simp [hg]; done) | (intro hq; simp [hg, hq]; done) | (intro hq; simp [hg, hq]; omega)))
            refine inBlk_normal ?_
            refine andThen_normal ?_
            refine Sim.reg (orcs := [(0, ⟨some (.t (.sc (.int .i64 ((i : Int) + 1)))), none, none, none⟩)]) (keys := [1, 2, 8, 9, 10, 11, 16, 17, 18]) (τ := []) (nx := 480)
              (sl := [(1, .t (.sc (.int .i64 f))), (2, .t (.sc (.int .i64 t))), (8, .t (.sc (.int .i64 ((to + (max f fr)) - fr)))), (9, .t (.sc (.int .i64 ((to + (min t (fr + (((l.getD i default)).n)))) - fr)))), (10, .t (.sc (.int .i64 (fr + (((l.getD i default)).n))))), (11, .t (.sc (.int .i64 to))), (16, .t (.lst 2 (List.map stepT l))), (17, .t (.sc (.int .i64 (l.length : Int)))), (18, .t (.sc (.int .i64 ((i : Int) + 1))))]) (l := [])
              (C := [AVal.t (.sc (.int .i64 ((i : Int) + 1))) = .t (.sc (.int .i64 (IntKind.i64.wrap ((i : Int) + 1))))]) (by kernel_rfl) ?_ ?_
            · -- region 14
              refine ⟨(nw ?_), trivial⟩
              all_goals (first | omega | with_reducible exact fun h => h | (intro hg hq; rw [hg, hq]; rfl) | (intro hq; rw [hq]; done) | (intro hq; rw [hq]; rfl) | ((try intro hg); (try simp [-List.getD_eq_getElem?_getD] at hg); (try simp only [List.length_map]); first | done | omega | rfl | (simp; done) | (simp; omega) | (simp [hg]; done) | (intro hq; simp [hg, hq]; done) | (intro hq; simp [hg, hq]; omega)))
            refine andThen_normal ?_
            refine LoopSim.weaken (Le.ren (τ := []) (keys := [1, 2, 8, 9, 10, 11, 16, 17, 18]) (nx := 72) (sl := [(1, .t (.sc (.int .i64 f))), (2, .t (.sc (.int .i64 t))), (8, .t (.sc (.int .i64 ((to + (max f fr)) - fr)))), (9, .t (.sc (.int .i64 ((to + (min t (fr + (((l.getD i default)).n)))) - fr)))), (10, .t (.sc (.int .i64 (fr + (((l.getD i default)).n))))), (11, .t (.sc (.int .i64 to))), (16, .t (.lst 2 (List.map stepT l))), (17, .t (.sc (.int .i64 (l.length : Int)))), (18, .t (.sc (.int .i64 (((i + 1) : Nat) : Int))))]) (l := []) (by kernel_rfl)) ?_
            refine ih3 (((to + (max f fr)) - fr), ((to + (min t (fr + (((l.getD i default)).n)))) - fr), (fr + (((l.getD i default)).n)), to, (i + 1)) ?_ ?_
            · -- back 3.3, invariant
              obtain ⟨s1, s2, s3, s4, s5⟩ := hst
              (first | rw [if_pos (by omega)] at s1 | rw [if_neg (by omega)] at s1)
              (first | rw [if_pos (by omega)] at s2 | rw [if_neg (by omega)] at s2)
              refine ⟨by omega, by omega, by omega, by omega, by omega, by omega, by omega, by omega, by omega, ?_⟩
              rw [I3.2.2.2.2.2.2.2.2.2, hd, hullS]
              congr 1 <;> ((repeat' split) <;> first | rfl | omega)
            · -- back 3.3, measure
              show (_:Nat) < _; (first | omega | with_reducible exact fun h => h | (intro hq; rw [hq]; done) | (intro hq; rw [hq]; rfl) | (simp only [List.length_map]; done) | (simp only [List.length_map]; omega) | (simp; omega) | (simp; done))
          · (try simp only [bne_iff_ne, bne_eq_false_iff_eq, ne_eq] at h12)
            refine Sim.skip ?_
            refine inBlk_normal ?_
            refine andThen_normal ?_
            refine Sim.reg (orcs := [(0, ⟨some (.t (.sc (.int .i64 ((i : Int) + 1)))), none, none, none⟩)]) (keys := [1, 2, 8, 9, 10, 11, 16, 17, 18]) (τ := []) (nx := 440)
              (sl := [(1, .t (.sc (.int .i64 f))), (2, .t (.sc (.int .i64 t))), (8, .t (.sc (.int .i64 ((to + (max f fr)) - fr)))), (9, .t (.sc (.int .i64 ((to + (min t (fr + (((l.getD i default)).n)))) - fr)))), (10, .t (.sc (.int .i64 fr))), (11, .t (.sc (.int .i64 to))), (16, .t (.lst 2 (List.map stepT l))), (17, .t (.sc (.int .i64 (l.length : Int)))), (18, .t (.sc (.int .i64 ((i : Int) + 1))))]) (l := [])
              (C := [AVal.t (.sc (.int .i64 ((i : Int) + 1))) = .t (.sc (.int .i64 (IntKind.i64.wrap ((i : Int) + 1))))]) (by kernel_rfl) ?_ ?_
            · -- region 14
              refine ⟨(nw ?_), trivial⟩
              all_goals (first | omega | with_reducible exact fun h => h | (intro hg hq; rw [hg, hq]; rfl) | (intro hq; rw [hq]; done) | (intro hq; rw [hq]; rfl) | ((try intro hg); (try simp [-List.getD_eq_getElem?_getD] at hg); (try simp only [List.length_map]); first | done | omega | rfl | (simp; done) | (simp; omega) | (simp [hg]; done) | (intro hq; simp [hg, hq]; done) | (intro hq; simp [hg, hq]; omega)))
            refine andThen_normal ?_
            refine LoopSim.weaken (Le.ren (τ := []) (keys := [1, 2, 8, 9, 10, 11, 16, 17, 18]) (nx := 72) (sl := [(1, .t (.sc (.int .i64 f))), (2, .t (.sc (.int .i64 t))), (8, .t (.sc (.int .i64 ((to + (max f fr)) - fr)))), (9, .t (.sc (.int .i64 ((to + (min t (fr + (((l.getD i default)).n)))) - fr)))), (10, .t (.sc (.int .i64 fr))), (11, .t (.sc (.int .i64 to))), (16, .t (.lst 2 (List.map stepT l))), (17, .t (.sc (.int .i64 (l.length : Int)))), (18, .t (.sc (.int .i64 (((i + 1) : Nat) : Int))))]) (l := []) (by kernel_rfl)) ?_
            refine ih3 (((to + (max f fr)) - fr), ((to + (min t (fr + (((l.getD i default)).n)))) - fr), fr, to, (i + 1)) ?_ ?_
            · -- back 3.4, invariant
              obtain ⟨s1, s2, s3, s4, s5⟩ := hst
              (first | rw [if_pos (by omega)] at s1 | rw [if_neg (by omega)] at s1)
              (first | rw [if_pos (by omega)] at s2 | rw [if_neg (by omega)] at s2)
              refine ⟨by omega, by omega, by omega, by omega, by omega, by omega, by omega, by omega, by omega, ?_⟩
              rw [I3.2.2.2.2.2.2.2.2.2, hd, hullS]
              congr 1 <;> ((repeat' split) <;> first | rfl | omega)
            · -- back 3.4, measure
              show (_:Nat) < _; (first | omega | with_reducible exact fun h => h | (intro hq; rw [hq]; done) | (intro hq; rw [hq]; rfl) | (simp only [List.length_map]; done) | (simp only [List.length_map]; omega) | (simp; omega) | (simp; done))
      · (try simp only [beq_iff_eq, beq_eq_false_iff_ne, ne_eq] at h7)
        refine Sim.skip ?_
        refine andThen_normal ?_
        refine Sim.reg (orcs := [(2, ⟨some (.t (.sc (.int .i64 (to + (min t (fr + (((l.getD i default)).n))))))), none, none, none⟩), (4, ⟨some (.t (.sc (.int .i64 ((to + (min t (fr + (((l.getD i default)).n)))) - fr)))), none, none, none⟩)]) (keys := [1, 2, 8, 9, 10, 11, 13, 16, 17, 18]) (τ := [(96, 96)]) (nx := 328)
          (sl := [(1, .t (.sc (.int .i64 f))), (2, .t (.sc (.int .i64 t))), (8, .t (.sc (.int .i64 first))), (9, .t (.sc (.int .i64 ((to + (min t (fr + (((l.getD i default)).n)))) - fr)))), (10, .t (.sc (.int .i64 fr))), (11, .t (.sc (.int .i64 to))), (13, .ptr 96 0), (16, .t (.lst 2 (List.map stepT l))), (17, .t (.sc (.int .i64 (l.length : Int)))), (18, .t (.sc (.int .i64 (i : Int))))]) (l := [(96, .box [.t (.sc (.int .i64 (((l.getD i default)).kind))), .t (.sc (.int .i64 (((l.getD i default)).n)))])])
          (C := [AVal.t (.sc (.int .i64 (to + (min t (fr + (((l.getD i default)).n)))))) = .t (.sc (.int .i64 (IntKind.i64.wrap (to + (min t (fr + (((l.getD i default)).n))))))), AVal.t (.sc (.int .i64 ((to + (min t (fr + (((l.getD i default)).n)))) - fr))) = .t (.sc (.int .i64 (IntKind.i64.wrap ((to + (min t (fr + (((l.getD i default)).n)))) - fr))))]) (by kernel_rfl) ?_ ?_
        · -- region 9
          refine ⟨(nw ?_), (nw ?_), trivial⟩
          all_goals (first | omega | with_reducible exact fun h => h | (intro hg hq; rw [hg, hq]; rfl) | (intro hq; rw [hq]; done) | (intro hq; rw [hq]; rfl) | ((try intro hg); (try simp [-List.getD_eq_getElem?_getD] at hg); (try simp only [List.length_map]); first | done | omega | rfl | (simp; done) | (simp; omega) | (simp [hg]; done) | (intro hq; simp [hg, hq]; done) | (intro hq; simp [hg, hq]; omega)))
        refine andThen_normal ?_
        refine Sim.seq ?_
        refine Sim.seq ?_
        refine Sim.reg (orcs := []) (keys := [1, 2, 8, 9, 10, 11, 13, 16, 17, 18, 53]) (τ := [(96, 96)]) (nx := 352)
          (sl := [(1, .t (.sc (.int .i64 f))), (2, .t (.sc (.int .i64 t))), (8, .t (.sc (.int .i64 first))), (9, .t (.sc (.int .i64 ((to + (min t (fr + (((l.getD i default)).n)))) - fr)))), (10, .t (.sc (.int .i64 fr))), (11, .t (.sc (.int .i64 to))), (13, .ptr 96 0), (16, .t (.lst 2 (List.map stepT l))), (17, .t (.sc (.int .i64 (l.length : Int)))), (18, .t (.sc (.int .i64 (i : Int)))), (53, .t (.sc (.bool ((((l.getD i default)).kind) != 2))))]) (l := [(96, .box [.t (.sc (.int .i64 (((l.getD i default)).kind))), .t (.sc (.int .i64 (((l.getD i default)).n)))])])
          (C := []) (by kernel_rfl) ?_ ?_
        · -- region 10
          trivial
        refine andThen_normal ?_
        refine Sim.cond (b := ((((l.getD i default)).kind) != 2)) (by kernel_rfl) (fun h10 => ?_) (fun h10 => ?_)
        · (try simp only [bne_iff_ne, bne_eq_false_iff_eq, ne_eq] at h10)
          refine Sim.reg (orcs := [(3, ⟨some (.t (.sc (.int .i64 (to + (((l.getD i default)).n))))), none, none, none⟩)]) (keys := [1, 2, 8, 9, 10, 11, 13, 16, 17, 18]) (τ := [(96, 96)]) (nx := 392)
            (sl := [(1, .t (.sc (.int .i64 f))), (2, .t (.sc (.int .i64 t))), (8, .t (.sc (.int .i64 first))), (9, .t (.sc (.int .i64 ((to + (min t (fr + (((l.getD i default)).n)))) - fr)))), (10, .t (.sc (.int .i64 fr))), (11, .t (.sc (.int .i64 (to + (((l.getD i default)).n))))), (13, .ptr 96 0), (16, .t (.lst 2 (List.map stepT l))), (17, .t (.sc (.int .i64 (l.length : Int)))), (18, .t (.sc (.int .i64 (i : Int))))]) (l := [(96, .box [.t (.sc (.int .i64 (((l.getD i default)).kind))), .t (.sc (.int .i64 (((l.getD i default)).n)))])])
            (C := [AVal.t (.sc (.int .i64 (to + (((l.getD i default)).n)))) = .t (.sc (.int .i64 (IntKind.i64.wrap (to + (((l.getD i default)).n)))))]) (by kernel_rfl) ?_ ?_
          · -- region 11
            refine ⟨(nw ?_), trivial⟩
            all_goals (first | omega | with_reducible exact fun h => h | (intro hg hq; rw [hg, hq]; rfl) | (intro hq; rw [hq]; done) | (intro hq; rw [hq]; rfl) | ((try intro hg); (try simp [-List.getD_eq_getElem?_getD] at hg); (try simp only [List.length_map]); first | done | omega | rfl | (simp; done) | (simp; omega) | (simp [hg]; done) | (intro hq; simp [hg, hq]; done) | (intro hq; simp [hg, hq]; omega)))
          refine andThen_normal ?_
          refine Sim.seq ?_
          refine Sim.reg (orcs := []) (keys := [1, 2, 8, 9, 10, 11, 13, 16, 17, 18, 60]) (τ := [(96, 96)]) (nx := 416)
            (sl := [(1, .t (.sc (.int .i64 f))), (2, .t (.sc (.int .i64 t))), (8, .t (.sc (.int .i64 first))), (9, .t (.sc (.int .i64 ((to + (min t (fr + (((l.getD i default)).n)))) - fr)))), (10, .t (.sc (.int .i64 fr))), (11, .t (.sc (.int .i64 (to + (((l.getD i default)).n))))), (13, .ptr 96 0), (16, .t (.lst 2 (List.map stepT l))), (17, .t (.sc (.int .i64 (l.length : Int)))), (18, .t (.sc (.int .i64 (i : Int)))), (60, .t (.sc (.bool ((((l.getD i default)).kind) != 1))))]) (l := [(96, .box [.t (.sc (.int .i64 (((l.getD i default)).kind))), .t (.sc (.int .i64 (((l.getD i default)).n)))])])
            (C := []) (by kernel_rfl) ?_ ?_
          · -- region 12
            trivial
          refine andThen_normal ?_
          refine Sim.cond (b := ((((l.getD i default)).kind) != 1)) (by kernel_rfl) (fun h12 => ?_) (fun h12 => ?_)
          · (try simp only [bne_iff_ne, bne_eq_false_iff_eq, ne_eq] at h12)
            refine Sim.reg (orcs := [(3, ⟨some (.t (.sc (.int .i64 (fr + (((l.getD i default)).n))))), none, none, none⟩)]) (keys := [1, 2, 8, 9, 10, 11, 16, 17, 18]) (τ := []) (nx := 456)
              (sl := [(1, .t (.sc (.int .i64 f))), (2, .t (.sc (.int .i64 t))), (8, .t (.sc (.int .i64 first))), (9, .t (.sc (.int .i64 ((to + (min t (fr + (((l.getD i default)).n)))) - fr)))), (10, .t (.sc (.int .i64 (fr + (((l.getD i default)).n))))), (11, .t (.sc (.int .i64 (to + (((l.getD i default)).n))))), (16, .t (.lst 2 (List.map stepT l))), (17, .t (.sc (.int .i64 (l.length : Int)))), (18, .t (.sc (.int .i64 (i : Int))))]) (l := [])
              (C := [AVal.t (.sc (.int .i64 (fr + (((l.getD i default)).n)))) = .t (.sc (.int .i64 (IntKind.i64.wrap (fr + (((l.getD i default)).n)))))]) (by kernel_rfl) ?_ ?_
            · -- region 13
              refine ⟨(nw ?_), trivial⟩
              all_goals (first | omega | with_reducible exact fun h => h | (intro hg hq; rw [hg, hq]; rfl) | (intro hq; rw [hq]; done) | (intro hq; rw [hq]; rfl) | ((try intro hg); (try simp [-List.getD_eq_getElem?_getD] at hg); (try simp only [List.length_map]); first | done | omega | rfl | (simp; done) | (simp; omega) | (simp [hg]; done) | (intro hq; simp [hg, hq]; done) | (intro hq; simp [hg, hq]; omega)))
            refine inBlk_normal ?_
            refine andThen_normal ?_
            refine Sim.reg (orcs := [(0, ⟨some (.t (.sc (.int .i64 ((i : Int) + 1)))), none, none, none⟩)]) (keys := [1, 2, 8, 9, 10, 11, 16, 17, 18]) (τ := []) (nx := 472)
              (sl := [(1, .t (.sc (.int .i64 f))), (2, .t (.sc (.int .i64 t))), (8, .t (.sc (.int .i64 first))), (9, .t (.sc (.int .i64 ((to + (min t (fr + (((l.getD i default)).n)))) - fr)))), (10, .t (.sc (.int .i64 (fr + (((l.getD i default)).n))))), (11, .t (.sc (.int .i64 (to + (((l.getD i default)).n))))), (16, .t (.lst 2 (List.map stepT l))), (17, .t (.sc (.int .i64 (l.length : Int)))), (18, .t (.sc (.int .i64 ((i : Int) + 1))))]) (l := [])
              (C := [AVal.t (.sc (.int .i64 ((i : Int) + 1))) = .t (.sc (.int .i64 (IntKind.i64.wrap ((i : Int) + 1))))]) (by kernel_rfl) ?_ ?_
            · -- region 14
              refine ⟨(nw ?_), trivial⟩
              all_goals (first | omega | with_reducible exact fun h => h | (intro hg hq; rw [hg, hq]; rfl) | (intro hq; rw [hq]; done) | (intro hq; rw [hq]; rfl) | ((try intro hg); (try simp [-List.getD_eq_getElem?_getD] at hg); (try simp only [List.length_map]); first | done | omega | rfl | (simp; done) | (simp; omega) | (simp [hg]; done) | (intro hq; simp [hg, hq]; done) | (intro hq; simp [hg, hq]; omega)))
            refine andThen_normal ?_
            refine LoopSim.weaken (Le.ren (τ := []) (keys := [1, 2, 8, 9, 10, 11, 16, 17, 18]) (nx := 72) (sl := [(1, .t (.sc (.int .i64 f))), (2, .t (.sc (.int .i64 t))), (8, .t (.sc (.int .i64 first))), (9, .t (.sc (.int .i64 ((to + (min t (fr + (((l.getD i default)).n)))) - fr)))), (10, .t (.sc (.int .i64 (fr + (((l.getD i default)).n))))), (11, .t (.sc (.int .i64 (to + (((l.getD i default)).n))))), (16, .t (.lst 2 (List.map stepT l))), (17, .t (.sc (.int .i64 (l.length : Int)))), (18, .t (.sc (.int .i64 (((i + 1) : Nat) : Int))))]) (l := []) (by kernel_rfl)) ?_
            refine ih3 (first, ((to + (min t (fr + (((l.getD i default)).n)))) - fr), (fr + (((l.getD i default)).n)), (to + (((l.getD i default)).n)), (i + 1)) ?_ ?_
            · -- back 3.5, invariant
              obtain ⟨s1, s2, s3, s4, s5⟩ := hst
              (first | rw [if_pos (by omega)] at s1 | rw [if_neg (by omega)] at s1)
              (first | rw [if_pos (by omega)] at s2 | rw [if_neg (by omega)] at s2)
              refine ⟨by omega, by omega, by omega, by omega, by omega, by omega, by omega, by omega, by omega, ?_⟩
              rw [I3.2.2.2.2.2.2.2.2.2, hd, hullS]
              congr 1 <;> ((repeat' split) <;> first | rfl | omega)
            · -- back 3.5, measure
              show (_:Nat) < _; (first | omega | with_reducible exact fun h => h | (intro hq; rw [hq]; done) | (intro hq; rw [hq]; rfl) | (simp only [List.length_map]; done) | (simp only [List.length_map]; omega) | (simp; omega) | (simp; done))
          · (try simp only [bne_iff_ne, bne_eq_false_iff_eq, ne_eq] at h12)
            refine Sim.skip ?_
            refine inBlk_normal ?_
            refine andThen_normal ?_
            refine Sim.reg (orcs := [(0, ⟨some (.t (.sc (.int .i64 ((i : Int) + 1)))), none, none, none⟩)]) (keys := [1, 2, 8, 9, 10, 11, 16, 17, 18]) (τ := []) (nx := 432)
              (sl := [(1, .t (.sc (.int .i64 f))), (2, .t (.sc (.int .i64 t))), (8, .t (.sc (.int .i64 first))), (9, .t (.sc (.int .i64 ((to + (min t (fr + (((l.getD i default)).n)))) - fr)))), (10, .t (.sc (.int .i64 fr))), (11, .t (.sc (.int .i64 (to + (((l.getD i default)).n))))), (16, .t (.lst 2 (List.map stepT l))), (17, .t (.sc (.int .i64 (l.length : Int)))), (18, .t (.sc (.int .i64 ((i : Int) + 1))))]) (l := [])
              (C := [AVal.t (.sc (.int .i64 ((i : Int) + 1))) = .t (.sc (.int .i64 (IntKind.i64.wrap ((i : Int) + 1))))]) (by kernel_rfl) ?_ ?_
            · -- region 14
              refine ⟨(nw ?_), trivial⟩
              all_goals (first | omega | with_reducible exact fun h => h | (intro hg hq; rw [hg, hq]; rfl) | (intro hq; rw [hq]; done) | (intro hq; rw [hq]; rfl) | ((try intro hg); (try simp [-List.getD_eq_getElem?_getD] at hg); (try simp only [List.length_map]); first | done | omega | rfl | (simp; done) | (simp; omega) | (simp [hg]; done) | (intro hq; simp [hg, hq]; done) | (intro hq; simp [hg, hq]; omega)))
            refine andThen_normal ?_
            refine LoopSim.weaken (Le.ren (τ := []) (keys := [1, 2, 8, 9, 10, 11, 16, 17, 18]) (nx := 72) (sl := [(1, .t (.sc (.int .i64 f))), (2, .t (.sc (.int .i64 t))), (8, .t (.sc (.int .i64 first))), (9, .t (.sc (.int .i64 ((to + (min t (fr + (((l.getD i default)).n)))) - fr)))), (10, .t (.sc (.int .i64 fr))), (11, .t (.sc (.int .i64 (to + (((l.getD i default)).n))))), (16, .t (.lst 2 (List.map stepT l))), (17, .t (.sc (.int .i64 (l.length : Int)))), (18, .t (.sc (.int .i64 (((i + 1) : Nat) : Int))))]) (l := []) (by kernel_rfl)) ?_
            refine ih3 (first, ((to + (min t (fr + (((l.getD i default)).n)))) - fr), fr, (to + (((l.getD i default)).n)), (i + 1)) ?_ ?_
            · -- back 3.6, invariant
              obtain ⟨s1, s2, s3, s4, s5⟩ := hst
              (first | rw [if_pos (by omega)] at s1 | rw [if_neg (by omega)] at s1)
              (first | rw [if_pos (by omega)] at s2 | rw [if_neg (by omega)] at s2)
              refine ⟨by omega, by omega, by omega, by omega, by omega, by omega, by omega, by omega, by omega, ?_⟩
              rw [I3.2.2.2.2.2.2.2.2.2, hd, hullS]
              congr 1 <;> ((repeat' split) <;> first | rfl | omega)
            · -- back 3.6, measure
              show (_:Nat) < _; (first | omega | with_reducible exact fun h => h | (intro hq; rw [hq]; done) | (intro hq; rw [hq]; rfl) | (simp only [List.length_map]; done) | (simp only [List.length_map]; omega) | (simp; omega) | (simp; done))
        · (try simp only [bne_iff_ne, bne_eq_false_iff_eq, ne_eq] at h10)
          refine Sim.skip ?_
          refine andThen_normal ?_
          refine Sim.seq ?_
          refine Sim.reg (orcs := []) (keys := [1, 2, 8, 9, 10, 11, 13, 16, 17, 18, 60]) (τ := [(96, 96)]) (nx := 376)
            (sl := [(1, .t (.sc (.int .i64 f))), (2, .t (.sc (.int .i64 t))), (8, .t (.sc (.int .i64 first))), (9, .t (.sc (.int .i64 ((to + (min t (fr + (((l.getD i default)).n)))) - fr)))), (10, .t (.sc (.int .i64 fr))), (11, .t (.sc (.int .i64 to))), (13, .ptr 96 0), (16, .t (.lst 2 (List.map stepT l))), (17, .t (.sc (.int .i64 (l.length : Int)))), (18, .t (.sc (.int .i64 (i : Int)))), (60, .t (.sc (.bool ((((l.getD i default)).kind) != 1))))]) (l := [(96, .box [.t (.sc (.int .i64 (((l.getD i default)).kind))), .t (.sc (.int .i64 (((l.getD i default)).n)))])])
            (C := []) (by kernel_rfl) ?_ ?_
          · -- region 12
            trivial
          refine andThen_normal ?_
          refine Sim.cond (b := ((((l.getD i default)).kind) != 1)) (by kernel_rfl) (fun h12 => ?_) (fun h12 => ?_)
          · (try simp only [bne_iff_ne, bne_eq_false_iff_eq, ne_eq] at h12)
            refine Sim.reg (orcs := [(3, ⟨some (.t (.sc (.int .i64 (fr + (((l.getD i default)).n))))), none, none, none⟩)]) (keys := [1, 2, 8, 9, 10, 11, 16, 17, 18]) (τ := []) (nx := 416)
              (sl := [(1, .t (.sc (.int .i64 f))), (2, .t (.sc (.int .i64 t))), (8, .t (.sc (.int .i64 first))), (9, .t (.sc (.int .i64 ((to + (min t (fr + (((l.getD i default)).n)))) - fr)))), (10, .t (.sc (.int .i64 (fr + (((l.getD i default)).n))))), (11, .t (.sc (.int .i64 to))), (16, .t (.lst 2 (List.map stepT l))), (17, .t (.sc (.int .i64 (l.length : Int)))), (18, .t (.sc (.int .i64 (i : Int))))]) (l := [])
              (C := [AVal.t (.sc (.int .i64 (fr + (((l.getD i default)).n)))) = .t (.sc (.int .i64 (IntKind.i64.wrap (fr + (((l.getD i default)).n)))))]) (by kernel_rfl) ?_ ?_
            · -- region 13
              refine ⟨(nw ?_), trivial⟩
              all_goals (first | omega | with_reducible exact fun h => h | (intro hg hq; rw [hg, hq]; rfl) | (intro hq; rw [hq]; done) | (intro hq; rw [hq]; rfl) | ((try intro hg); (try simp [-List.getD_eq_getElem?_getD] at hg); (try simp only [List.length_map]); first | done | omega | rfl | (simp; done) | (simp; omega) | (simp [hg]; done) | (intro hq; simp [hg, hq]; done) | (intro hq; simp [hg, hq]; omega)))
            refine inBlk_normal ?_
            refine andThen_normal ?_
            refine Sim.reg (orcs := [(0, ⟨some (.t (.sc (.int .i64 ((i : Int) + 1)))), none, none, none⟩)]) (keys := [1, 2, 8, 9, 10, 11, 16, 17, 18]) (τ := []) (nx := 432)
              (sl := [(1, .t (.sc (.int .i64 f))), (2, .t (.sc (.int .i64 t))), (8, .t (.sc (.int .i64 first))), (9, .t (.sc (.int .i64 ((to + (min t (fr + (((l.getD i default)).n)))) - fr)))), (10, .t (.sc (.int .i64 (fr + (((l.getD i default)).n))))), (11, .t (.sc (.int .i64 to))), (16, .t (.lst 2 (List.map stepT l))), (17, .t (.sc (.int .i64 (l.length : Int)))), (18, .t (.sc (.int .i64 ((i : Int) + 1))))]) (l := [])
              (C := [AVal.t (.sc (.int .i64 ((i : Int) + 1))) = .t (.sc (.int .i64 (IntKind.i64.wrap ((i : Int) + 1))))]) (by kernel_rfl) ?_ ?_
            · -- region 14
              refine ⟨(nw ?_), trivial⟩
              all_goals (first | omega | with_reducible exact fun h => h | (intro hg hq; rw [hg, hq]; rfl) | (intro hq; rw [hq]; done) | (intro hq; rw [hq]; rfl) | ((try intro hg); (try simp [-List.getD_eq_getElem?_getD] at hg); (try simp only [List.length_map]); first | done | omega | rfl | (simp; done) | (simp; omega) | (simp [hg]; done) | (intro hq; simp [hg, hq]; done) | (intro hq; simp [hg, hq]; omega)))
            refine andThen_normal ?_
            refine LoopSim.weaken (Le.ren (τ := []) (keys := [1, 2, 8, 9, 10, 11, 16, 17, 18]) (nx := 72) (sl := [(1, .t (.sc (.int .i64 f))), (2, .t (.sc (.int .i64 t))), (8, .t (.sc (.int .i64 first))), (9, .t (.sc (.int .i64 ((to + (min t (fr + (((l.getD i default)).n)))) - fr)))), (10, .t (.sc (.int .i64 (fr + (((l.getD i default)).n))))), (11, .t (.sc (.int .i64 to))), (16, .t (.lst 2 (List.map stepT l))), (17, .t (.sc (.int .i64 (l.length : Int)))), (18, .t (.sc (.int .i64 (((i + 1) : Nat) : Int))))]) (l := []) (by kernel_rfl)) ?_
            refine ih3 (first, ((to + (min t (fr + (((l.getD i default)).n)))) - fr), (fr + (((l.getD i default)).n)), to, (i + 1)) ?_ ?_
            · -- back 3.7, invariant
              obtain ⟨s1, s2, s3, s4, s5⟩ := hst
              (first | rw [if_pos (by omega)] at s1 | rw [if_neg (by omega)] at s1)
              (first | rw [if_pos (by omega)] at s2 | rw [if_neg (by omega)] at s2)
              refine ⟨by omega, by omega, by omega, by omega, by omega, by omega, by omega, by omega, by omega, ?_⟩
              rw [I3.2.2.2.2.2.2.2.2.2, hd, hullS]
              congr 1 <;> ((repeat' split) <;> first | rfl | omega)
            · -- back 3.7, measure
              show (_:Nat) < _; (first | omega | with_reducible exact fun h => h | (intro hq; rw [hq]; done) | (intro hq; rw [hq]; rfl) | (simp only [List.length_map]; done) | (simp only [List.length_map]; omega) | (simp; omega) | (simp; done))
          · (try simp only [bne_iff_ne, bne_eq_false_iff_eq, ne_eq] at h12)
            refine Sim.skip ?_
            refine inBlk_normal ?_
            refine andThen_normal ?_
            refine Sim.reg (orcs := [(0, ⟨some (.t (.sc (.int .i64 ((i : Int) + 1)))), none, none, none⟩)]) (keys := [1, 2, 8, 9, 10, 11, 16, 17, 18]) (τ := []) (nx := 392)
              (sl := [(1, .t (.sc (.int .i64 f))), (2, .t (.sc (.int .i64 t))), (8, .t (.sc (.int .i64 first))), (9, .t (.sc (.int .i64 ((to + (min t (fr + (((l.getD i default)).n)))) - fr)))), (10, .t (.sc (.int .i64 fr))), (11, .t (.sc (.int .i64 to))), (16, .t (.lst 2 (List.map stepT l))), (17, .t (.sc (.int .i64 (l.length : Int)))), (18, .t (.sc (.int .i64 ((i : Int) + 1))))]) (l := [])
              (C := [AVal.t (.sc (.int .i64 ((i : Int) + 1))) = .t (.sc (.int .i64 (IntKind.i64.wrap ((i : Int) + 1))))]) (by kernel_rfl) ?_ ?_
            · -- region 14
              refine ⟨(nw ?_), trivial⟩
              all_goals (first | omega | with_reducible exact fun h => h | (intro hg hq; rw [hg, hq]; rfl) | (intro hq; rw [hq]; done) | (intro hq; rw [hq]; rfl) | ((try intro hg); (try simp [-List.getD_eq_getElem?_getD] at hg); (try simp only [List.length_map]); first | done | omega | rfl | (simp; done) | (simp; omega) | (simp [hg]; done) | (intro hq; simp [hg, hq]; done) | (intro hq; simp [hg, hq]; omega)))
            refine andThen_normal ?_
            refine LoopSim.weaken (Le.ren (τ := []) (keys := [1, 2, 8, 9, 10, 11, 16, 17, 18]) (nx := 72) (sl := [(1, .t (.sc (.int .i64 f))), (2, .t (.sc (.int .i64 t))), (8, .t (.sc (.int .i64 first))), (9, .t (.sc (.int .i64 ((to + (min t (fr + (((l.getD i default)).n)))) - fr)))), (10, .t (.sc (.int .i64 fr))), (11, .t (.sc (.int .i64 to))), (16, .t (.lst 2 (List.map stepT l))), (17, .t (.sc (.int .i64 (l.length : Int)))), (18, .t (.sc (.int .i64 (((i + 1) : Nat) : Int))))]) (l := []) (by kernel_rfl)) ?_
            refine ih3 (first, ((to + (min t (fr + (((l.getD i default)).n)))) - fr), fr, to, (i + 1)) ?_ ?_
            · -- back 3.8, invariant
              obtain ⟨s1, s2, s3, s4, s5⟩ := hst
              (first | rw [if_pos (by omega)] at s1 | rw [if_neg (by omega)] at s1)
              (first | rw [if_pos (by omega)] at s2 | rw [if_neg (by omega)] at s2)
              refine ⟨by omega, by omega, by omega, by omega, by omega, by omega, by omega, by omega, by omega, ?_⟩
              rw [I3.2.2.2.2.2.2.2.2.2, hd, hullS]
              congr 1 <;> ((repeat' split) <;> first | rfl | omega)
            · -- back 3.8, measure
              show (_:Nat) < _; (first | omega | with_reducible exact fun h => h | (intro hq; rw [hq]; done) | (intro hq; rw [hq]; rfl) | (simp only [List.length_map]; done) | (simp only [List.length_map]; omega) | (simp; omega) | (simp; done))
    · (try simp only [decide_eq_true_eq, decide_eq_false_iff_not, Int.not_lt, Int.not_le, Bool.and_eq_true, Bool.and_eq_false_iff, Bool.not_eq_true', Bool.not_eq_false', beq_iff_eq, beq_eq_false_iff_ne, ne_eq] at h6)
      refine Sim.skip ?_
      refine andThen_normal ?_
      refine Sim.seq ?_
      refine Sim.seq ?_
      refine Sim.reg (orcs := []) (keys := [1, 2, 8, 9, 10, 11, 13, 16, 17, 18, 53]) (τ := [(96, 96)]) (nx := 288)
        (sl := [(1, .t (.sc (.int .i64 f))), (2, .t (.sc (.int .i64 t))), (8, .t (.sc (.int .i64 first))), (9, .t (.sc (.int .i64 last))), (10, .t (.sc (.int .i64 fr))), (11, .t (.sc (.int .i64 to))), (13, .ptr 96 0), (16, .t (.lst 2 (List.map stepT l))), (17, .t (.sc (.int .i64 (l.length : Int)))), (18, .t (.sc (.int .i64 (i : Int)))), (53, .t (.sc (.bool ((((l.getD i default)).kind) != 2))))]) (l := [(96, .box [.t (.sc (.int .i64 (((l.getD i default)).kind))), .t (.sc (.int .i64 (((l.getD i default)).n)))])])
        (C := []) (by kernel_rfl) ?_ ?_
      · -- region 10
        trivial
      refine andThen_normal ?_
      refine Sim.cond (b := ((((l.getD i default)).kind) != 2)) (by kernel_rfl) (fun h10 => ?_) (fun h10 => ?_)
      · (try simp only [bne_iff_ne, bne_eq_false_iff_eq, ne_eq] at h10)
        refine Sim.reg (orcs := [(3, ⟨some (.t (.sc (.int .i64 (to + (((l.getD i default)).n))))), none, none, none⟩)]) (keys := [1, 2, 8, 9, 10, 11, 13, 16, 17, 18]) (τ := [(96, 96)]) (nx := 328)
          (sl := [(1, .t (.sc (.int .i64 f))), (2, .t (.sc (.int .i64 t))), (8, .t (.sc (.int .i64 first))), (9, .t (.sc (.int .i64 last))), (10, .t (.sc (.int .i64 fr))), (11, .t (.sc (.int .i64 (to + (((l.getD i default)).n))))), (13, .ptr 96 0), (16, .t (.lst 2 (List.map stepT l))), (17, .t (.sc (.int .i64 (l.length : Int)))), (18, .t (.sc (.int .i64 (i : Int))))]) (l := [(96, .box [.t (.sc (.int .i64 (((l.getD i default)).kind))), .t (.sc (.int .i64 (((l.getD i default)).n)))])])
          (C := [AVal.t (.sc (.int .i64 (to + (((l.getD i default)).n)))) = .t (.sc (.int .i64 (IntKind.i64.wrap (to + (((l.getD i default)).n)))))]) (by kernel_rfl) ?_ ?_
        · -- region 11
          refine ⟨(nw ?_), trivial⟩
          all_goals (first | omega | with_reducible exact fun h => h | (intro hg hq; rw [hg, hq]; rfl) | (intro hq; rw [hq]; done) | (intro hq; rw [hq]; rfl) | ((try intro hg); (try simp [-List.getD_eq_getElem?_getD] at hg); (try simp only [List.length_map]); first | done | omega | rfl | (simp; done) | (simp; omega) | (simp [hg]; done) | (intro hq; simp [hg, hq]; done) | (intro hq; simp [hg, hq]; omega)))
        refine andThen_normal ?_
        refine Sim.seq ?_
        refine Sim.reg (orcs := []) (keys := [1, 2, 8, 9, 10, 11, 13, 16, 17, 18, 60]) (τ := [(96, 96)]) (nx := 352)
          (sl := [(1, .t (.sc (.int .i64 f))), (2, .t (.sc (.int .i64 t))), (8, .t (.sc (.int .i64 first))), (9, .t (.sc (.int .i64 last))), (10, .t (.sc (.int .i64 fr))), (11, .t (.sc (.int .i64 (to + (((l.getD i default)).n))))), (13, .ptr 96 0), (16, .t (.lst 2 (List.map stepT l))), (17, .t (.sc (.int .i64 (l.length : Int)))), (18, .t (.sc (.int .i64 (i : Int)))), (60, .t (.sc (.bool ((((l.getD i default)).kind) != 1))))]) (l := [(96, .box [.t (.sc (.int .i64 (((l.getD i default)).kind))), .t (.sc (.int .i64 (((l.getD i default)).n)))])])
          (C := []) (by kernel_rfl) ?_ ?_
        · -- region 12
          trivial
        refine andThen_normal ?_
        refine Sim.cond (b := ((((l.getD i default)).kind) != 1)) (by kernel_rfl) (fun h12 => ?_) (fun h12 => ?_)
        · (try simp only [bne_iff_ne, bne_eq_false_iff_eq, ne_eq] at h12)
          refine Sim.reg (orcs := [(3, ⟨some (.t (.sc (.int .i64 (fr + (((l.getD i default)).n))))), none, none, none⟩)]) (keys := [1, 2, 8, 9, 10, 11, 16, 17, 18]) (τ := []) (nx := 392)
            (sl := [(1, .t (.sc (.int .i64 f))), (2, .t (.sc (.int .i64 t))), (8, .t (.sc (.int .i64 first))), (9, .t (.sc (.int .i64 last))), (10, .t (.sc (.int .i64 (fr + (((l.getD i default)).n))))), (11, .t (.sc (.int .i64 (to + (((l.getD i default)).n))))), (16, .t (.lst 2 (List.map stepT l))), (17, .t (.sc (.int .i64 (l.length : Int)))), (18, .t (.sc (.int .i64 (i : Int))))]) (l := [])
            (C := [AVal.t (.sc (.int .i64 (fr + (((l.getD i default)).n)))) = .t (.sc (.int .i64 (IntKind.i64.wrap (fr + (((l.getD i default)).n)))))]) (by kernel_rfl) ?_ ?_
          · -- region 13
            refine ⟨(nw ?_), trivial⟩
            all_goals (first | omega | with_reducible exact fun h => h | (intro hg hq; rw [hg, hq]; rfl) | (intro hq; rw [hq]; done) | (intro hq; rw [hq]; rfl) | ((try intro hg); (try simp [-List.getD_eq_getElem?_getD] at hg); (try simp only [List.length_map]); first | done | omega | rfl | (simp; done) | (simp; omega) | (simp [hg]; done) | (intro hq; simp [hg, hq]; done) | (intro hq; simp [hg, hq]; omega)))
          refine inBlk_normal ?_
          refine andThen_normal ?_
          refine Sim.reg (orcs := [(0, ⟨some (.t (.sc (.int .i64 ((i : Int) + 1)))), none, none, none⟩)]) (keys := [1, 2, 8, 9, 10, 11, 16, 17, 18]) (τ := []) (nx := 408)
            (sl := [(1, .t (.sc (.int .i64 f))), (2, .t (.sc (.int .i64 t))), (8, .t (.sc (.int .i64 first))), (9, .t (.sc (.int .i64 last))), (10, .t (.sc (.int .i64 (fr + (((l.getD i default)).n))))), (11, .t (.sc (.int .i64 (to + (((l.getD i default)).n))))), (16, .t (.lst 2 (List.map stepT l))), (17, .t (.sc (.int .i64 (l.length : Int)))), (18, .t (.sc (.int .i64 ((i : Int) + 1))))]) (l := [])
            (C := [AVal.t (.sc (.int .i64 ((i : Int) + 1))) = .t (.sc (.int .i64 (IntKind.i64.wrap ((i : Int) + 1))))]) (by kernel_rfl) ?_ ?_
          · -- region 14
            refine ⟨(nw ?_), trivial⟩
            all_goals (first | omega | with_reducible exact fun h => h | (intro hg hq; rw [hg, hq]; rfl) | (intro hq; rw [hq]; done) | (intro hq; rw [hq]; rfl) | ((try intro hg); (try simp [-List.getD_eq_getElem?_getD] at hg); (try simp only [List.length_map]); first | done | omega | rfl | (simp; done) | (simp; omega) | (simp [hg]; done) | (intro hq; simp [hg, hq]; done) | (intro hq; simp [hg, hq]; omega)))
          refine andThen_normal ?_
          refine LoopSim.weaken (Le.ren (τ := []) (keys := [1, 2, 8, 9, 10, 11, 16, 17, 18]) (nx := 72) (sl := [(1, .t (.sc (.int .i64 f))), (2, .t (.sc (.int .i64 t))), (8, .t (.sc (.int .i64 first))), (9, .t (.sc (.int .i64 last))), (10, .t (.sc (.int .i64 (fr + (((l.getD i default)).n))))), (11, .t (.sc (.int .i64 (to + (((l.getD i default)).n))))), (16, .t (.lst 2 (List.map stepT l))), (17, .t (.sc (.int .i64 (l.length : Int)))), (18, .t (.sc (.int .i64 (((i + 1) : Nat) : Int))))]) (l := []) (by kernel_rfl)) ?_
          refine ih3 (first, last, (fr + (((l.getD i default)).n)), (to + (((l.getD i default)).n)), (i + 1)) ?_ ?_
          · -- back 3.9, invariant
            obtain ⟨s1, s2, s3, s4, s5⟩ := hst
            (first | rw [if_pos (by omega)] at s1 | rw [if_neg (by omega)] at s1)
            (first | rw [if_pos (by omega)] at s2 | rw [if_neg (by omega)] at s2)
            refine ⟨by omega, by omega, by omega, by omega, by omega, by omega, by omega, by omega, by omega, ?_⟩
            rw [I3.2.2.2.2.2.2.2.2.2, hd, hullS]
            congr 1 <;> ((repeat' split) <;> first | rfl | omega)
          · -- back 3.9, measure
            show (_:Nat) < _; (first | omega | with_reducible exact fun h => h | (intro hq; rw [hq]; done) | (intro hq; rw [hq]; rfl) | (simp only [List.length_map]; done) | (simp only [List.length_map]; omega) | (simp; omega) | (simp; done))
        · (try simp only [bne_iff_ne, bne_eq_false_iff_eq, ne_eq] at h12)
          refine Sim.skip ?_
          refine inBlk_normal ?_
          refine andThen_normal ?_
          refine Sim.reg (orcs := [(0, ⟨some (.t (.sc (.int .i64 ((i : Int) + 1)))), none, none, none⟩)]) (keys := [1, 2, 8, 9, 10, 11, 16, 17, 18]) (τ := []) (nx := 368)
            (sl := [(1, .t (.sc (.int .i64 f))), (2, .t (.sc (.int .i64 t))), (8, .t (.sc (.int .i64 first))), (9, .t (.sc (.int .i64 last))), (10, .t (.sc (.int .i64 fr))), (11, .t (.sc (.int .i64 (to + (((l.getD i default)).n))))), (16, .t (.lst 2 (List.map stepT l))), (17, .t (.sc (.int .i64 (l.length : Int)))), (18, .t (.sc (.int .i64 ((i : Int) + 1))))]) (l := [])
            (C := [AVal.t (.sc (.int .i64 ((i : Int) + 1))) = .t (.sc (.int .i64 (IntKind.i64.wrap ((i : Int) + 1))))]) (by kernel_rfl) ?_ ?_
          · -- region 14
            refine ⟨(nw ?_), trivial⟩
            all_goals (first | omega | with_reducible exact fun h => h | (intro hg hq; rw [hg, hq]; rfl) | (intro hq; rw [hq]; done) | (intro hq; rw [hq]; rfl) | ((try intro hg); (try simp [-List.getD_eq_getElem?_getD] at hg); (try simp only [List.length_map]); first | done | omega | rfl | (simp; done) | (simp; omega) | (simp [hg]; done) | (intro hq; simp [hg, hq]; done) | (intro hq; simp [hg, hq]; omega)))
          refine andThen_normal ?_
          refine LoopSim.weaken (Le.ren (τ := []) (keys := [1, 2, 8, 9, 10, 11, 16, 17, 18]) (nx := 72) (sl := [(1, .t (.sc (.int .i64 f))), (2, .t (.sc (.int .i64 t))), (8, .t (.sc (.int .i64 first))), (9, .t (.sc (.int .i64 last))), (10, .t (.sc (.int .i64 fr))), (11, .t (.sc (.int .i64 (to + (((l.getD i default)).n))))), (16, .t (.lst 2 (List.map stepT l))), (17, .t (.sc (.int .i64 (l.length : Int)))), (18, .t (.sc (.int .i64 (((i + 1) : Nat) : Int))))]) (l := []) (by kernel_rfl)) ?_
          refine ih3 (first, last, fr, (to + (((l.getD i default)).n)), (i + 1)) ?_ ?_
          · -- back 3.10, invariant
            obtain ⟨s1, s2, s3, s4, s5⟩ := hst
            (first | rw [if_pos (by omega)] at s1 | rw [if_neg (by omega)] at s1)
            (first | rw [if_pos (by omega)] at s2 | rw [if_neg (by omega)] at s2)
            refine ⟨by omega, by omega, by omega, by omega, by omega, by omega, by omega, by omega, by omega, ?_⟩
            rw [I3.2.2.2.2.2.2.2.2.2, hd, hullS]
            congr 1 <;> ((repeat' split) <;> first | rfl | omega)
          · -- back 3.10, measure
            show (_:Nat) < _; (first | omega | with_reducible exact fun h => h | (intro hq; rw [hq]; done) | (intro hq; rw [hq]; rfl) | (simp only [List.length_map]; done) | (simp only [List.length_map]; omega) | (simp; omega) | (simp; done))
      · (try simp only [bne_iff_ne, bne_eq_false_iff_eq, ne_eq] at h10)
        refine Sim.skip ?_
        refine andThen_normal ?_
        refine Sim.seq ?_
        refine Sim.reg (orcs := []) (keys := [1, 2, 8, 9, 10, 11, 13, 16, 17, 18, 60]) (τ := [(96, 96)]) (nx := 312)
          (sl := [(1, .t (.sc (.int .i64 f))), (2, .t (.sc (.int .i64 t))), (8, .t (.sc (.int .i64 first))), (9, .t (.sc (.int .i64 last))), (10, .t (.sc (.int .i64 fr))), (11, .t (.sc (.int .i64 to))), (13, .ptr 96 0), (16, .t (.lst 2 (List.map stepT l))), (17, .t (.sc (.int .i64 (l.length : Int)))), (18, .t (.sc (.int .i64 (i : Int)))), (60, .t (.sc (.bool ((((l.getD i default)).kind) != 1))))]) (l := [(96, .box [.t (.sc (.int .i64 (((l.getD i default)).kind))), .t (.sc (.int .i64 (((l.getD i default)).n)))])])
          (C := []) (by kernel_rfl) ?_ ?_
        · -- region 12
          trivial
        refine andThen_normal ?_
        refine Sim.cond (b := ((((l.getD i default)).kind) != 1)) (by kernel_rfl) (fun h12 => ?_) (fun h12 => ?_)
        · (try simp only [bne_iff_ne, bne_eq_false_iff_eq, ne_eq] at h12)
          refine Sim.reg (orcs := [(3, ⟨some (.t (.sc (.int .i64 (fr + (((l.getD i default)).n))))), none, none, none⟩)]) (keys := [1, 2, 8, 9, 10, 11, 16, 17, 18]) (τ := []) (nx := 352)
            (sl := [(1, .t (.sc (.int .i64 f))), (2, .t (.sc (.int .i64 t))), (8, .t (.sc (.int .i64 first))), (9, .t (.sc (.int .i64 last))), (10, .t (.sc (.int .i64 (fr + (((l.getD i default)).n))))), (11, .t (.sc (.int .i64 to))), (16, .t (.lst 2 (List.map stepT l))), (17, .t (.sc (.int .i64 (l.length : Int)))), (18, .t (.sc (.int .i64 (i : Int))))]) (l := [])
            (C := [AVal.t (.sc (.int .i64 (fr + (((l.getD i default)).n)))) = .t (.sc (.int .i64 (IntKind.i64.wrap (fr + (((l.getD i default)).n)))))]) (by kernel_rfl) ?_ ?_
          · -- region 13
            refine ⟨(nw ?_), trivial⟩
            all_goals (first | omega | with_reducible exact fun h => h | (intro hg hq; rw [hg, hq]; rfl) | (intro hq; rw [hq]; done) | (intro hq; rw [hq]; rfl) | ((try intro hg); (try simp [-List.getD_eq_getElem?_getD] at hg); (try simp only [List.length_map]); first | done | omega | rfl | (simp; done) | (simp; omega) | (simp [hg]; done) | (intro hq; simp [hg, hq]; done) | (intro hq; simp [hg, hq]; omega)))
          refine inBlk_normal ?_
          refine andThen_normal ?_
          refine Sim.reg (orcs := [(0, ⟨some (.t (.sc (.int .i64 ((i : Int) + 1)))), none, none, none⟩)]) (keys := [1, 2, 8, 9, 10, 11, 16, 17, 18]) (τ := []) (nx := 368)
            (sl := [(1, .t (.sc (.int .i64 f))), (2, .t (.sc (.int .i64 t))), (8, .t (.sc (.int .i64 first))), (9, .t (.sc (.int .i64 last))), (10, .t (.sc (.int .i64 (fr + (((l.getD i default)).n))))), (11, .t (.sc (.int .i64 to))), (16, .t (.lst 2 (List.map stepT l))), (17, .t (.sc (.int .i64 (l.length : Int)))), (18, .t (.sc (.int .i64 ((i : Int) + 1))))]) (l := [])
            (C := [AVal.t (.sc (.int .i64 ((i : Int) + 1))) = .t (.sc (.int .i64 (IntKind.i64.wrap ((i : Int) + 1))))]) (by kernel_rfl) ?_ ?_
          · -- region 14
            refine ⟨(nw ?_), trivial⟩
            all_goals (first | omega | with_reducible exact fun h => h | (intro hg hq; rw [hg, hq]; rfl) | (intro hq; rw [hq]; done) | (intro hq; rw [hq]; rfl) | ((try intro hg); (try simp [-List.getD_eq_getElem?_getD] at hg); (try simp only [List.length_map]); first | done | omega | rfl | (simp; done) | (simp; omega) | (simp [hg]; done) | (intro hq; simp [hg, hq]; done) | (intro hq; simp [hg, hq]; omega)))
          refine andThen_normal ?_
          refine LoopSim.weaken (Le.ren (τ := []) (keys := [1, 2, 8, 9, 10, 11, 16, 17, 18]) (nx := 72) (sl := [(1, .t (.sc (.int .i64 f))), (2, .t (.sc (.int .i64 t))), (8, .t (.sc (.int .i64 first))), (9, .t (.sc (.int .i64 last))), (10, .t (.sc (.int .i64 (fr + (((l.getD i default)).n))))), (11, .t (.sc (.int .i64 to))), (16, .t (.lst 2 (List.map stepT l))), (17, .t (.sc (.int .i64 (l.length : Int)))), (18, .t (.sc (.int .i64 (((i + 1) : Nat) : Int))))]) (l := []) (by kernel_rfl)) ?_
          refine ih3 (first, last, (fr + (((l.getD i default)).n)), to, (i + 1)) ?_ ?_
          · -- back 3.11, invariant
            obtain ⟨s1, s2, s3, s4, s5⟩ := hst
            (first | rw [if_pos (by omega)] at s1 | rw [if_neg (by omega)] at s1)
            (first | rw [if_pos (by omega)] at s2 | rw [if_neg (by omega)] at s2)
            refine ⟨by omega, by omega, by omega, by omega, by omega, by omega, by omega, by omega, by omega, ?_⟩
            rw [I3.2.2.2.2.2.2.2.2.2, hd, hullS]
            congr 1 <;> ((repeat' split) <;> first | rfl | omega)
          · -- back 3.11, measure
            show (_:Nat) < _; (first | omega | with_reducible exact fun h => h | (intro hq; rw [hq]; done) | (intro hq; rw [hq]; rfl) | (simp only [List.length_map]; done) | (simp only [List.length_map]; omega) | (simp; omega) | (simp; done))
        · (try simp only [bne_iff_ne, bne_eq_false_iff_eq, ne_eq] at h12)
          refine Sim.skip ?_
          refine inBlk_normal ?_
          refine andThen_normal ?_
          refine Sim.reg (orcs := [(0, ⟨some (.t (.sc (.int .i64 ((i : Int) + 1)))), none, none, none⟩)]) (keys := [1, 2, 8, 9, 10, 11, 16, 17, 18]) (τ := []) (nx := 328)
            (sl := [(1, .t (.sc (.int .i64 f))), (2, .t (.sc (.int .i64 t))), (8, .t (.sc (.int .i64 first))), (9, .t (.sc (.int .i64 last))), (10, .t (.sc (.int .i64 fr))), (11, .t (.sc (.int .i64 to))), (16, .t (.lst 2 (List.map stepT l))), (17, .t (.sc (.int .i64 (l.length : Int)))), (18, .t (.sc (.int .i64 ((i : Int) + 1))))]) (l := [])
            (C := [AVal.t (.sc (.int .i64 ((i : Int) + 1))) = .t (.sc (.int .i64 (IntKind.i64.wrap ((i : Int) + 1))))]) (by kernel_rfl) ?_ ?_
          · -- region 14
            refine ⟨(nw ?_), trivial⟩
            all_goals (first | omega | with_reducible exact fun h => h | (intro hg hq; rw [hg, hq]; rfl) | (intro hq; rw [hq]; done) | (intro hq; rw [hq]; rfl) | ((try intro hg); (try simp [-List.getD_eq_getElem?_getD] at hg); (try simp only [List.length_map]); first | done | omega | rfl | (simp; done) | (simp; omega) | (simp [hg]; done) | (intro hq; simp [hg, hq]; done) | (intro hq; simp [hg, hq]; omega)))
          refine andThen_normal ?_
          refine LoopSim.weaken (Le.ren (τ := []) (keys := [1, 2, 8, 9, 10, 11, 16, 17, 18]) (nx := 72) (sl := [(1, .t (.sc (.int .i64 f))), (2, .t (.sc (.int .i64 t))), (8, .t (.sc (.int .i64 first))), (9, .t (.sc (.int .i64 last))), (10, .t (.sc (.int .i64 fr))), (11, .t (.sc (.int .i64 to))), (16, .t (.lst 2 (List.map stepT l))), (17, .t (.sc (.int .i64 (l.length : Int)))), (18, .t (.sc (.int .i64 (((i + 1) : Nat) : Int))))]) (l := []) (by kernel_rfl)) ?_
          refine ih3 (first, last, fr, to, (i + 1)) ?_ ?_
          · -- back 3.12, invariant
            obtain ⟨s1, s2, s3, s4, s5⟩ := hst
            (first | rw [if_pos (by omega)] at s1 | rw [if_neg (by omega)] at s1)
            (first | rw [if_pos (by omega)] at s2 | rw [if_neg (by omega)] at s2)
            refine ⟨by omega, by omega, by omega, by omega, by omega, by omega, by omega, by omega, by omega, ?_⟩
            rw [I3.2.2.2.2.2.2.2.2.2, hd, hullS]
            congr 1 <;> ((repeat' split) <;> first | rfl | omega)
          · -- back 3.12, measure
            show (_:Nat) < _; (first | omega | with_reducible exact fun h => h | (intro hq; rw [hq]; done) | (intro hq; rw [hq]; rfl) | (simp only [List.length_map]; done) | (simp only [List.length_map]; omega) | (simp; omega) | (simp; done))
  · (try simp only [decide_eq_true_eq, decide_eq_false_iff_not, Int.not_lt, Int.not_le] at h3)
    refine Sim.exit ?_
    refine andThen_exit ?_
    refine andThen_exit ?_
    refine inBlk_same ?_
    refine andThen_normal ?_
    refine Sim.seq ?_
    refine Sim.reg (orcs := []) (keys := [6, 7]) (τ := []) (nx := 112)
      (sl := [(6, .t (.sc (.int .i64 first))), (7, .t (.sc (.int .i64 last)))]) (l := [])
      (C := []) (by kernel_rfl) ?_ ?_
    · -- region 15
      trivial
    refine andThen_normal ?_
    refine Sim.ret ?_
    refine Fin.mk2 (.inl rfl) (τ := []) (keys := [6, 7]) (nx := 112) (sl := [(6, .t (.sc (.int .i64 first))), (7, .t (.sc (.int .i64 last)))]) (l := []) (res' := .tup [.t (.sc (.int .i64 first)), .t (.sc (.int .i64 last))]) (by kernel_rfl) ?_ (by kernel_rfl) ?_
    · -- end 1, objects
      first | done | rfl
    · -- end 1, result
      have e1 : ((hullS l f t 0 0 0 0).1 : Int) = first := by
        rw [I3.2.2.2.2.2.2.2.2.2, drop_ends (by omega)]; rfl
      have e2 : ((hullS l f t 0 0 0 0).2 : Int) = last := by
        rw [I3.2.2.2.2.2.2.2.2.2, drop_ends (by omega)]; rfl
      show AVal.tup [.t (.sc (.int .i64 first)), .t (.sc (.int .i64 last))] = .tup [.t (.sc (.int .i64 ((hullS l f t 0 0 0 0).1))), .t (.sc (.int .i64 ((hullS l f t 0 0 0 0).2)))]
      rw [e1, e2]
      try rfl

theorem fc_rest (l : List AxStep) (f t : Int) (hv : Valid l) (hf : 0 ≤ f ∧ f ≤ t ∧ t ≤ oldI l) : FC Try.prog 43 [.t (.lst 2 (List.map stepT l)), .t (.sc (.int .i64 f)), .t (.sc (.int .i64 t))] (app emp []) (.tup [.t (.sc (.int .i64 ((hullS l f t 0 0 0 0).1))), .t (.sc (.int .i64 ((hullS l f t 0 0 0 0).2))), .t (.sc (.int .i64 0))]) (app emp []) := by
  refine FC.of_sim (fn := Try.f43) (nx := 0) (by kernel_rfl) rfl (by kernel_rfl) rfl ?_
  show Sim _ _ _ _ ⟨[(0, .t (.lst 2 (List.map stepT l))), (1, .t (.sc (.int .i64 f))), (2, .t (.sc (.int .i64 t)))], app emp [], 0⟩ _
  refine Sim.len (t := 0) (k := 2) rfl (fun hl0 => ?_)
  rw [List.length_map] at hl0
  have ca := check_iff.2 hv
  have hv1 : oldI l ≤ 2147483647 := by have := hv.2.1; unfold oldI; omega
  have hv2 : newI l ≤ 2147483647 := by have := hv.2.2; unfold newI; omega
  have o0 : 0 ≤ oldI l := by unfold oldI; omega
  have o1 : 0 ≤ newI l := by unfold newI; omega
  refine Sim.seq ?_
  refine Sim.reg (orcs := []) (keys := [0, 1, 2]) (τ := []) (nx := 24)
    (sl := [(0, .t (.lst 2 (List.map stepT l))), (1, .t (.sc (.int .i64 f))), (2, .t (.sc (.int .i64 t)))]) (l := [])
    (C := []) (by kernel_rfl) ?_ ?_
  · -- region 0
    trivial
  refine andThen_normal ?_
  refine Sim.seq ?_
  refine Sim.seq ?_
  refine Sim.reg (orcs := [(1, ⟨none, none, none, some (⟨0, [], .t (.sc (.int .i64 (checkX l))), []⟩)⟩)]) (keys := [0, 1, 2, 9]) (τ := []) (nx := 48)
    (sl := [(0, .t (.lst 2 (List.map stepT l))), (1, .t (.sc (.int .i64 f))), (2, .t (.sc (.int .i64 t))), (9, .t (.sc (.int .i64 (checkX l))))]) (l := [])
    (C := [callable Try.prog 89 = true, FC Try.prog 89 [.t (.lst 2 (List.map stepT l))] emp (.t (.sc (.int .i64 (checkX l)))) emp]) (by kernel_rfl) ?_ ?_
  · -- region 1
    exact ⟨(by kernel_rfl), (fc_axCheck l), trivial⟩
  refine andThen_normal ?_
  refine Sim.seq ?_
  refine Sim.reg (orcs := []) (keys := [0, 1, 2, 9, 17]) (τ := []) (nx := 64)
    (sl := [(0, .t (.lst 2 (List.map stepT l))), (1, .t (.sc (.int .i64 f))), (2, .t (.sc (.int .i64 t))), (9, .t (.sc (.int .i64 (checkX l)))), (17, .t (.sc (.bool ((checkX l) != 0))))]) (l := [])
    (C := []) (by kernel_rfl) ?_ ?_
  · -- region 2
    trivial
  refine andThen_normal ?_
  refine Sim.cond (b := ((checkX l) != 0)) (by kernel_rfl) (fun h2 => ?_) (fun h2 => ?_)
  · (try simp only [bne_iff_ne, bne_eq_false_iff_eq, ne_eq] at h2)
    exfalso
    omega
  · (try simp only [bne_iff_ne, bne_eq_false_iff_eq, ne_eq] at h2)
    refine Sim.skip ?_
    refine andThen_normal ?_
    refine Sim.seq ?_
    refine Sim.seq ?_
    refine Sim.reg (orcs := [(1, ⟨none, none, none, some (⟨0, [], .tup [.t (.sc (.int .i64 (oldI l))), .t (.sc (.int .i64 (newI l)))], []⟩)⟩)]) (keys := [0, 1, 2, 10]) (τ := []) (nx := 120)
      (sl := [(0, .t (.lst 2 (List.map stepT l))), (1, .t (.sc (.int .i64 f))), (2, .t (.sc (.int .i64 t))), (10, .t (.sc (.int .i64 (oldI l))))]) (l := [])
      (C := [callable Try.prog 90 = true, FC Try.prog 90 [.t (.lst 2 (List.map stepT l))] emp (.tup [.t (.sc (.int .i64 (oldI l))), .t (.sc (.int .i64 (newI l)))]) emp]) (by kernel_rfl) ?_ ?_
    · -- region 4
      exact ⟨(by kernel_rfl), (fc_axLens l (by assumption)), trivial⟩
    refine andThen_normal ?_
    refine Sim.seq ?_
    refine Sim.reg (orcs := []) (keys := [0, 1, 2, 35]) (τ := []) (nx := 216)
      (sl := [(0, .t (.lst 2 (List.map stepT l))), (1, .t (.sc (.int .i64 f))), (2, .t (.sc (.int .i64 t))), (35, .t (.sc (.bool ((decide (f < 0) || decide (t < f)) || decide (t > (oldI l))))))]) (l := [])
      (C := [(!(decide (f < 0))) = true → (!(decide (f < 0))) = true, (!(decide (f < 0))) = true → (!(decide (f < 0))) = true, (decide (f < 0)) = false → (!(decide (f < 0))) = true, (!(decide (f < 0) || decide (t < f))) = true → (!(decide (f < 0) || decide (t < f))) = true, (!(decide (f < 0) || decide (t < f))) = true → (!(decide (f < 0) || decide (t < f))) = true, (decide (f < 0) || decide (t < f)) = false → (!(decide (f < 0) || decide (t < f))) = true]) (by kernel_rfl) ?_ ?_
    · -- region 5
      refine ⟨?_, ?_, ?_, ?_, ?_, ?_, trivial⟩
      all_goals (first | omega | with_reducible exact fun h => h | (intro hg hq; rw [hg, hq]; rfl) | (intro hq; rw [hq]; done) | (intro hq; rw [hq]; rfl) | ((try intro hg); (try simp [-List.getD_eq_getElem?_getD] at hg); (try simp only [List.length_map]); first | done | omega | rfl | (simp; done) | (simp; omega) | (simp [hg]; done) | (intro hq; simp [hg, hq]; done) | (intro hq; simp [hg, hq]; omega)))
    refine andThen_normal ?_
    refine Sim.cond (b := ((decide (f < 0) || decide (t < f)) || decide (t > (oldI l)))) (by kernel_rfl) (fun h5 => ?_) (fun h5 => ?_)
    · (try simp only [decide_eq_true_eq, decide_eq_false_iff_not, Int.not_lt, Int.not_le, gt_iff_lt, Bool.or_eq_true, Bool.or_eq_false_iff] at h5)
      exfalso
      omega
    · (try simp only [decide_eq_true_eq, decide_eq_false_iff_not, Int.not_lt, Int.not_le, gt_iff_lt, Bool.or_eq_true, Bool.or_eq_false_iff] at h5)
      refine Sim.skip ?_
      refine andThen_normal ?_
      refine Sim.seq ?_
      refine Sim.reg (orcs := [(3, ⟨none, none, none, some (⟨0, [], .tup [.t (.sc (.int .i64 ((hullS l f t 0 0 0 0).1))), .t (.sc (.int .i64 ((hullS l f t 0 0 0 0).2)))], []⟩)⟩)]) (keys := [12, 13]) (τ := []) (nx := 288)
        (sl := [(12, .t (.sc (.int .i64 ((hullS l f t 0 0 0 0).1)))), (13, .t (.sc (.int .i64 ((hullS l f t 0 0 0 0).2))))]) (l := [])
        (C := [callable Try.prog 96 = true, FC Try.prog 96 [.t (.lst 2 (List.map stepT l)), .t (.sc (.int .i64 f)), .t (.sc (.int .i64 t))] emp (.tup [.t (.sc (.int .i64 ((hullS l f t 0 0 0 0).1))), .t (.sc (.int .i64 ((hullS l f t 0 0 0 0).2)))]) emp]) (by kernel_rfl) ?_ ?_
      · -- region 7
        exact ⟨(by kernel_rfl), (fc_hull l f t (by assumption) (by omega)), trivial⟩
      refine andThen_normal ?_
      refine Sim.seq ?_
      refine Sim.reg (orcs := []) (keys := [6, 7, 8]) (τ := []) (nx := 328)
        (sl := [(6, .t (.sc (.int .i64 ((hullS l f t 0 0 0 0).1)))), (7, .t (.sc (.int .i64 ((hullS l f t 0 0 0 0).2)))), (8, .t (.sc (.int .i64 0)))]) (l := [])
        (C := []) (by kernel_rfl) ?_ ?_
      · -- region 8
        trivial
      refine andThen_normal ?_
      refine Sim.ret ?_
      refine Fin.mk2 (.inl rfl) (τ := []) (keys := [6, 7, 8]) (nx := 328) (sl := [(6, .t (.sc (.int .i64 ((hullS l f t 0 0 0 0).1)))), (7, .t (.sc (.int .i64 ((hullS l f t 0 0 0 0).2)))), (8, .t (.sc (.int .i64 0)))]) (l := []) (res' := .tup [.t (.sc (.int .i64 ((hullS l f t 0 0 0 0).1))), .t (.sc (.int .i64 ((hullS l f t 0 0 0 0).2))), .t (.sc (.int .i64 0))]) (by kernel_rfl) ?_ (by kernel_rfl) ?_
      · -- end 1, objects
        first | done | rfl
      · -- end 1, result
        first | done | rfl
end Go.Ch
