import Derived.Test.YtbdbibmbfmlobaaChAxis
set_option linter.unusedVariables false
set_option linter.unusedSimpArgs false
set_option maxRecDepth 100000
set_option maxHeartbeats 4000000
open Go Go.Proofs Go.Ab
namespace Go.Ch
theorem fc_steps (u : List Int) (hu : ∀ x ∈ u, 0 ≤ x ∧ x ≤ 2) (hlen : u.length ≤ 1000000000) : FC Try.prog 88 [.t (.lst 1 (List.map intT u))] (app emp []) (.t (.lst 2 (List.map stepT (stepsL u 0 [])))) (app emp []) := by
  refine FC.of_sim (fn := Try.f88) (nx := 0) (by kernel_rfl) rfl (by kernel_rfl) rfl ?_
  show Sim _ _ _ _ ⟨[(0, .t (.lst 1 (List.map intT u)))], app emp [], 0⟩ _
  refine Sim.len (t := 0) (k := 1) rfl (fun hl0 => ?_)
  rw [List.length_map] at hl0
  refine Sim.seq ?_
  refine Sim.reg (orcs := []) (keys := [0]) (τ := []) (nx := 8)
    (sl := [(0, .t (.lst 1 (List.map intT u)))]) (l := [])
    (C := []) (by kernel_rfl) ?_ ?_
  · -- region 0
    trivial
  refine andThen_normal ?_
  refine Sim.seq ?_
  refine Sim.reg (orcs := []) (keys := [0, 3]) (τ := []) (nx := 16)
    (sl := [(0, .t (.lst 1 (List.map intT u))), (3, .t (.sc (.slice none 0 0)))]) (l := [])
    (C := []) (by kernel_rfl) ?_ ?_
  · -- region 1
    trivial
  refine andThen_normal ?_
  refine Sim.seq ?_
  refine Sim.seq ?_
  refine Sim.reg (orcs := []) (keys := [0, 3, 4]) (τ := []) (nx := 24)
    (sl := [(0, .t (.lst 1 (List.map intT u))), (3, .t (.sc (.slice none 0 0))), (4, .t (.sc (.int .i64 0)))]) (l := [])
    (C := []) (by kernel_rfl) ?_ ?_
  · -- region 2
    trivial
  refine andThen_normal ?_
  refine Sim.block ?_
  refine Sim.weaken (Le.nilRow (t := 3) (k := 2) (id := 24) rfl rfl rfl) ?_
  refine Sim.weaken (Le.ren (τ := [(24, 24)]) (keys := [0, 3, 4]) (nx := 25) (sl := [(0, .t (.lst 1 (List.map intT u))), (3, .row 24 0), (4, .t (.sc (.int .i64 ((0 : Nat) : Int))))]) (l := [(24, .row 2 false (List.map stepT []))]) (by kernel_rfl)) ?_
  refine Sim.loop ?_
  refine loop_ind (α := Nat × (List AxStep)) (fun (i, out) => ⟨[(0, .t (.lst 1 (List.map intT u))), (3, .row 24 out.length), (4, .t (.sc (.int .i64 (i : Int))))], app emp [(24, .row 2 false (List.map stepT out))], 25⟩) (fun (i, out) => i ≤ u.length ∧ out.length ≤ 3 * i ∧ stepsL u 0 [] = stepsL u i out) (fun (i, out) => u.length - i) ?_ (0, []) ?_
  rotate_left
  · -- loop 3, start
    exact ⟨by omega, by simp, rfl⟩
  rintro ⟨i, out⟩ I3 ih3
  show LoopSim _ _ _ _ ⟨[(0, .t (.lst 1 (List.map intT u))), (3, .row 24 out.length), (4, .t (.sc (.int .i64 (i : Int))))], app emp [(24, .row 2 false (List.map stepT out))], 25⟩ _
  replace I3 : i ≤ u.length ∧ out.length ≤ 3 * i ∧ stepsL u 0 [] = stepsL u i out := I3
  refine LoopSim.step ?_
  refine Sim.seq ?_
  refine Sim.seq ?_
  refine Sim.reg (orcs := [(2, ⟨some (.t (.sc (.int .i64 (u.length : Int)))), none, none, none⟩)]) (keys := [0, 3, 4, 11]) (τ := [(24, 24)]) (nx := 57)
    (sl := [(0, .t (.lst 1 (List.map intT u))), (3, .row 24 out.length), (4, .t (.sc (.int .i64 (i : Int)))), (11, .t (.sc (.bool (decide ((i : Int) < (u.length : Int))))))]) (l := [(24, .row 2 false (List.map stepT out))])
    (C := [AVal.t (.sc (.int .i64 (u.length : Int))) = .t (.sc (.int .i64 ((List.map intT u).length : Int)))]) (by kernel_rfl) ?_ ?_
  · -- region 3
    exact ⟨len_map, trivial⟩
  refine andThen_normal ?_
  refine Sim.cond (b := decide ((i : Int) < (u.length : Int))) (by kernel_rfl) (fun h3 => ?_) (fun h3 => ?_)
  · (try simp only [decide_eq_true_eq, decide_eq_false_iff_not, Int.not_lt, Int.not_le] at h3)
    refine Sim.skip ?_
    refine andThen_normal ?_
    refine Sim.block ?_
    refine Sim.seq ?_
    refine Sim.reg (orcs := []) (keys := [0, 3, 4, 5]) (τ := [(24, 24), (57, 57)]) (nx := 65)
      (sl := [(0, .t (.lst 1 (List.map intT u))), (3, .row 24 out.length), (4, .t (.sc (.int .i64 (i : Int)))), (5, .ptr 57 0)]) (l := [(24, .row 2 false (List.map stepT out)), (57, .box [.t (.sc (.int .i64 0)), .t (.sc (.int .i64 0)), .t (.sc (.int .i64 0))])])
      (C := []) (by kernel_rfl) ?_ ?_
    · -- region 4
      trivial
    refine andThen_normal ?_
    refine Sim.seq ?_
    refine Sim.reg (orcs := []) (keys := [0, 3, 4, 5, 6]) (τ := [(24, 24), (57, 57)]) (nx := 81)
      (sl := [(0, .t (.lst 1 (List.map intT u))), (3, .row 24 out.length), (4, .t (.sc (.int .i64 (i : Int)))), (5, .ptr 57 0), (6, .t (.sc (.int .i64 (i : Int))))]) (l := [(24, .row 2 false (List.map stepT out)), (57, .box [.t (.sc (.int .i64 0)), .t (.sc (.int .i64 0)), .t (.sc (.int .i64 0))])])
      (C := []) (by kernel_rfl) ?_ ?_
    · -- region 5
      trivial
    refine andThen_normal ?_
    refine Sim.seq ?_
    refine Sim.block ?_
    refine Sim.weaken (Le.ren (τ := [(24, 24), (57, 57)]) (keys := [0, 3, 4, 5, 6]) (nx := 81) (sl := [(0, .t (.lst 1 (List.map intT u))), (3, .row 24 out.length), (4, .t (.sc (.int .i64 (i : Int)))), (5, .ptr 57 0), (6, .t (.sc (.int .i64 (i : Int))))]) (l := [(24, .row 2 false (List.map stepT out)), (57, .box [.t (.sc (.int .i64 0)), .t (.sc (.int .i64 0)), .t (.sc (.int .i64 0))])]) (by kernel_rfl)) ?_
    refine Sim.loop ?_
    refine loop_ind (α := Nat × Int × Int × Int) (fun (k, o57c0, o57c1, o57c2) => ⟨[(0, .t (.lst 1 (List.map intT u))), (3, .row 24 out.length), (4, .t (.sc (.int .i64 (i : Int)))), (5, .ptr 57 0), (6, .t (.sc (.int .i64 (k : Int))))], app emp [(24, .row 2 false (List.map stepT out)), (57, .box [.t (.sc (.int .i64 o57c0)), .t (.sc (.int .i64 o57c1)), .t (.sc (.int .i64 o57c2))])], 81⟩) (fun (k, o57c0, o57c1, o57c2) => i ≤ k ∧ k ≤ u.length ∧ segE u i i = segE u i k ∧ o57c0 = (cntX u i k 0 : Int) ∧ o57c1 = (cntX u i k 1 : Int) ∧ o57c2 = (cntX u i k 2 : Int)) (fun (k, o57c0, o57c1, o57c2) => u.length - k) ?_ (i, 0, 0, 0) ?_
    rotate_left
    · -- loop 6, start
      exact ⟨by omega, by omega, rfl, by simp [cntX_self]⟩
    rintro ⟨k, o57c0, o57c1, o57c2⟩ I6 ih6
    show LoopSim _ _ _ _ ⟨[(0, .t (.lst 1 (List.map intT u))), (3, .row 24 out.length), (4, .t (.sc (.int .i64 (i : Int)))), (5, .ptr 57 0), (6, .t (.sc (.int .i64 (k : Int))))], app emp [(24, .row 2 false (List.map stepT out)), (57, .box [.t (.sc (.int .i64 o57c0)), .t (.sc (.int .i64 o57c1)), .t (.sc (.int .i64 o57c2))])], 81⟩ _
    replace I6 : i ≤ k ∧ k ≤ u.length ∧ segE u i i = segE u i k ∧ o57c0 = (cntX u i k 0 : Int) ∧ o57c1 = (cntX u i k 1 : Int) ∧ o57c2 = (cntX u i k 2 : Int) := I6
    refine LoopSim.step ?_
    refine Sim.seq ?_
    refine Sim.seq ?_
    refine Sim.regD (by kernel_rfl) (orcs := [(2, ⟨some (.t (.sc (.int .i64 (u.length : Int)))), none, none, none⟩), (7, ⟨none, none, some (.sc (.int .i64 (u.getD k default))), none⟩), (12, ⟨none, none, some (.sc (.int .i64 (u.getD i default))), none⟩)]) (keys := [0, 3, 4, 5, 6, 29]) (τ := [(24, 24), (57, 57)]) (nx := 217)
      (sl := [(0, .t (.lst 1 (List.map intT u))), (3, .row 24 out.length), (4, .t (.sc (.int .i64 (i : Int)))), (5, .ptr 57 0), (6, .t (.sc (.int .i64 (k : Int)))), (29, .t (.sc (.bool (decide ((k : Int) < (u.length : Int)) && (((u.getD k default) == 0) == ((u.getD i default) == 0))))))]) (l := [(24, .row 2 false (List.map stepT out)), (57, .box [.t (.sc (.int .i64 o57c0)), .t (.sc (.int .i64 o57c1)), .t (.sc (.int .i64 o57c2))])])
      (C := [AVal.t (.sc (.int .i64 (u.length : Int))) = .t (.sc (.int .i64 ((List.map intT u).length : Int))), (decide ((k : Int) < (u.length : Int))) = true → (decide ((k : Int) < (u.length : Int))) = true, (decide ((k : Int) < (u.length : Int))) = true → (decide ((k : Int) < (u.length : Int))) = true, (decide ((k : Int) < (u.length : Int))) = true → (0:Int) ≤ (k : Int), (decide ((k : Int) < (u.length : Int))) = true → (List.map intT u)[k]? = some (.sc (.int .i64 (u.getD k default))), (decide ((k : Int) < (u.length : Int))) = true → (decide ((k : Int) < (u.length : Int))) = true, (decide ((k : Int) < (u.length : Int))) = true → (decide ((k : Int) < (u.length : Int))) = true, (decide ((k : Int) < (u.length : Int))) = true → (decide ((k : Int) < (u.length : Int))) = true, (decide ((k : Int) < (u.length : Int))) = true → (decide ((k : Int) < (u.length : Int))) = true, (decide ((k : Int) < (u.length : Int))) = true → (0:Int) ≤ (i : Int), (decide ((k : Int) < (u.length : Int))) = true → (List.map intT u)[i]? = some (.sc (.int .i64 (u.getD i default))), (decide ((k : Int) < (u.length : Int))) = true → (decide ((k : Int) < (u.length : Int))) = true, (decide ((k : Int) < (u.length : Int))) = true → (decide ((k : Int) < (u.length : Int))) = true, (decide ((k : Int) < (u.length : Int))) = true → (decide ((k : Int) < (u.length : Int))) = true, (decide ((k : Int) < (u.length : Int))) = true → (decide ((k : Int) < (u.length : Int))) = true, (decide ((k : Int) < (u.length : Int))) = true → (decide ((k : Int) < (u.length : Int))) = true]) (by kernel_rfl) ?_ ?_
    · -- region 6
      refine ⟨len_map, ?_, ?_, ?_, (fun hg => (elt_nat ?_)), ?_, ?_, ?_, ?_, ?_, (fun hg => (elt_nat ?_)), ?_, ?_, ?_, ?_, ?_, trivial⟩
      all_goals (first | omega | with_reducible exact fun h => h | (intro hg hq; rw [hg, hq]; rfl) | (intro hq; rw [hq]; done) | (intro hq; rw [hq]; rfl) | ((try intro hg); (try simp [-List.getD_eq_getElem?_getD] at hg); (try simp only [List.length_map]); first | done | omega | rfl | (simp; done) | (simp; omega) | (simp [hg]; done) | (intro hq; simp [hg, hq]; done) | (intro hq; simp [hg, hq]; omega)))
    refine andThen_normal ?_
    refine Sim.cond (b := (decide ((k : Int) < (u.length : Int)) && (((u.getD k default) == 0) == ((u.getD i default) == 0)))) (by kernel_rfl) (fun h6 => ?_) (fun h6 => ?_)
    · (try simp only [decide_eq_true_eq, decide_eq_false_iff_not, Int.not_lt, Int.not_le, Bool.and_eq_true, Bool.and_eq_false_iff, Bool.not_eq_true', Bool.not_eq_false', beq_iff_eq, beq_eq_false_iff_ne, ne_eq] at h6)
      refine Sim.skip ?_
      refine andThen_normal ?_
      refine Sim.block ?_
      refine Sim.seq ?_
      have hu3 := hu3_of hu (k := k) (by omega)
      have q0 := cntX_le u i k 0
      have q1 := cntX_le u i k 1
      have q2 := cntX_le u i k 2
      rcases hu3 with hk | hk | hk
      ·
        refine Sim.reg (orcs := [(2, ⟨none, none, some (.sc (.int .i64 (u.getD k default))), none⟩), (4, ⟨some (.ptr 57 0), none, none, none⟩), (6, ⟨some (.t (.sc (.int .i64 (o57c0 + 1)))), none, none, none⟩), (7, ⟨some (.ptr 57 0), none, none, none⟩)]) (keys := [0, 3, 4, 5, 6]) (τ := [(24, 24), (57, 57)]) (nx := 289)
          (sl := [(0, .t (.lst 1 (List.map intT u))), (3, .row 24 out.length), (4, .t (.sc (.int .i64 (i : Int)))), (5, .ptr 57 0), (6, .t (.sc (.int .i64 (k : Int))))]) (l := [(24, .row 2 false (List.map stepT out)), (57, .box [.t (.sc (.int .i64 (o57c0 + 1))), .t (.sc (.int .i64 o57c1)), .t (.sc (.int .i64 o57c2))])])
          (C := [(0:Int) ≤ (k : Int), (List.map intT u)[k]? = some (.sc (.int .i64 (u.getD k default))), (0:Int) ≤ (u.getD k default), (u.getD k default) < ((3 : Nat) : Int), AVal.ptr 57 0 = .ptr 57 (0 + (Int.toNat (u.getD k default)) * 1), AVal.t (.sc (.int .i64 (o57c0 + 1))) = .t (.sc (.int .i64 (IntKind.i64.wrap (o57c0 + 1)))), (0:Int) ≤ (u.getD k default), (u.getD k default) < ((3 : Nat) : Int), AVal.ptr 57 0 = .ptr 57 (0 + (Int.toNat (u.getD k default)) * 1)]) (by kernel_rfl) ?_ ?_
        · -- region 7
          refine ⟨?_, (elt_nat ?_), ?_, ?_, (by rw [hk]; rfl), (nw ?_), ?_, ?_, (by rw [hk]; rfl), trivial⟩
          all_goals (first | omega | with_reducible exact fun h => h | (intro hg hq; rw [hg, hq]; rfl) | (intro hq; rw [hq]; done) | (intro hq; rw [hq]; rfl) | ((try intro hg); (try simp [-List.getD_eq_getElem?_getD] at hg); (try simp only [List.length_map]); first | done | omega | rfl | (simp; done) | (simp; omega) | (simp [hg]; done) | (intro hq; simp [hg, hq]; done) | (intro hq; simp [hg, hq]; omega)))
        refine andThen_normal ?_
        refine Sim.reg (orcs := [(1, ⟨some (.t (.sc (.int .i64 ((k : Int) + 1)))), none, none, none⟩)]) (keys := [0, 3, 4, 5, 6]) (τ := [(24, 24), (57, 57)]) (nx := 313)
          (sl := [(0, .t (.lst 1 (List.map intT u))), (3, .row 24 out.length), (4, .t (.sc (.int .i64 (i : Int)))), (5, .ptr 57 0), (6, .t (.sc (.int .i64 ((k : Int) + 1))))]) (l := [(24, .row 2 false (List.map stepT out)), (57, .box [.t (.sc (.int .i64 (o57c0 + 1))), .t (.sc (.int .i64 o57c1)), .t (.sc (.int .i64 o57c2))])])
          (C := [AVal.t (.sc (.int .i64 ((k : Int) + 1))) = .t (.sc (.int .i64 (IntKind.i64.wrap ((k : Int) + 1))))]) (by kernel_rfl) ?_ ?_
        · -- region 8
          refine ⟨(nw ?_), trivial⟩
          all_goals (first | omega | with_reducible exact fun h => h | (intro hg hq; rw [hg, hq]; rfl) | (intro hq; rw [hq]; done) | (intro hq; rw [hq]; rfl) | ((try intro hg); (try simp [-List.getD_eq_getElem?_getD] at hg); (try simp only [List.length_map]); first | done | omega | rfl | (simp; done) | (simp; omega) | (simp [hg]; done) | (intro hq; simp [hg, hq]; done) | (intro hq; simp [hg, hq]; omega)))
        refine inBlk_normal ?_
        refine andThen_normal ?_
        refine LoopSim.weaken (Le.ren (τ := [(24, 24), (57, 57)]) (keys := [0, 3, 4, 5, 6]) (nx := 81) (sl := [(0, .t (.lst 1 (List.map intT u))), (3, .row 24 out.length), (4, .t (.sc (.int .i64 (i : Int)))), (5, .ptr 57 0), (6, .t (.sc (.int .i64 (((k + 1) : Nat) : Int))))]) (l := [(24, .row 2 false (List.map stepT out)), (57, .box [.t (.sc (.int .i64 (o57c0 + 1))), .t (.sc (.int .i64 o57c1)), .t (.sc (.int .i64 o57c2))])]) (by kernel_rfl)) ?_
        refine ih6 ((k + 1), (o57c0 + 1), o57c1, o57c2) ?_ ?_
        · -- back 6.1, invariant
          have s0 := cntX_step (u := u) (i := i) (k := k) (by omega) (by omega) 0
          have s1 := cntX_step (u := u) (i := i) (k := k) (by omega) (by omega) 1
          have s2 := cntX_step (u := u) (i := i) (k := k) (by omega) (by omega) 2
          rw [hk] at s0 s1 s2
          simp at s0 s1 s2
          refine ⟨by omega, by omega, ?_, by omega, by omega, by omega⟩
          rw [I6.2.2.1, segE, if_pos ⟨by omega, beq_cls h6.2⟩]
        · -- back 6.1, measure
          show (_:Nat) < _; (first | omega | with_reducible exact fun h => h | (intro hq; rw [hq]; done) | (intro hq; rw [hq]; rfl) | (simp only [List.length_map]; done) | (simp only [List.length_map]; omega) | (simp; omega) | (simp; done))
      ·
        refine Sim.reg (orcs := [(2, ⟨none, none, some (.sc (.int .i64 (u.getD k default))), none⟩), (4, ⟨some (.ptr 57 1), none, none, none⟩), (6, ⟨some (.t (.sc (.int .i64 (o57c1 + 1)))), none, none, none⟩), (7, ⟨some (.ptr 57 1), none, none, none⟩)]) (keys := [0, 3, 4, 5, 6]) (τ := [(24, 24), (57, 57)]) (nx := 289)
          (sl := [(0, .t (.lst 1 (List.map intT u))), (3, .row 24 out.length), (4, .t (.sc (.int .i64 (i : Int)))), (5, .ptr 57 0), (6, .t (.sc (.int .i64 (k : Int))))]) (l := [(24, .row 2 false (List.map stepT out)), (57, .box [.t (.sc (.int .i64 o57c0)), .t (.sc (.int .i64 (o57c1 + 1))), .t (.sc (.int .i64 o57c2))])])
          (C := [(0:Int) ≤ (k : Int), (List.map intT u)[k]? = some (.sc (.int .i64 (u.getD k default))), (0:Int) ≤ (u.getD k default), (u.getD k default) < ((3 : Nat) : Int), AVal.ptr 57 1 = .ptr 57 (0 + (Int.toNat (u.getD k default)) * 1), AVal.t (.sc (.int .i64 (o57c1 + 1))) = .t (.sc (.int .i64 (IntKind.i64.wrap (o57c1 + 1)))), (0:Int) ≤ (u.getD k default), (u.getD k default) < ((3 : Nat) : Int), AVal.ptr 57 1 = .ptr 57 (0 + (Int.toNat (u.getD k default)) * 1)]) (by kernel_rfl) ?_ ?_
        · -- region 7
          refine ⟨?_, (elt_nat ?_), ?_, ?_, (by rw [hk]; rfl), (nw ?_), ?_, ?_, (by rw [hk]; rfl), trivial⟩
          all_goals (first | omega | with_reducible exact fun h => h | (intro hg hq; rw [hg, hq]; rfl) | (intro hq; rw [hq]; done) | (intro hq; rw [hq]; rfl) | ((try intro hg); (try simp [-List.getD_eq_getElem?_getD] at hg); (try simp only [List.length_map]); first | done | omega | rfl | (simp; done) | (simp; omega) | (simp [hg]; done) | (intro hq; simp [hg, hq]; done) | (intro hq; simp [hg, hq]; omega)))
        refine andThen_normal ?_
        refine Sim.reg (orcs := [(1, ⟨some (.t (.sc (.int .i64 ((k : Int) + 1)))), none, none, none⟩)]) (keys := [0, 3, 4, 5, 6]) (τ := [(24, 24), (57, 57)]) (nx := 313)
          (sl := [(0, .t (.lst 1 (List.map intT u))), (3, .row 24 out.length), (4, .t (.sc (.int .i64 (i : Int)))), (5, .ptr 57 0), (6, .t (.sc (.int .i64 ((k : Int) + 1))))]) (l := [(24, .row 2 false (List.map stepT out)), (57, .box [.t (.sc (.int .i64 o57c0)), .t (.sc (.int .i64 (o57c1 + 1))), .t (.sc (.int .i64 o57c2))])])
          (C := [AVal.t (.sc (.int .i64 ((k : Int) + 1))) = .t (.sc (.int .i64 (IntKind.i64.wrap ((k : Int) + 1))))]) (by kernel_rfl) ?_ ?_
        · -- region 8
          refine ⟨(nw ?_), trivial⟩
          all_goals (first | omega | with_reducible exact fun h => h | (intro hg hq; rw [hg, hq]; rfl) | (intro hq; rw [hq]; done) | (intro hq; rw [hq]; rfl) | ((try intro hg); (try simp [-List.getD_eq_getElem?_getD] at hg); (try simp only [List.length_map]); first | done | omega | rfl | (simp; done) | (simp; omega) | (simp [hg]; done) | (intro hq; simp [hg, hq]; done) | (intro hq; simp [hg, hq]; omega)))
        refine inBlk_normal ?_
        refine andThen_normal ?_
        refine LoopSim.weaken (Le.ren (τ := [(24, 24), (57, 57)]) (keys := [0, 3, 4, 5, 6]) (nx := 81) (sl := [(0, .t (.lst 1 (List.map intT u))), (3, .row 24 out.length), (4, .t (.sc (.int .i64 (i : Int)))), (5, .ptr 57 0), (6, .t (.sc (.int .i64 (((k + 1) : Nat) : Int))))]) (l := [(24, .row 2 false (List.map stepT out)), (57, .box [.t (.sc (.int .i64 o57c0)), .t (.sc (.int .i64 (o57c1 + 1))), .t (.sc (.int .i64 o57c2))])]) (by kernel_rfl)) ?_
        refine ih6 ((k + 1), o57c0, (o57c1 + 1), o57c2) ?_ ?_
        · -- back 6.2, invariant
          have s0 := cntX_step (u := u) (i := i) (k := k) (by omega) (by omega) 0
          have s1 := cntX_step (u := u) (i := i) (k := k) (by omega) (by omega) 1
          have s2 := cntX_step (u := u) (i := i) (k := k) (by omega) (by omega) 2
          rw [hk] at s0 s1 s2
          simp at s0 s1 s2
          refine ⟨by omega, by omega, ?_, by omega, by omega, by omega⟩
          rw [I6.2.2.1, segE, if_pos ⟨by omega, beq_cls h6.2⟩]
        · -- back 6.2, measure
          show (_:Nat) < _; (first | omega | with_reducible exact fun h => h | (intro hq; rw [hq]; done) | (intro hq; rw [hq]; rfl) | (simp only [List.length_map]; done) | (simp only [List.length_map]; omega) | (simp; omega) | (simp; done))
      ·
        refine Sim.reg (orcs := [(2, ⟨none, none, some (.sc (.int .i64 (u.getD k default))), none⟩), (4, ⟨some (.ptr 57 2), none, none, none⟩), (6, ⟨some (.t (.sc (.int .i64 (o57c2 + 1)))), none, none, none⟩), (7, ⟨some (.ptr 57 2), none, none, none⟩)]) (keys := [0, 3, 4, 5, 6]) (τ := [(24, 24), (57, 57)]) (nx := 289)
          (sl := [(0, .t (.lst 1 (List.map intT u))), (3, .row 24 out.length), (4, .t (.sc (.int .i64 (i : Int)))), (5, .ptr 57 0), (6, .t (.sc (.int .i64 (k : Int))))]) (l := [(24, .row 2 false (List.map stepT out)), (57, .box [.t (.sc (.int .i64 o57c0)), .t (.sc (.int .i64 o57c1)), .t (.sc (.int .i64 (o57c2 + 1)))])])
          (C := [(0:Int) ≤ (k : Int), (List.map intT u)[k]? = some (.sc (.int .i64 (u.getD k default))), (0:Int) ≤ (u.getD k default), (u.getD k default) < ((3 : Nat) : Int), AVal.ptr 57 2 = .ptr 57 (0 + (Int.toNat (u.getD k default)) * 1), AVal.t (.sc (.int .i64 (o57c2 + 1))) = .t (.sc (.int .i64 (IntKind.i64.wrap (o57c2 + 1)))), (0:Int) ≤ (u.getD k default), (u.getD k default) < ((3 : Nat) : Int), AVal.ptr 57 2 = .ptr 57 (0 + (Int.toNat (u.getD k default)) * 1)]) (by kernel_rfl) ?_ ?_
        · -- region 7
          refine ⟨?_, (elt_nat ?_), ?_, ?_, (by rw [hk]; rfl), (nw ?_), ?_, ?_, (by rw [hk]; rfl), trivial⟩
          all_goals (first | omega | with_reducible exact fun h => h | (intro hg hq; rw [hg, hq]; rfl) | (intro hq; rw [hq]; done) | (intro hq; rw [hq]; rfl) | ((try intro hg); (try simp [-List.getD_eq_getElem?_getD] at hg); (try simp only [List.length_map]); first | done | omega | rfl | (simp; done) | (simp; omega) | (simp [hg]; done) | (intro hq; simp [hg, hq]; done) | (intro hq; simp [hg, hq]; omega)))
        refine andThen_normal ?_
        refine Sim.reg (orcs := [(1, ⟨some (.t (.sc (.int .i64 ((k : Int) + 1)))), none, none, none⟩)]) (keys := [0, 3, 4, 5, 6]) (τ := [(24, 24), (57, 57)]) (nx := 313)
          (sl := [(0, .t (.lst 1 (List.map intT u))), (3, .row 24 out.length), (4, .t (.sc (.int .i64 (i : Int)))), (5, .ptr 57 0), (6, .t (.sc (.int .i64 ((k : Int) + 1))))]) (l := [(24, .row 2 false (List.map stepT out)), (57, .box [.t (.sc (.int .i64 o57c0)), .t (.sc (.int .i64 o57c1)), .t (.sc (.int .i64 (o57c2 + 1)))])])
          (C := [AVal.t (.sc (.int .i64 ((k : Int) + 1))) = .t (.sc (.int .i64 (IntKind.i64.wrap ((k : Int) + 1))))]) (by kernel_rfl) ?_ ?_
        · -- region 8
          refine ⟨(nw ?_), trivial⟩
          all_goals (first | omega | with_reducible exact fun h => h | (intro hg hq; rw [hg, hq]; rfl) | (intro hq; rw [hq]; done) | (intro hq; rw [hq]; rfl) | ((try intro hg); (try simp [-List.getD_eq_getElem?_getD] at hg); (try simp only [List.length_map]); first | done | omega | rfl | (simp; done) | (simp; omega) | (simp [hg]; done) | (intro hq; simp [hg, hq]; done) | (intro hq; simp [hg, hq]; omega)))
        refine inBlk_normal ?_
        refine andThen_normal ?_
        refine LoopSim.weaken (Le.ren (τ := [(24, 24), (57, 57)]) (keys := [0, 3, 4, 5, 6]) (nx := 81) (sl := [(0, .t (.lst 1 (List.map intT u))), (3, .row 24 out.length), (4, .t (.sc (.int .i64 (i : Int)))), (5, .ptr 57 0), (6, .t (.sc (.int .i64 (((k + 1) : Nat) : Int))))]) (l := [(24, .row 2 false (List.map stepT out)), (57, .box [.t (.sc (.int .i64 o57c0)), .t (.sc (.int .i64 o57c1)), .t (.sc (.int .i64 (o57c2 + 1)))])]) (by kernel_rfl)) ?_
        refine ih6 ((k + 1), o57c0, o57c1, (o57c2 + 1)) ?_ ?_
        · -- back 6.3, invariant
          have s0 := cntX_step (u := u) (i := i) (k := k) (by omega) (by omega) 0
          have s1 := cntX_step (u := u) (i := i) (k := k) (by omega) (by omega) 1
          have s2 := cntX_step (u := u) (i := i) (k := k) (by omega) (by omega) 2
          rw [hk] at s0 s1 s2
          simp at s0 s1 s2
          refine ⟨by omega, by omega, ?_, by omega, by omega, by omega⟩
          rw [I6.2.2.1, segE, if_pos ⟨by omega, beq_cls h6.2⟩]
        · -- back 6.3, measure
          show (_:Nat) < _; (first | omega | with_reducible exact fun h => h | (intro hq; rw [hq]; done) | (intro hq; rw [hq]; rfl) | (simp only [List.length_map]; done) | (simp only [List.length_map]; omega) | (simp; omega) | (simp; done))
    · (try simp only [decide_eq_true_eq, decide_eq_false_iff_not, Int.not_lt, Int.not_le, Bool.and_eq_true, Bool.and_eq_false_iff, Bool.not_eq_true', Bool.not_eq_false', beq_iff_eq, beq_eq_false_iff_ne, ne_eq] at h6)
      refine Sim.exit ?_
      refine andThen_exit ?_
      refine andThen_exit ?_
      refine inBlk_same ?_
      refine andThen_normal ?_
      refine Sim.seq ?_
      refine Sim.seq ?_
      refine Sim.reg (orcs := []) (keys := [0, 3, 5, 6, 40]) (τ := [(24, 24), (57, 57)]) (nx := 225)
        (sl := [(0, .t (.lst 1 (List.map intT u))), (3, .row 24 out.length), (5, .ptr 57 0), (6, .t (.sc (.int .i64 (k : Int)))), (40, .t (.sc (.int .i64 0)))]) (l := [(24, .row 2 false (List.map stepT out)), (57, .box [.t (.sc (.int .i64 o57c0)), .t (.sc (.int .i64 o57c1)), .t (.sc (.int .i64 o57c2))])])
        (C := []) (by kernel_rfl) ?_ ?_
      · -- region 9
        trivial
      refine andThen_normal ?_
      refine Sim.block ?_
      refine Sim.loop ?_
      refine LoopSim.step ?_
      refine Sim.seq ?_
      refine Sim.reg (orcs := []) (keys := [0, 3, 5, 6, 40, 41]) (τ := [(24, 24), (57, 57)]) (nx := 233)
        (sl := [(0, .t (.lst 1 (List.map intT u))), (3, .row 24 out.length), (5, .ptr 57 0), (6, .t (.sc (.int .i64 (k : Int)))), (40, .t (.sc (.int .i64 0))), (41, .t (.sc (.bool true)))]) (l := [(24, .row 2 false (List.map stepT out)), (57, .box [.t (.sc (.int .i64 o57c0)), .t (.sc (.int .i64 o57c1)), .t (.sc (.int .i64 o57c2))])])
        (C := []) (by kernel_rfl) ?_ ?_
      · -- region 10
        trivial
      refine andThen_normal ?_
      refine Sim.seq ?_
      refine Sim.cond (b := true) (by kernel_rfl) (fun h10 => ?_) (fun h10 => ?_)
      · skip
        refine Sim.skip ?_
        refine andThen_normal ?_
        refine Sim.seq ?_
        refine Sim.block ?_
        refine Sim.seq ?_
        refine Sim.reg (orcs := []) (keys := [0, 3, 5, 6, 7, 40]) (τ := [(24, 24), (57, 57)]) (nx := 249)
          (sl := [(0, .t (.lst 1 (List.map intT u))), (3, .row 24 out.length), (5, .ptr 57 0), (6, .t (.sc (.int .i64 (k : Int)))), (7, .t (.sc (.int .i64 0))), (40, .t (.sc (.int .i64 0)))]) (l := [(24, .row 2 false (List.map stepT out)), (57, .box [.t (.sc (.int .i64 o57c0)), .t (.sc (.int .i64 o57c1)), .t (.sc (.int .i64 o57c2))])])
          (C := []) (by kernel_rfl) ?_ ?_
        · -- region 11
          trivial
        refine andThen_normal ?_
        refine Sim.seq ?_
        refine Sim.reg (orcs := []) (keys := [0, 3, 5, 6, 7, 40, 46]) (τ := [(24, 24), (57, 57)]) (nx := 281)
          (sl := [(0, .t (.lst 1 (List.map intT u))), (3, .row 24 out.length), (5, .ptr 57 0), (6, .t (.sc (.int .i64 (k : Int)))), (7, .t (.sc (.int .i64 0))), (40, .t (.sc (.int .i64 0))), (46, .t (.sc (.bool (decide (o57c0 > 0)))))]) (l := [(24, .row 2 false (List.map stepT out)), (57, .box [.t (.sc (.int .i64 o57c0)), .t (.sc (.int .i64 o57c1)), .t (.sc (.int .i64 o57c2))])])
          (C := [(0:Int) ≤ 0, 0 < ((3 : Nat) : Int)]) (by kernel_rfl) ?_ ?_
        · -- region 12
          refine ⟨?_, ?_, trivial⟩
          all_goals (first | omega | with_reducible exact fun h => h | (intro hg hq; rw [hg, hq]; rfl) | (intro hq; rw [hq]; done) | (intro hq; rw [hq]; rfl) | ((try intro hg); (try simp [-List.getD_eq_getElem?_getD] at hg); (try simp only [List.length_map]); first | done | omega | rfl | (simp; done) | (simp; omega) | (simp [hg]; done) | (intro hq; simp [hg, hq]; done) | (intro hq; simp [hg, hq]; omega)))
        refine andThen_normal ?_
        refine Sim.cond (b := decide (o57c0 > 0)) (by kernel_rfl) (fun h12 => ?_) (fun h12 => ?_)
        · (try simp only [decide_eq_true_eq, decide_eq_false_iff_not, Int.not_lt, Int.not_le, gt_iff_lt] at h12)
          refine Sim.reg (orcs := [(7, ⟨some (.row 24 ((out ++ [({ kind := 0, n := o57c0 } : AxStep)]).length)), some ([(24, .row 2 false (List.map stepT (out ++ [({ kind := 0, n := o57c0 } : AxStep)])))]), none, none⟩)]) (keys := [0, 3, 5, 6, 40]) (τ := [(24, 24), (57, 57)]) (nx := 353)
            (sl := [(0, .t (.lst 1 (List.map intT u))), (3, .row 24 ((out ++ [({ kind := 0, n := o57c0 } : AxStep)]).length)), (5, .ptr 57 0), (6, .t (.sc (.int .i64 (k : Int)))), (40, .t (.sc (.int .i64 0)))]) (l := [(24, .row 2 false (List.map stepT (out ++ [({ kind := 0, n := o57c0 } : AxStep)]))), (57, .box [.t (.sc (.int .i64 o57c0)), .t (.sc (.int .i64 o57c1)), .t (.sc (.int .i64 o57c2))])])
            (C := [(0:Int) ≤ 0, 0 < ((3 : Nat) : Int), 1 = (List.map stepT [({ kind := 0, n := o57c0 } : AxStep)]).length, (out.length : Nat) = (List.map stepT out).length, (out.length : Nat) + (List.map stepT [({ kind := 0, n := o57c0 } : AxStep)]).length ≤ 1099511627776, AVal.row 24 ((out ++ [({ kind := 0, n := o57c0 } : AxStep)]).length) = .row 24 (out.length + (List.map stepT [({ kind := 0, n := o57c0 } : AxStep)]).length), ([(24, .row 2 false (List.map stepT (out ++ [({ kind := 0, n := o57c0 } : AxStep)])))] : List (Nat × Ob)) = [(24, .row 2 false (List.map stepT out ++ List.map stepT [({ kind := 0, n := o57c0 } : AxStep)]))]]) (by kernel_rfl) ?_ ?_
          · -- region 13
            refine ⟨?_, ?_, ?_, ?_, ?_, (by simp), (row_append rfl), trivial⟩
            all_goals (first | omega | with_reducible exact fun h => h | (intro hg hq; rw [hg, hq]; rfl) | (intro hq; rw [hq]; done) | (intro hq; rw [hq]; rfl) | ((try intro hg); (try simp [-List.getD_eq_getElem?_getD] at hg); (try simp only [List.length_map]); first | done | omega | rfl | (simp; done) | (simp; omega) | (simp [hg]; done) | (intro hq; simp [hg, hq]; done) | (intro hq; simp [hg, hq]; omega)))
          refine inBlk_normal ?_
          refine andThen_normal ?_
          refine Sim.reg (orcs := [(0, ⟨some (.t (.sc (.int .i64 1))), none, none, none⟩)]) (keys := [0, 3, 5, 6, 40]) (τ := [(24, 24), (57, 57)]) (nx := 369)
            (sl := [(0, .t (.lst 1 (List.map intT u))), (3, .row 24 ((out ++ [({ kind := 0, n := o57c0 } : AxStep)]).length)), (5, .ptr 57 0), (6, .t (.sc (.int .i64 (k : Int)))), (40, .t (.sc (.int .i64 1)))]) (l := [(24, .row 2 false (List.map stepT (out ++ [({ kind := 0, n := o57c0 } : AxStep)]))), (57, .box [.t (.sc (.int .i64 o57c0)), .t (.sc (.int .i64 o57c1)), .t (.sc (.int .i64 o57c2))])])
            (C := [AVal.t (.sc (.int .i64 1)) = .t (.sc (.int .i64 (IntKind.i64.wrap (0 + 1))))]) (by kernel_rfl) ?_ ?_
          · -- region 14
            exact ⟨(by kernel_rfl), trivial⟩
          refine andThen_normal ?_
          refine LoopSim.step ?_
          refine Sim.seq ?_
          refine Sim.reg (orcs := []) (keys := [0, 3, 5, 6, 40, 41]) (τ := [(24, 24), (57, 57)]) (nx := 377)
            (sl := [(0, .t (.lst 1 (List.map intT u))), (3, .row 24 ((out ++ [({ kind := 0, n := o57c0 } : AxStep)]).length)), (5, .ptr 57 0), (6, .t (.sc (.int .i64 (k : Int)))), (40, .t (.sc (.int .i64 1))), (41, .t (.sc (.bool true)))]) (l := [(24, .row 2 false (List.map stepT (out ++ [({ kind := 0, n := o57c0 } : AxStep)]))), (57, .box [.t (.sc (.int .i64 o57c0)), .t (.sc (.int .i64 o57c1)), .t (.sc (.int .i64 o57c2))])])
            (C := []) (by kernel_rfl) ?_ ?_
          · -- region 10
            trivial
          refine andThen_normal ?_
          refine Sim.seq ?_
          refine Sim.cond (b := true) (by kernel_rfl) (fun h10 => ?_) (fun h10 => ?_)
          · skip
            refine Sim.skip ?_
            refine andThen_normal ?_
            refine Sim.seq ?_
            refine Sim.block ?_
            refine Sim.seq ?_
            refine Sim.reg (orcs := []) (keys := [0, 3, 5, 6, 7, 40]) (τ := [(24, 24), (57, 57)]) (nx := 393)
              (sl := [(0, .t (.lst 1 (List.map intT u))), (3, .row 24 ((out ++ [({ kind := 0, n := o57c0 } : AxStep)]).length)), (5, .ptr 57 0), (6, .t (.sc (.int .i64 (k : Int)))), (7, .t (.sc (.int .i64 1))), (40, .t (.sc (.int .i64 1)))]) (l := [(24, .row 2 false (List.map stepT (out ++ [({ kind := 0, n := o57c0 } : AxStep)]))), (57, .box [.t (.sc (.int .i64 o57c0)), .t (.sc (.int .i64 o57c1)), .t (.sc (.int .i64 o57c2))])])
              (C := []) (by kernel_rfl) ?_ ?_
            · -- region 11
              trivial
            refine andThen_normal ?_
            refine Sim.seq ?_
            refine Sim.reg (orcs := []) (keys := [0, 3, 5, 6, 7, 40, 46]) (τ := [(24, 24), (57, 57)]) (nx := 425)
              (sl := [(0, .t (.lst 1 (List.map intT u))), (3, .row 24 ((out ++ [({ kind := 0, n := o57c0 } : AxStep)]).length)), (5, .ptr 57 0), (6, .t (.sc (.int .i64 (k : Int)))), (7, .t (.sc (.int .i64 1))), (40, .t (.sc (.int .i64 1))), (46, .t (.sc (.bool (decide (o57c1 > 0)))))]) (l := [(24, .row 2 false (List.map stepT (out ++ [({ kind := 0, n := o57c0 } : AxStep)]))), (57, .box [.t (.sc (.int .i64 o57c0)), .t (.sc (.int .i64 o57c1)), .t (.sc (.int .i64 o57c2))])])
              (C := [(0:Int) ≤ 1, 1 < ((3 : Nat) : Int)]) (by kernel_rfl) ?_ ?_
            · -- region 12
              refine ⟨?_, ?_, trivial⟩
              all_goals (first | omega | with_reducible exact fun h => h | (intro hg hq; rw [hg, hq]; rfl) | (intro hq; rw [hq]; done) | (intro hq; rw [hq]; rfl) | ((try intro hg); (try simp [-List.getD_eq_getElem?_getD] at hg); (try simp only [List.length_map]); first | done | omega | rfl | (simp; done) | (simp; omega) | (simp [hg]; done) | (intro hq; simp [hg, hq]; done) | (intro hq; simp [hg, hq]; omega)))
            refine andThen_normal ?_
            refine Sim.cond (b := decide (o57c1 > 0)) (by kernel_rfl) (fun h12 => ?_) (fun h12 => ?_)
            · (try simp only [decide_eq_true_eq, decide_eq_false_iff_not, Int.not_lt, Int.not_le, gt_iff_lt] at h12)
              refine Sim.reg (orcs := [(7, ⟨some (.row 24 (((out ++ [({ kind := 0, n := o57c0 } : AxStep)]) ++ [({ kind := 1, n := o57c1 } : AxStep)]).length)), some ([(24, .row 2 false (List.map stepT ((out ++ [({ kind := 0, n := o57c0 } : AxStep)]) ++ [({ kind := 1, n := o57c1 } : AxStep)])))]), none, none⟩)]) (keys := [0, 3, 5, 6, 40]) (τ := [(24, 24), (57, 57)]) (nx := 497)
                (sl := [(0, .t (.lst 1 (List.map intT u))), (3, .row 24 (((out ++ [({ kind := 0, n := o57c0 } : AxStep)]) ++ [({ kind := 1, n := o57c1 } : AxStep)]).length)), (5, .ptr 57 0), (6, .t (.sc (.int .i64 (k : Int)))), (40, .t (.sc (.int .i64 1)))]) (l := [(24, .row 2 false (List.map stepT ((out ++ [({ kind := 0, n := o57c0 } : AxStep)]) ++ [({ kind := 1, n := o57c1 } : AxStep)]))), (57, .box [.t (.sc (.int .i64 o57c0)), .t (.sc (.int .i64 o57c1)), .t (.sc (.int .i64 o57c2))])])
                (C := [(0:Int) ≤ 1, 1 < ((3 : Nat) : Int), 1 = (List.map stepT [({ kind := 1, n := o57c1 } : AxStep)]).length, (((out ++ [({ kind := 0, n := o57c0 } : AxStep)]).length) : Nat) = (List.map stepT (out ++ [({ kind := 0, n := o57c0 } : AxStep)])).length, (((out ++ [({ kind := 0, n := o57c0 } : AxStep)]).length) : Nat) + (List.map stepT [({ kind := 1, n := o57c1 } : AxStep)]).length ≤ 1099511627776, AVal.row 24 (((out ++ [({ kind := 0, n := o57c0 } : AxStep)]) ++ [({ kind := 1, n := o57c1 } : AxStep)]).length) = .row 24 ((out ++ [({ kind := 0, n := o57c0 } : AxStep)]).length + (List.map stepT [({ kind := 1, n := o57c1 } : AxStep)]).length), ([(24, .row 2 false (List.map stepT ((out ++ [({ kind := 0, n := o57c0 } : AxStep)]) ++ [({ kind := 1, n := o57c1 } : AxStep)])))] : List (Nat × Ob)) = [(24, .row 2 false (List.map stepT (out ++ [({ kind := 0, n := o57c0 } : AxStep)]) ++ List.map stepT [({ kind := 1, n := o57c1 } : AxStep)]))]]) (by kernel_rfl) ?_ ?_
              · -- region 13
                refine ⟨?_, ?_, ?_, ?_, ?_, (by simp), (row_append rfl), trivial⟩
                all_goals (first | omega | with_reducible exact fun h => h | (intro hg hq; rw [hg, hq]; rfl) | (intro hq; rw [hq]; done) | (intro hq; rw [hq]; rfl) | ((try intro hg); (try simp [-List.getD_eq_getElem?_getD] at hg); (try simp only [List.length_map]); first | done | omega | rfl | (simp; done) | (simp; omega) | (simp [hg]; done) | (intro hq; simp [hg, hq]; done) | (intro hq; simp [hg, hq]; omega)))
              refine inBlk_normal ?_
              refine andThen_normal ?_
              refine Sim.reg (orcs := [(0, ⟨some (.t (.sc (.int .i64 2))), none, none, none⟩)]) (keys := [0, 3, 5, 6, 40]) (τ := [(24, 24), (57, 57)]) (nx := 513)
                (sl := [(0, .t (.lst 1 (List.map intT u))), (3, .row 24 (((out ++ [({ kind := 0, n := o57c0 } : AxStep)]) ++ [({ kind := 1, n := o57c1 } : AxStep)]).length)), (5, .ptr 57 0), (6, .t (.sc (.int .i64 (k : Int)))), (40, .t (.sc (.int .i64 2)))]) (l := [(24, .row 2 false (List.map stepT ((out ++ [({ kind := 0, n := o57c0 } : AxStep)]) ++ [({ kind := 1, n := o57c1 } : AxStep)]))), (57, .box [.t (.sc (.int .i64 o57c0)), .t (.sc (.int .i64 o57c1)), .t (.sc (.int .i64 o57c2))])])
                (C := [AVal.t (.sc (.int .i64 2)) = .t (.sc (.int .i64 (IntKind.i64.wrap (1 + 1))))]) (by kernel_rfl) ?_ ?_
              · -- region 14
                exact ⟨(by kernel_rfl), trivial⟩
              refine andThen_normal ?_
              refine LoopSim.step ?_
              refine Sim.seq ?_
              refine Sim.reg (orcs := []) (keys := [0, 3, 5, 6, 40, 41]) (τ := [(24, 24), (57, 57)]) (nx := 521)
                (sl := [(0, .t (.lst 1 (List.map intT u))), (3, .row 24 (((out ++ [({ kind := 0, n := o57c0 } : AxStep)]) ++ [({ kind := 1, n := o57c1 } : AxStep)]).length)), (5, .ptr 57 0), (6, .t (.sc (.int .i64 (k : Int)))), (40, .t (.sc (.int .i64 2))), (41, .t (.sc (.bool true)))]) (l := [(24, .row 2 false (List.map stepT ((out ++ [({ kind := 0, n := o57c0 } : AxStep)]) ++ [({ kind := 1, n := o57c1 } : AxStep)]))), (57, .box [.t (.sc (.int .i64 o57c0)), .t (.sc (.int .i64 o57c1)), .t (.sc (.int .i64 o57c2))])])
                (C := []) (by kernel_rfl) ?_ ?_
              · -- region 10
                trivial
              refine andThen_normal ?_
              refine Sim.seq ?_
              refine Sim.cond (b := true) (by kernel_rfl) (fun h10 => ?_) (fun h10 => ?_)
              · skip
                refine Sim.skip ?_
                refine andThen_normal ?_
                refine Sim.seq ?_
                refine Sim.block ?_
                refine Sim.seq ?_
                refine Sim.reg (orcs := []) (keys := [0, 3, 5, 6, 7, 40]) (τ := [(24, 24), (57, 57)]) (nx := 537)
                  (sl := [(0, .t (.lst 1 (List.map intT u))), (3, .row 24 (((out ++ [({ kind := 0, n := o57c0 } : AxStep)]) ++ [({ kind := 1, n := o57c1 } : AxStep)]).length)), (5, .ptr 57 0), (6, .t (.sc (.int .i64 (k : Int)))), (7, .t (.sc (.int .i64 2))), (40, .t (.sc (.int .i64 2)))]) (l := [(24, .row 2 false (List.map stepT ((out ++ [({ kind := 0, n := o57c0 } : AxStep)]) ++ [({ kind := 1, n := o57c1 } : AxStep)]))), (57, .box [.t (.sc (.int .i64 o57c0)), .t (.sc (.int .i64 o57c1)), .t (.sc (.int .i64 o57c2))])])
                  (C := []) (by kernel_rfl) ?_ ?_
                · -- region 11
                  trivial
                refine andThen_normal ?_
                refine Sim.seq ?_
                refine Sim.reg (orcs := []) (keys := [0, 3, 5, 6, 7, 40, 46]) (τ := [(24, 24), (57, 57)]) (nx := 569)
                  (sl := [(0, .t (.lst 1 (List.map intT u))), (3, .row 24 (((out ++ [({ kind := 0, n := o57c0 } : AxStep)]) ++ [({ kind := 1, n := o57c1 } : AxStep)]).length)), (5, .ptr 57 0), (6, .t (.sc (.int .i64 (k : Int)))), (7, .t (.sc (.int .i64 2))), (40, .t (.sc (.int .i64 2))), (46, .t (.sc (.bool (decide (o57c2 > 0)))))]) (l := [(24, .row 2 false (List.map stepT ((out ++ [({ kind := 0, n := o57c0 } : AxStep)]) ++ [({ kind := 1, n := o57c1 } : AxStep)]))), (57, .box [.t (.sc (.int .i64 o57c0)), .t (.sc (.int .i64 o57c1)), .t (.sc (.int .i64 o57c2))])])
                  (C := [(0:Int) ≤ 2, 2 < ((3 : Nat) : Int)]) (by kernel_rfl) ?_ ?_
                · -- region 12
                  refine ⟨?_, ?_, trivial⟩
                  all_goals (first | omega | with_reducible exact fun h => h | (intro hg hq; rw [hg, hq]; rfl) | (intro hq; rw [hq]; done) | (intro hq; rw [hq]; rfl) | ((try intro hg); (try simp [-List.getD_eq_getElem?_getD] at hg); (try simp only [List.length_map]); first | done | omega | rfl | (simp; done) | (simp; omega) | (simp [hg]; done) | (intro hq; simp [hg, hq]; done) | (intro hq; simp [hg, hq]; omega)))
                refine andThen_normal ?_
                refine Sim.cond (b := decide (o57c2 > 0)) (by kernel_rfl) (fun h12 => ?_) (fun h12 => ?_)
                · (try simp only [decide_eq_true_eq, decide_eq_false_iff_not, Int.not_lt, Int.not_le, gt_iff_lt] at h12)
                  refine Sim.reg (orcs := [(7, ⟨some (.row 24 ((((out ++ [({ kind := 0, n := o57c0 } : AxStep)]) ++ [({ kind := 1, n := o57c1 } : AxStep)]) ++ [({ kind := 2, n := o57c2 } : AxStep)]).length)), some ([(24, .row 2 false (List.map stepT (((out ++ [({ kind := 0, n := o57c0 } : AxStep)]) ++ [({ kind := 1, n := o57c1 } : AxStep)]) ++ [({ kind := 2, n := o57c2 } : AxStep)])))]), none, none⟩)]) (keys := [0, 3, 5, 6, 40]) (τ := [(24, 24), (57, 57)]) (nx := 641)
                    (sl := [(0, .t (.lst 1 (List.map intT u))), (3, .row 24 ((((out ++ [({ kind := 0, n := o57c0 } : AxStep)]) ++ [({ kind := 1, n := o57c1 } : AxStep)]) ++ [({ kind := 2, n := o57c2 } : AxStep)]).length)), (5, .ptr 57 0), (6, .t (.sc (.int .i64 (k : Int)))), (40, .t (.sc (.int .i64 2)))]) (l := [(24, .row 2 false (List.map stepT (((out ++ [({ kind := 0, n := o57c0 } : AxStep)]) ++ [({ kind := 1, n := o57c1 } : AxStep)]) ++ [({ kind := 2, n := o57c2 } : AxStep)]))), (57, .box [.t (.sc (.int .i64 o57c0)), .t (.sc (.int .i64 o57c1)), .t (.sc (.int .i64 o57c2))])])
                    (C := [(0:Int) ≤ 2, 2 < ((3 : Nat) : Int), 1 = (List.map stepT [({ kind := 2, n := o57c2 } : AxStep)]).length, ((((out ++ [({ kind := 0, n := o57c0 } : AxStep)]) ++ [({ kind := 1, n := o57c1 } : AxStep)]).length) : Nat) = (List.map stepT ((out ++ [({ kind := 0, n := o57c0 } : AxStep)]) ++ [({ kind := 1, n := o57c1 } : AxStep)])).length, ((((out ++ [({ kind := 0, n := o57c0 } : AxStep)]) ++ [({ kind := 1, n := o57c1 } : AxStep)]).length) : Nat) + (List.map stepT [({ kind := 2, n := o57c2 } : AxStep)]).length ≤ 1099511627776, AVal.row 24 ((((out ++ [({ kind := 0, n := o57c0 } : AxStep)]) ++ [({ kind := 1, n := o57c1 } : AxStep)]) ++ [({ kind := 2, n := o57c2 } : AxStep)]).length) = .row 24 (((out ++ [({ kind := 0, n := o57c0 } : AxStep)]) ++ [({ kind := 1, n := o57c1 } : AxStep)]).length + (List.map stepT [({ kind := 2, n := o57c2 } : AxStep)]).length), ([(24, .row 2 false (List.map stepT (((out ++ [({ kind := 0, n := o57c0 } : AxStep)]) ++ [({ kind := 1, n := o57c1 } : AxStep)]) ++ [({ kind := 2, n := o57c2 } : AxStep)])))] : List (Nat × Ob)) = [(24, .row 2 false (List.map stepT ((out ++ [({ kind := 0, n := o57c0 } : AxStep)]) ++ [({ kind := 1, n := o57c1 } : AxStep)]) ++ List.map stepT [({ kind := 2, n := o57c2 } : AxStep)]))]]) (by kernel_rfl) ?_ ?_
                  · -- region 13
                    refine ⟨?_, ?_, ?_, ?_, ?_, (by simp), (row_append rfl), trivial⟩
                    all_goals (first | omega | with_reducible exact fun h => h | (intro hg hq; rw [hg, hq]; rfl) | (intro hq; rw [hq]; done) | (intro hq; rw [hq]; rfl) | ((try intro hg); (try simp [-List.getD_eq_getElem?_getD] at hg); (try simp only [List.length_map]); first | done | omega | rfl | (simp; done) | (simp; omega) | (simp [hg]; done) | (intro hq; simp [hg, hq]; done) | (intro hq; simp [hg, hq]; omega)))
                  refine inBlk_normal ?_
                  refine andThen_normal ?_
                  refine Sim.reg (orcs := [(0, ⟨some (.t (.sc (.int .i64 3))), none, none, none⟩)]) (keys := [0, 3, 5, 6, 40]) (τ := [(24, 24), (57, 57)]) (nx := 657)
                    (sl := [(0, .t (.lst 1 (List.map intT u))), (3, .row 24 ((((out ++ [({ kind := 0, n := o57c0 } : AxStep)]) ++ [({ kind := 1, n := o57c1 } : AxStep)]) ++ [({ kind := 2, n := o57c2 } : AxStep)]).length)), (5, .ptr 57 0), (6, .t (.sc (.int .i64 (k : Int)))), (40, .t (.sc (.int .i64 3)))]) (l := [(24, .row 2 false (List.map stepT (((out ++ [({ kind := 0, n := o57c0 } : AxStep)]) ++ [({ kind := 1, n := o57c1 } : AxStep)]) ++ [({ kind := 2, n := o57c2 } : AxStep)]))), (57, .box [.t (.sc (.int .i64 o57c0)), .t (.sc (.int .i64 o57c1)), .t (.sc (.int .i64 o57c2))])])
                    (C := [AVal.t (.sc (.int .i64 3)) = .t (.sc (.int .i64 (IntKind.i64.wrap (2 + 1))))]) (by kernel_rfl) ?_ ?_
                  · -- region 14
                    exact ⟨(by kernel_rfl), trivial⟩
                  refine andThen_normal ?_
                  refine LoopSim.step ?_
                  refine Sim.seq ?_
                  refine Sim.reg (orcs := []) (keys := [0, 3, 5, 6, 40, 41]) (τ := [(24, 24), (57, 57)]) (nx := 665)
                    (sl := [(0, .t (.lst 1 (List.map intT u))), (3, .row 24 ((((out ++ [({ kind := 0, n := o57c0 } : AxStep)]) ++ [({ kind := 1, n := o57c1 } : AxStep)]) ++ [({ kind := 2, n := o57c2 } : AxStep)]).length)), (5, .ptr 57 0), (6, .t (.sc (.int .i64 (k : Int)))), (40, .t (.sc (.int .i64 3))), (41, .t (.sc (.bool false)))]) (l := [(24, .row 2 false (List.map stepT (((out ++ [({ kind := 0, n := o57c0 } : AxStep)]) ++ [({ kind := 1, n := o57c1 } : AxStep)]) ++ [({ kind := 2, n := o57c2 } : AxStep)]))), (57, .box [.t (.sc (.int .i64 o57c0)), .t (.sc (.int .i64 o57c1)), .t (.sc (.int .i64 o57c2))])])
                    (C := []) (by kernel_rfl) ?_ ?_
                  · -- region 10
                    trivial
                  refine andThen_normal ?_
                  refine Sim.seq ?_
                  refine Sim.cond (b := false) (by kernel_rfl) (fun h10 => ?_) (fun h10 => ?_)
                  · cases h10
                  · skip
                    refine Sim.exit ?_
                    refine andThen_exit ?_
                    refine andThen_exit ?_
                    refine inBlk_same ?_
                    refine andThen_normal ?_
                    refine Sim.reg (orcs := []) (keys := [0, 3, 4]) (τ := [(24, 24)]) (nx := 681)
                      (sl := [(0, .t (.lst 1 (List.map intT u))), (3, .row 24 ((((out ++ [({ kind := 0, n := o57c0 } : AxStep)]) ++ [({ kind := 1, n := o57c1 } : AxStep)]) ++ [({ kind := 2, n := o57c2 } : AxStep)]).length)), (4, .t (.sc (.int .i64 (k : Int))))]) (l := [(24, .row 2 false (List.map stepT (((out ++ [({ kind := 0, n := o57c0 } : AxStep)]) ++ [({ kind := 1, n := o57c1 } : AxStep)]) ++ [({ kind := 2, n := o57c2 } : AxStep)])))])
                      (C := []) (by kernel_rfl) ?_ ?_
                    · -- region 15
                      trivial
                    refine inBlk_normal ?_
                    refine andThen_normal ?_
                    refine LoopSim.weaken (Le.ren (τ := [(24, 24)]) (keys := [0, 3, 4]) (nx := 25) (sl := [(0, .t (.lst 1 (List.map intT u))), (3, .row 24 ((((out ++ [({ kind := 0, n := o57c0 } : AxStep)]) ++ [({ kind := 1, n := o57c1 } : AxStep)]) ++ [({ kind := 2, n := o57c2 } : AxStep)]).length)), (4, .t (.sc (.int .i64 (k : Int))))]) (l := [(24, .row 2 false (List.map stepT (((out ++ [({ kind := 0, n := o57c0 } : AxStep)]) ++ [({ kind := 1, n := o57c1 } : AxStep)]) ++ [({ kind := 2, n := o57c2 } : AxStep)])))]) (by kernel_rfl)) ?_
                    have hE : segE u i k = k := by rw [segE, if_neg (by rcases h6 with h | h; omega; exact fun hh => beq_cls' h hh.2)]
                    have hG := segE_gt u i (by omega)
                    rw [I6.2.2.1, hE] at hG
                    refine ih3 (k, (((out ++ [({ kind := 0, n := o57c0 } : AxStep)]) ++ [({ kind := 1, n := o57c1 } : AxStep)]) ++ [({ kind := 2, n := o57c2 } : AxStep)])) ?_ ?_
                    · -- back 3.1, invariant
                      refine ⟨by omega, by ((try simp only [List.length_append, List.length_cons, List.length_nil]); omega), ?_⟩
                      rw [I3.2.2, stepsL, dif_pos (by omega), I6.2.2.1, hE]
                      try simp only [I6.2.2.2.1, I6.2.2.2.2.1, I6.2.2.2.2.2]
                      congr 1
                      simp only [o3, o1]
                      (repeat (first | rw [if_pos (by omega)] | rw [if_neg (by omega)]))
                      simp
                    · -- back 3.1, measure
                      show u.length - k < u.length - i; omega
                · (try simp only [decide_eq_true_eq, decide_eq_false_iff_not, Int.not_lt, Int.not_le, gt_iff_lt] at h12)
                  refine Sim.skip ?_
                  refine inBlk_normal ?_
                  refine andThen_normal ?_
                  refine Sim.reg (orcs := [(0, ⟨some (.t (.sc (.int .i64 3))), none, none, none⟩)]) (keys := [0, 3, 5, 6, 40]) (τ := [(24, 24), (57, 57)]) (nx := 585)
                    (sl := [(0, .t (.lst 1 (List.map intT u))), (3, .row 24 (((out ++ [({ kind := 0, n := o57c0 } : AxStep)]) ++ [({ kind := 1, n := o57c1 } : AxStep)]).length)), (5, .ptr 57 0), (6, .t (.sc (.int .i64 (k : Int)))), (40, .t (.sc (.int .i64 3)))]) (l := [(24, .row 2 false (List.map stepT ((out ++ [({ kind := 0, n := o57c0 } : AxStep)]) ++ [({ kind := 1, n := o57c1 } : AxStep)]))), (57, .box [.t (.sc (.int .i64 o57c0)), .t (.sc (.int .i64 o57c1)), .t (.sc (.int .i64 o57c2))])])
                    (C := [AVal.t (.sc (.int .i64 3)) = .t (.sc (.int .i64 (IntKind.i64.wrap (2 + 1))))]) (by kernel_rfl) ?_ ?_
                  · -- region 14
                    exact ⟨(by kernel_rfl), trivial⟩
                  refine andThen_normal ?_
                  refine LoopSim.step ?_
                  refine Sim.seq ?_
                  refine Sim.reg (orcs := []) (keys := [0, 3, 5, 6, 40, 41]) (τ := [(24, 24), (57, 57)]) (nx := 593)
                    (sl := [(0, .t (.lst 1 (List.map intT u))), (3, .row 24 (((out ++ [({ kind := 0, n := o57c0 } : AxStep)]) ++ [({ kind := 1, n := o57c1 } : AxStep)]).length)), (5, .ptr 57 0), (6, .t (.sc (.int .i64 (k : Int)))), (40, .t (.sc (.int .i64 3))), (41, .t (.sc (.bool false)))]) (l := [(24, .row 2 false (List.map stepT ((out ++ [({ kind := 0, n := o57c0 } : AxStep)]) ++ [({ kind := 1, n := o57c1 } : AxStep)]))), (57, .box [.t (.sc (.int .i64 o57c0)), .t (.sc (.int .i64 o57c1)), .t (.sc (.int .i64 o57c2))])])
                    (C := []) (by kernel_rfl) ?_ ?_
                  · -- region 10
                    trivial
                  refine andThen_normal ?_
                  refine Sim.seq ?_
                  refine Sim.cond (b := false) (by kernel_rfl) (fun h10 => ?_) (fun h10 => ?_)
                  · cases h10
                  · skip
                    refine Sim.exit ?_
                    refine andThen_exit ?_
                    refine andThen_exit ?_
                    refine inBlk_same ?_
                    refine andThen_normal ?_
                    refine Sim.reg (orcs := []) (keys := [0, 3, 4]) (τ := [(24, 24)]) (nx := 609)
                      (sl := [(0, .t (.lst 1 (List.map intT u))), (3, .row 24 (((out ++ [({ kind := 0, n := o57c0 } : AxStep)]) ++ [({ kind := 1, n := o57c1 } : AxStep)]).length)), (4, .t (.sc (.int .i64 (k : Int))))]) (l := [(24, .row 2 false (List.map stepT ((out ++ [({ kind := 0, n := o57c0 } : AxStep)]) ++ [({ kind := 1, n := o57c1 } : AxStep)])))])
                      (C := []) (by kernel_rfl) ?_ ?_
                    · -- region 15
                      trivial
                    refine inBlk_normal ?_
                    refine andThen_normal ?_
                    refine LoopSim.weaken (Le.ren (τ := [(24, 24)]) (keys := [0, 3, 4]) (nx := 25) (sl := [(0, .t (.lst 1 (List.map intT u))), (3, .row 24 (((out ++ [({ kind := 0, n := o57c0 } : AxStep)]) ++ [({ kind := 1, n := o57c1 } : AxStep)]).length)), (4, .t (.sc (.int .i64 (k : Int))))]) (l := [(24, .row 2 false (List.map stepT ((out ++ [({ kind := 0, n := o57c0 } : AxStep)]) ++ [({ kind := 1, n := o57c1 } : AxStep)])))]) (by kernel_rfl)) ?_
                    have hE : segE u i k = k := by rw [segE, if_neg (by rcases h6 with h | h; omega; exact fun hh => beq_cls' h hh.2)]
                    have hG := segE_gt u i (by omega)
                    rw [I6.2.2.1, hE] at hG
                    refine ih3 (k, ((out ++ [({ kind := 0, n := o57c0 } : AxStep)]) ++ [({ kind := 1, n := o57c1 } : AxStep)])) ?_ ?_
                    · -- back 3.2, invariant
                      refine ⟨by omega, by ((try simp only [List.length_append, List.length_cons, List.length_nil]); omega), ?_⟩
                      rw [I3.2.2, stepsL, dif_pos (by omega), I6.2.2.1, hE]
                      try simp only [I6.2.2.2.1, I6.2.2.2.2.1, I6.2.2.2.2.2]
                      congr 1
                      simp only [o3, o1]
                      (repeat (first | rw [if_pos (by omega)] | rw [if_neg (by omega)]))
                      simp
                    · -- back 3.2, measure
                      show u.length - k < u.length - i; omega
              · cases h10
            · (try simp only [decide_eq_true_eq, decide_eq_false_iff_not, Int.not_lt, Int.not_le, gt_iff_lt] at h12)
              refine Sim.skip ?_
              refine inBlk_normal ?_
              refine andThen_normal ?_
              refine Sim.reg (orcs := [(0, ⟨some (.t (.sc (.int .i64 2))), none, none, none⟩)]) (keys := [0, 3, 5, 6, 40]) (τ := [(24, 24), (57, 57)]) (nx := 441)
                (sl := [(0, .t (.lst 1 (List.map intT u))), (3, .row 24 ((out ++ [({ kind := 0, n := o57c0 } : AxStep)]).length)), (5, .ptr 57 0), (6, .t (.sc (.int .i64 (k : Int)))), (40, .t (.sc (.int .i64 2)))]) (l := [(24, .row 2 false (List.map stepT (out ++ [({ kind := 0, n := o57c0 } : AxStep)]))), (57, .box [.t (.sc (.int .i64 o57c0)), .t (.sc (.int .i64 o57c1)), .t (.sc (.int .i64 o57c2))])])
                (C := [AVal.t (.sc (.int .i64 2)) = .t (.sc (.int .i64 (IntKind.i64.wrap (1 + 1))))]) (by kernel_rfl) ?_ ?_
              · -- region 14
                exact ⟨(by kernel_rfl), trivial⟩
              refine andThen_normal ?_
              refine LoopSim.step ?_
              refine Sim.seq ?_
              refine Sim.reg (orcs := []) (keys := [0, 3, 5, 6, 40, 41]) (τ := [(24, 24), (57, 57)]) (nx := 449)
                (sl := [(0, .t (.lst 1 (List.map intT u))), (3, .row 24 ((out ++ [({ kind := 0, n := o57c0 } : AxStep)]).length)), (5, .ptr 57 0), (6, .t (.sc (.int .i64 (k : Int)))), (40, .t (.sc (.int .i64 2))), (41, .t (.sc (.bool true)))]) (l := [(24, .row 2 false (List.map stepT (out ++ [({ kind := 0, n := o57c0 } : AxStep)]))), (57, .box [.t (.sc (.int .i64 o57c0)), .t (.sc (.int .i64 o57c1)), .t (.sc (.int .i64 o57c2))])])
                (C := []) (by kernel_rfl) ?_ ?_
              · -- region 10
                trivial
              refine andThen_normal ?_
              refine Sim.seq ?_
              refine Sim.cond (b := true) (by kernel_rfl) (fun h10 => ?_) (fun h10 => ?_)
              · skip
                refine Sim.skip ?_
                refine andThen_normal ?_
                refine Sim.seq ?_
                refine Sim.block ?_
                refine Sim.seq ?_
                refine Sim.reg (orcs := []) (keys := [0, 3, 5, 6, 7, 40]) (τ := [(24, 24), (57, 57)]) (nx := 465)
                  (sl := [(0, .t (.lst 1 (List.map intT u))), (3, .row 24 ((out ++ [({ kind := 0, n := o57c0 } : AxStep)]).length)), (5, .ptr 57 0), (6, .t (.sc (.int .i64 (k : Int)))), (7, .t (.sc (.int .i64 2))), (40, .t (.sc (.int .i64 2)))]) (l := [(24, .row 2 false (List.map stepT (out ++ [({ kind := 0, n := o57c0 } : AxStep)]))), (57, .box [.t (.sc (.int .i64 o57c0)), .t (.sc (.int .i64 o57c1)), .t (.sc (.int .i64 o57c2))])])
                  (C := []) (by kernel_rfl) ?_ ?_
                · -- region 11
                  trivial
                refine andThen_normal ?_
                refine Sim.seq ?_
                refine Sim.reg (orcs := []) (keys := [0, 3, 5, 6, 7, 40, 46]) (τ := [(24, 24), (57, 57)]) (nx := 497)
                  (sl := [(0, .t (.lst 1 (List.map intT u))), (3, .row 24 ((out ++ [({ kind := 0, n := o57c0 } : AxStep)]).length)), (5, .ptr 57 0), (6, .t (.sc (.int .i64 (k : Int)))), (7, .t (.sc (.int .i64 2))), (40, .t (.sc (.int .i64 2))), (46, .t (.sc (.bool (decide (o57c2 > 0)))))]) (l := [(24, .row 2 false (List.map stepT (out ++ [({ kind := 0, n := o57c0 } : AxStep)]))), (57, .box [.t (.sc (.int .i64 o57c0)), .t (.sc (.int .i64 o57c1)), .t (.sc (.int .i64 o57c2))])])
                  (C := [(0:Int) ≤ 2, 2 < ((3 : Nat) : Int)]) (by kernel_rfl) ?_ ?_
                · -- region 12
                  refine ⟨?_, ?_, trivial⟩
                  all_goals (first | omega | with_reducible exact fun h => h | (intro hg hq; rw [hg, hq]; rfl) | (intro hq; rw [hq]; done) | (intro hq; rw [hq]; rfl) | ((try intro hg); (try simp [-List.getD_eq_getElem?_getD] at hg); (try simp only [List.length_map]); first | done | omega | rfl | (simp; done) | (simp; omega) | (simp [hg]; done) | (intro hq; simp [hg, hq]; done) | (intro hq; simp [hg, hq]; omega)))
                refine andThen_normal ?_
                refine Sim.cond (b := decide (o57c2 > 0)) (by kernel_rfl) (fun h12 => ?_) (fun h12 => ?_)
                · (try simp only [decide_eq_true_eq, decide_eq_false_iff_not, Int.not_lt, Int.not_le, gt_iff_lt] at h12)
                  refine Sim.reg (orcs := [(7, ⟨some (.row 24 (((out ++ [({ kind := 0, n := o57c0 } : AxStep)]) ++ [({ kind := 2, n := o57c2 } : AxStep)]).length)), some ([(24, .row 2 false (List.map stepT ((out ++ [({ kind := 0, n := o57c0 } : AxStep)]) ++ [({ kind := 2, n := o57c2 } : AxStep)])))]), none, none⟩)]) (keys := [0, 3, 5, 6, 40]) (τ := [(24, 24), (57, 57)]) (nx := 569)
                    (sl := [(0, .t (.lst 1 (List.map intT u))), (3, .row 24 (((out ++ [({ kind := 0, n := o57c0 } : AxStep)]) ++ [({ kind := 2, n := o57c2 } : AxStep)]).length)), (5, .ptr 57 0), (6, .t (.sc (.int .i64 (k : Int)))), (40, .t (.sc (.int .i64 2)))]) (l := [(24, .row 2 false (List.map stepT ((out ++ [({ kind := 0, n := o57c0 } : AxStep)]) ++ [({ kind := 2, n := o57c2 } : AxStep)]))), (57, .box [.t (.sc (.int .i64 o57c0)), .t (.sc (.int .i64 o57c1)), .t (.sc (.int .i64 o57c2))])])
                    (C := [(0:Int) ≤ 2, 2 < ((3 : Nat) : Int), 1 = (List.map stepT [({ kind := 2, n := o57c2 } : AxStep)]).length, (((out ++ [({ kind := 0, n := o57c0 } : AxStep)]).length) : Nat) = (List.map stepT (out ++ [({ kind := 0, n := o57c0 } : AxStep)])).length, (((out ++ [({ kind := 0, n := o57c0 } : AxStep)]).length) : Nat) + (List.map stepT [({ kind := 2, n := o57c2 } : AxStep)]).length ≤ 1099511627776, AVal.row 24 (((out ++ [({ kind := 0, n := o57c0 } : AxStep)]) ++ [({ kind := 2, n := o57c2 } : AxStep)]).length) = .row 24 ((out ++ [({ kind := 0, n := o57c0 } : AxStep)]).length + (List.map stepT [({ kind := 2, n := o57c2 } : AxStep)]).length), ([(24, .row 2 false (List.map stepT ((out ++ [({ kind := 0, n := o57c0 } : AxStep)]) ++ [({ kind := 2, n := o57c2 } : AxStep)])))] : List (Nat × Ob)) = [(24, .row 2 false (List.map stepT (out ++ [({ kind := 0, n := o57c0 } : AxStep)]) ++ List.map stepT [({ kind := 2, n := o57c2 } : AxStep)]))]]) (by kernel_rfl) ?_ ?_
                  · -- region 13
                    refine ⟨?_, ?_, ?_, ?_, ?_, (by simp), (row_append rfl), trivial⟩
                    all_goals (first | omega | with_reducible exact fun h => h | (intro hg hq; rw [hg, hq]; rfl) | (intro hq; rw [hq]; done) | (intro hq; rw [hq]; rfl) | ((try intro hg); (try simp [-List.getD_eq_getElem?_getD] at hg); (try simp only [List.length_map]); first | done | omega | rfl | (simp; done) | (simp; omega) | (simp [hg]; done) | (intro hq; simp [hg, hq]; done) | (intro hq; simp [hg, hq]; omega)))
                  refine inBlk_normal ?_
                  refine andThen_normal ?_
                  refine Sim.reg (orcs := [(0, ⟨some (.t (.sc (.int .i64 3))), none, none, none⟩)]) (keys := [0, 3, 5, 6, 40]) (τ := [(24, 24), (57, 57)]) (nx := 585)
                    (sl := [(0, .t (.lst 1 (List.map intT u))), (3, .row 24 (((out ++ [({ kind := 0, n := o57c0 } : AxStep)]) ++ [({ kind := 2, n := o57c2 } : AxStep)]).length)), (5, .ptr 57 0), (6, .t (.sc (.int .i64 (k : Int)))), (40, .t (.sc (.int .i64 3)))]) (l := [(24, .row 2 false (List.map stepT ((out ++ [({ kind := 0, n := o57c0 } : AxStep)]) ++ [({ kind := 2, n := o57c2 } : AxStep)]))), (57, .box [.t (.sc (.int .i64 o57c0)), .t (.sc (.int .i64 o57c1)), .t (.sc (.int .i64 o57c2))])])
                    (C := [AVal.t (.sc (.int .i64 3)) = .t (.sc (.int .i64 (IntKind.i64.wrap (2 + 1))))]) (by kernel_rfl) ?_ ?_
                  · -- region 14
                    exact ⟨(by kernel_rfl), trivial⟩
                  refine andThen_normal ?_
                  refine LoopSim.step ?_
                  refine Sim.seq ?_
                  refine Sim.reg (orcs := []) (keys := [0, 3, 5, 6, 40, 41]) (τ := [(24, 24), (57, 57)]) (nx := 593)
                    (sl := [(0, .t (.lst 1 (List.map intT u))), (3, .row 24 (((out ++ [({ kind := 0, n := o57c0 } : AxStep)]) ++ [({ kind := 2, n := o57c2 } : AxStep)]).length)), (5, .ptr 57 0), (6, .t (.sc (.int .i64 (k : Int)))), (40, .t (.sc (.int .i64 3))), (41, .t (.sc (.bool false)))]) (l := [(24, .row 2 false (List.map stepT ((out ++ [({ kind := 0, n := o57c0 } : AxStep)]) ++ [({ kind := 2, n := o57c2 } : AxStep)]))), (57, .box [.t (.sc (.int .i64 o57c0)), .t (.sc (.int .i64 o57c1)), .t (.sc (.int .i64 o57c2))])])
                    (C := []) (by kernel_rfl) ?_ ?_
                  · -- region 10
                    trivial
                  refine andThen_normal ?_
                  refine Sim.seq ?_
                  refine Sim.cond (b := false) (by kernel_rfl) (fun h10 => ?_) (fun h10 => ?_)
                  · cases h10
                  · skip
                    refine Sim.exit ?_
                    refine andThen_exit ?_
                    refine andThen_exit ?_
                    refine inBlk_same ?_
                    refine andThen_normal ?_
                    refine Sim.reg (orcs := []) (keys := [0, 3, 4]) (τ := [(24, 24)]) (nx := 609)
                      (sl := [(0, .t (.lst 1 (List.map intT u))), (3, .row 24 (((out ++ [({ kind := 0, n := o57c0 } : AxStep)]) ++ [({ kind := 2, n := o57c2 } : AxStep)]).length)), (4, .t (.sc (.int .i64 (k : Int))))]) (l := [(24, .row 2 false (List.map stepT ((out ++ [({ kind := 0, n := o57c0 } : AxStep)]) ++ [({ kind := 2, n := o57c2 } : AxStep)])))])
                      (C := []) (by kernel_rfl) ?_ ?_
                    · -- region 15
                      trivial
                    refine inBlk_normal ?_
                    refine andThen_normal ?_
                    refine LoopSim.weaken (Le.ren (τ := [(24, 24)]) (keys := [0, 3, 4]) (nx := 25) (sl := [(0, .t (.lst 1 (List.map intT u))), (3, .row 24 (((out ++ [({ kind := 0, n := o57c0 } : AxStep)]) ++ [({ kind := 2, n := o57c2 } : AxStep)]).length)), (4, .t (.sc (.int .i64 (k : Int))))]) (l := [(24, .row 2 false (List.map stepT ((out ++ [({ kind := 0, n := o57c0 } : AxStep)]) ++ [({ kind := 2, n := o57c2 } : AxStep)])))]) (by kernel_rfl)) ?_
                    have hE : segE u i k = k := by rw [segE, if_neg (by rcases h6 with h | h; omega; exact fun hh => beq_cls' h hh.2)]
                    have hG := segE_gt u i (by omega)
                    rw [I6.2.2.1, hE] at hG
                    refine ih3 (k, ((out ++ [({ kind := 0, n := o57c0 } : AxStep)]) ++ [({ kind := 2, n := o57c2 } : AxStep)])) ?_ ?_
                    · -- back 3.3, invariant
                      refine ⟨by omega, by ((try simp only [List.length_append, List.length_cons, List.length_nil]); omega), ?_⟩
                      rw [I3.2.2, stepsL, dif_pos (by omega), I6.2.2.1, hE]
                      try simp only [I6.2.2.2.1, I6.2.2.2.2.1, I6.2.2.2.2.2]
                      congr 1
                      simp only [o3, o1]
                      (repeat (first | rw [if_pos (by omega)] | rw [if_neg (by omega)]))
                      simp
                    · -- back 3.3, measure
                      show u.length - k < u.length - i; omega
                · (try simp only [decide_eq_true_eq, decide_eq_false_iff_not, Int.not_lt, Int.not_le, gt_iff_lt] at h12)
                  refine Sim.skip ?_
                  refine inBlk_normal ?_
                  refine andThen_normal ?_
                  refine Sim.reg (orcs := [(0, ⟨some (.t (.sc (.int .i64 3))), none, none, none⟩)]) (keys := [0, 3, 5, 6, 40]) (τ := [(24, 24), (57, 57)]) (nx := 513)
                    (sl := [(0, .t (.lst 1 (List.map intT u))), (3, .row 24 ((out ++ [({ kind := 0, n := o57c0 } : AxStep)]).length)), (5, .ptr 57 0), (6, .t (.sc (.int .i64 (k : Int)))), (40, .t (.sc (.int .i64 3)))]) (l := [(24, .row 2 false (List.map stepT (out ++ [({ kind := 0, n := o57c0 } : AxStep)]))), (57, .box [.t (.sc (.int .i64 o57c0)), .t (.sc (.int .i64 o57c1)), .t (.sc (.int .i64 o57c2))])])
                    (C := [AVal.t (.sc (.int .i64 3)) = .t (.sc (.int .i64 (IntKind.i64.wrap (2 + 1))))]) (by kernel_rfl) ?_ ?_
                  · -- region 14
                    exact ⟨(by kernel_rfl), trivial⟩
                  refine andThen_normal ?_
                  refine LoopSim.step ?_
                  refine Sim.seq ?_
                  refine Sim.reg (orcs := []) (keys := [0, 3, 5, 6, 40, 41]) (τ := [(24, 24), (57, 57)]) (nx := 521)
                    (sl := [(0, .t (.lst 1 (List.map intT u))), (3, .row 24 ((out ++ [({ kind := 0, n := o57c0 } : AxStep)]).length)), (5, .ptr 57 0), (6, .t (.sc (.int .i64 (k : Int)))), (40, .t (.sc (.int .i64 3))), (41, .t (.sc (.bool false)))]) (l := [(24, .row 2 false (List.map stepT (out ++ [({ kind := 0, n := o57c0 } : AxStep)]))), (57, .box [.t (.sc (.int .i64 o57c0)), .t (.sc (.int .i64 o57c1)), .t (.sc (.int .i64 o57c2))])])
                    (C := []) (by kernel_rfl) ?_ ?_
                  · -- region 10
                    trivial
                  refine andThen_normal ?_
                  refine Sim.seq ?_
                  refine Sim.cond (b := false) (by kernel_rfl) (fun h10 => ?_) (fun h10 => ?_)
                  · cases h10
                  · skip
                    refine Sim.exit ?_
                    refine andThen_exit ?_
                    refine andThen_exit ?_
                    refine inBlk_same ?_
                    refine andThen_normal ?_
                    refine Sim.reg (orcs := []) (keys := [0, 3, 4]) (τ := [(24, 24)]) (nx := 537)
                      (sl := [(0, .t (.lst 1 (List.map intT u))), (3, .row 24 ((out ++ [({ kind := 0, n := o57c0 } : AxStep)]).length)), (4, .t (.sc (.int .i64 (k : Int))))]) (l := [(24, .row 2 false (List.map stepT (out ++ [({ kind := 0, n := o57c0 } : AxStep)])))])
                      (C := []) (by kernel_rfl) ?_ ?_
                    · -- region 15
                      trivial
                    refine inBlk_normal ?_
                    refine andThen_normal ?_
                    refine LoopSim.weaken (Le.ren (τ := [(24, 24)]) (keys := [0, 3, 4]) (nx := 25) (sl := [(0, .t (.lst 1 (List.map intT u))), (3, .row 24 ((out ++ [({ kind := 0, n := o57c0 } : AxStep)]).length)), (4, .t (.sc (.int .i64 (k : Int))))]) (l := [(24, .row 2 false (List.map stepT (out ++ [({ kind := 0, n := o57c0 } : AxStep)])))]) (by kernel_rfl)) ?_
                    have hE : segE u i k = k := by rw [segE, if_neg (by rcases h6 with h | h; omega; exact fun hh => beq_cls' h hh.2)]
                    have hG := segE_gt u i (by omega)
                    rw [I6.2.2.1, hE] at hG
                    refine ih3 (k, (out ++ [({ kind := 0, n := o57c0 } : AxStep)])) ?_ ?_
                    · -- back 3.4, invariant
                      refine ⟨by omega, by ((try simp only [List.length_append, List.length_cons, List.length_nil]); omega), ?_⟩
                      rw [I3.2.2, stepsL, dif_pos (by omega), I6.2.2.1, hE]
                      try simp only [I6.2.2.2.1, I6.2.2.2.2.1, I6.2.2.2.2.2]
                      congr 1
                      simp only [o3, o1]
                      (repeat (first | rw [if_pos (by omega)] | rw [if_neg (by omega)]))
                      simp
                    · -- back 3.4, measure
                      show u.length - k < u.length - i; omega
              · cases h10
          · cases h10
        · (try simp only [decide_eq_true_eq, decide_eq_false_iff_not, Int.not_lt, Int.not_le, gt_iff_lt] at h12)
          refine Sim.skip ?_
          refine inBlk_normal ?_
          refine andThen_normal ?_
          refine Sim.reg (orcs := [(0, ⟨some (.t (.sc (.int .i64 1))), none, none, none⟩)]) (keys := [0, 3, 5, 6, 40]) (τ := [(24, 24), (57, 57)]) (nx := 297)
            (sl := [(0, .t (.lst 1 (List.map intT u))), (3, .row 24 out.length), (5, .ptr 57 0), (6, .t (.sc (.int .i64 (k : Int)))), (40, .t (.sc (.int .i64 1)))]) (l := [(24, .row 2 false (List.map stepT out)), (57, .box [.t (.sc (.int .i64 o57c0)), .t (.sc (.int .i64 o57c1)), .t (.sc (.int .i64 o57c2))])])
            (C := [AVal.t (.sc (.int .i64 1)) = .t (.sc (.int .i64 (IntKind.i64.wrap (0 + 1))))]) (by kernel_rfl) ?_ ?_
          · -- region 14
            exact ⟨(by kernel_rfl), trivial⟩
          refine andThen_normal ?_
          refine LoopSim.step ?_
          refine Sim.seq ?_
          refine Sim.reg (orcs := []) (keys := [0, 3, 5, 6, 40, 41]) (τ := [(24, 24), (57, 57)]) (nx := 305)
            (sl := [(0, .t (.lst 1 (List.map intT u))), (3, .row 24 out.length), (5, .ptr 57 0), (6, .t (.sc (.int .i64 (k : Int)))), (40, .t (.sc (.int .i64 1))), (41, .t (.sc (.bool true)))]) (l := [(24, .row 2 false (List.map stepT out)), (57, .box [.t (.sc (.int .i64 o57c0)), .t (.sc (.int .i64 o57c1)), .t (.sc (.int .i64 o57c2))])])
            (C := []) (by kernel_rfl) ?_ ?_
          · -- region 10
            trivial
          refine andThen_normal ?_
          refine Sim.seq ?_
          refine Sim.cond (b := true) (by kernel_rfl) (fun h10 => ?_) (fun h10 => ?_)
          · skip
            refine Sim.skip ?_
            refine andThen_normal ?_
            refine Sim.seq ?_
            refine Sim.block ?_
            refine Sim.seq ?_
            refine Sim.reg (orcs := []) (keys := [0, 3, 5, 6, 7, 40]) (τ := [(24, 24), (57, 57)]) (nx := 321)
              (sl := [(0, .t (.lst 1 (List.map intT u))), (3, .row 24 out.length), (5, .ptr 57 0), (6, .t (.sc (.int .i64 (k : Int)))), (7, .t (.sc (.int .i64 1))), (40, .t (.sc (.int .i64 1)))]) (l := [(24, .row 2 false (List.map stepT out)), (57, .box [.t (.sc (.int .i64 o57c0)), .t (.sc (.int .i64 o57c1)), .t (.sc (.int .i64 o57c2))])])
              (C := []) (by kernel_rfl) ?_ ?_
            · -- region 11
              trivial
            refine andThen_normal ?_
            refine Sim.seq ?_
            refine Sim.reg (orcs := []) (keys := [0, 3, 5, 6, 7, 40, 46]) (τ := [(24, 24), (57, 57)]) (nx := 353)
              (sl := [(0, .t (.lst 1 (List.map intT u))), (3, .row 24 out.length), (5, .ptr 57 0), (6, .t (.sc (.int .i64 (k : Int)))), (7, .t (.sc (.int .i64 1))), (40, .t (.sc (.int .i64 1))), (46, .t (.sc (.bool (decide (o57c1 > 0)))))]) (l := [(24, .row 2 false (List.map stepT out)), (57, .box [.t (.sc (.int .i64 o57c0)), .t (.sc (.int .i64 o57c1)), .t (.sc (.int .i64 o57c2))])])
              (C := [(0:Int) ≤ 1, 1 < ((3 : Nat) : Int)]) (by kernel_rfl) ?_ ?_
            · -- region 12
              refine ⟨?_, ?_, trivial⟩
              all_goals (first | omega | with_reducible exact fun h => h | (intro hg hq; rw [hg, hq]; rfl) | (intro hq; rw [hq]; done) | (intro hq; rw [hq]; rfl) | ((try intro hg); (try simp [-List.getD_eq_getElem?_getD] at hg); (try simp only [List.length_map]); first | done | omega | rfl | (simp; done) | (simp; omega) | (simp [hg]; done) | (intro hq; simp [hg, hq]; done) | (intro hq; simp [hg, hq]; omega)))
            refine andThen_normal ?_
            refine Sim.cond (b := decide (o57c1 > 0)) (by kernel_rfl) (fun h12 => ?_) (fun h12 => ?_)
            · (try simp only [decide_eq_true_eq, decide_eq_false_iff_not, Int.not_lt, Int.not_le, gt_iff_lt] at h12)
              refine Sim.reg (orcs := [(7, ⟨some (.row 24 ((out ++ [({ kind := 1, n := o57c1 } : AxStep)]).length)), some ([(24, .row 2 false (List.map stepT (out ++ [({ kind := 1, n := o57c1 } : AxStep)])))]), none, none⟩)]) (keys := [0, 3, 5, 6, 40]) (τ := [(24, 24), (57, 57)]) (nx := 425)
                (sl := [(0, .t (.lst 1 (List.map intT u))), (3, .row 24 ((out ++ [({ kind := 1, n := o57c1 } : AxStep)]).length)), (5, .ptr 57 0), (6, .t (.sc (.int .i64 (k : Int)))), (40, .t (.sc (.int .i64 1)))]) (l := [(24, .row 2 false (List.map stepT (out ++ [({ kind := 1, n := o57c1 } : AxStep)]))), (57, .box [.t (.sc (.int .i64 o57c0)), .t (.sc (.int .i64 o57c1)), .t (.sc (.int .i64 o57c2))])])
                (C := [(0:Int) ≤ 1, 1 < ((3 : Nat) : Int), 1 = (List.map stepT [({ kind := 1, n := o57c1 } : AxStep)]).length, (out.length : Nat) = (List.map stepT out).length, (out.length : Nat) + (List.map stepT [({ kind := 1, n := o57c1 } : AxStep)]).length ≤ 1099511627776, AVal.row 24 ((out ++ [({ kind := 1, n := o57c1 } : AxStep)]).length) = .row 24 (out.length + (List.map stepT [({ kind := 1, n := o57c1 } : AxStep)]).length), ([(24, .row 2 false (List.map stepT (out ++ [({ kind := 1, n := o57c1 } : AxStep)])))] : List (Nat × Ob)) = [(24, .row 2 false (List.map stepT out ++ List.map stepT [({ kind := 1, n := o57c1 } : AxStep)]))]]) (by kernel_rfl) ?_ ?_
              · -- region 13
                refine ⟨?_, ?_, ?_, ?_, ?_, (by simp), (row_append rfl), trivial⟩
                all_goals (first | omega | with_reducible exact fun h => h | (intro hg hq; rw [hg, hq]; rfl) | (intro hq; rw [hq]; done) | (intro hq; rw [hq]; rfl) | ((try intro hg); (try simp [-List.getD_eq_getElem?_getD] at hg); (try simp only [List.length_map]); first | done | omega | rfl | (simp; done) | (simp; omega) | (simp [hg]; done) | (intro hq; simp [hg, hq]; done) | (intro hq; simp [hg, hq]; omega)))
              refine inBlk_normal ?_
              refine andThen_normal ?_
              refine Sim.reg (orcs := [(0, ⟨some (.t (.sc (.int .i64 2))), none, none, none⟩)]) (keys := [0, 3, 5, 6, 40]) (τ := [(24, 24), (57, 57)]) (nx := 441)
                (sl := [(0, .t (.lst 1 (List.map intT u))), (3, .row 24 ((out ++ [({ kind := 1, n := o57c1 } : AxStep)]).length)), (5, .ptr 57 0), (6, .t (.sc (.int .i64 (k : Int)))), (40, .t (.sc (.int .i64 2)))]) (l := [(24, .row 2 false (List.map stepT (out ++ [({ kind := 1, n := o57c1 } : AxStep)]))), (57, .box [.t (.sc (.int .i64 o57c0)), .t (.sc (.int .i64 o57c1)), .t (.sc (.int .i64 o57c2))])])
                (C := [AVal.t (.sc (.int .i64 2)) = .t (.sc (.int .i64 (IntKind.i64.wrap (1 + 1))))]) (by kernel_rfl) ?_ ?_
              · -- region 14
                exact ⟨(by kernel_rfl), trivial⟩
              refine andThen_normal ?_
              refine LoopSim.step ?_
              refine Sim.seq ?_
              refine Sim.reg (orcs := []) (keys := [0, 3, 5, 6, 40, 41]) (τ := [(24, 24), (57, 57)]) (nx := 449)
                (sl := [(0, .t (.lst 1 (List.map intT u))), (3, .row 24 ((out ++ [({ kind := 1, n := o57c1 } : AxStep)]).length)), (5, .ptr 57 0), (6, .t (.sc (.int .i64 (k : Int)))), (40, .t (.sc (.int .i64 2))), (41, .t (.sc (.bool true)))]) (l := [(24, .row 2 false (List.map stepT (out ++ [({ kind := 1, n := o57c1 } : AxStep)]))), (57, .box [.t (.sc (.int .i64 o57c0)), .t (.sc (.int .i64 o57c1)), .t (.sc (.int .i64 o57c2))])])
                (C := []) (by kernel_rfl) ?_ ?_
              · -- region 10
                trivial
              refine andThen_normal ?_
              refine Sim.seq ?_
              refine Sim.cond (b := true) (by kernel_rfl) (fun h10 => ?_) (fun h10 => ?_)
              · skip
                refine Sim.skip ?_
                refine andThen_normal ?_
                refine Sim.seq ?_
                refine Sim.block ?_
                refine Sim.seq ?_
                refine Sim.reg (orcs := []) (keys := [0, 3, 5, 6, 7, 40]) (τ := [(24, 24), (57, 57)]) (nx := 465)
                  (sl := [(0, .t (.lst 1 (List.map intT u))), (3, .row 24 ((out ++ [({ kind := 1, n := o57c1 } : AxStep)]).length)), (5, .ptr 57 0), (6, .t (.sc (.int .i64 (k : Int)))), (7, .t (.sc (.int .i64 2))), (40, .t (.sc (.int .i64 2)))]) (l := [(24, .row 2 false (List.map stepT (out ++ [({ kind := 1, n := o57c1 } : AxStep)]))), (57, .box [.t (.sc (.int .i64 o57c0)), .t (.sc (.int .i64 o57c1)), .t (.sc (.int .i64 o57c2))])])
                  (C := []) (by kernel_rfl) ?_ ?_
                · -- region 11
                  trivial
                refine andThen_normal ?_
                refine Sim.seq ?_
                refine Sim.reg (orcs := []) (keys := [0, 3, 5, 6, 7, 40, 46]) (τ := [(24, 24), (57, 57)]) (nx := 497)
                  (sl := [(0, .t (.lst 1 (List.map intT u))), (3, .row 24 ((out ++ [({ kind := 1, n := o57c1 } : AxStep)]).length)), (5, .ptr 57 0), (6, .t (.sc (.int .i64 (k : Int)))), (7, .t (.sc (.int .i64 2))), (40, .t (.sc (.int .i64 2))), (46, .t (.sc (.bool (decide (o57c2 > 0)))))]) (l := [(24, .row 2 false (List.map stepT (out ++ [({ kind := 1, n := o57c1 } : AxStep)]))), (57, .box [.t (.sc (.int .i64 o57c0)), .t (.sc (.int .i64 o57c1)), .t (.sc (.int .i64 o57c2))])])
                  (C := [(0:Int) ≤ 2, 2 < ((3 : Nat) : Int)]) (by kernel_rfl) ?_ ?_
                · -- region 12
                  refine ⟨?_, ?_, trivial⟩
                  all_goals (first | omega | with_reducible exact fun h => h | (intro hg hq; rw [hg, hq]; rfl) | (intro hq; rw [hq]; done) | (intro hq; rw [hq]; rfl) | ((try intro hg); (try simp [-List.getD_eq_getElem?_getD] at hg); (try simp only [List.length_map]); first | done | omega | rfl | (simp; done) | (simp; omega) | (simp [hg]; done) | (intro hq; simp [hg, hq]; done) | (intro hq; simp [hg, hq]; omega)))
                refine andThen_normal ?_
                refine Sim.cond (b := decide (o57c2 > 0)) (by kernel_rfl) (fun h12 => ?_) (fun h12 => ?_)
                · (try simp only [decide_eq_true_eq, decide_eq_false_iff_not, Int.not_lt, Int.not_le, gt_iff_lt] at h12)
                  refine Sim.reg (orcs := [(7, ⟨some (.row 24 (((out ++ [({ kind := 1, n := o57c1 } : AxStep)]) ++ [({ kind := 2, n := o57c2 } : AxStep)]).length)), some ([(24, .row 2 false (List.map stepT ((out ++ [({ kind := 1, n := o57c1 } : AxStep)]) ++ [({ kind := 2, n := o57c2 } : AxStep)])))]), none, none⟩)]) (keys := [0, 3, 5, 6, 40]) (τ := [(24, 24), (57, 57)]) (nx := 569)
                    (sl := [(0, .t (.lst 1 (List.map intT u))), (3, .row 24 (((out ++ [({ kind := 1, n := o57c1 } : AxStep)]) ++ [({ kind := 2, n := o57c2 } : AxStep)]).length)), (5, .ptr 57 0), (6, .t (.sc (.int .i64 (k : Int)))), (40, .t (.sc (.int .i64 2)))]) (l := [(24, .row 2 false (List.map stepT ((out ++ [({ kind := 1, n := o57c1 } : AxStep)]) ++ [({ kind := 2, n := o57c2 } : AxStep)]))), (57, .box [.t (.sc (.int .i64 o57c0)), .t (.sc (.int .i64 o57c1)), .t (.sc (.int .i64 o57c2))])])
                    (C := [(0:Int) ≤ 2, 2 < ((3 : Nat) : Int), 1 = (List.map stepT [({ kind := 2, n := o57c2 } : AxStep)]).length, (((out ++ [({ kind := 1, n := o57c1 } : AxStep)]).length) : Nat) = (List.map stepT (out ++ [({ kind := 1, n := o57c1 } : AxStep)])).length, (((out ++ [({ kind := 1, n := o57c1 } : AxStep)]).length) : Nat) + (List.map stepT [({ kind := 2, n := o57c2 } : AxStep)]).length ≤ 1099511627776, AVal.row 24 (((out ++ [({ kind := 1, n := o57c1 } : AxStep)]) ++ [({ kind := 2, n := o57c2 } : AxStep)]).length) = .row 24 ((out ++ [({ kind := 1, n := o57c1 } : AxStep)]).length + (List.map stepT [({ kind := 2, n := o57c2 } : AxStep)]).length), ([(24, .row 2 false (List.map stepT ((out ++ [({ kind := 1, n := o57c1 } : AxStep)]) ++ [({ kind := 2, n := o57c2 } : AxStep)])))] : List (Nat × Ob)) = [(24, .row 2 false (List.map stepT (out ++ [({ kind := 1, n := o57c1 } : AxStep)]) ++ List.map stepT [({ kind := 2, n := o57c2 } : AxStep)]))]]) (by kernel_rfl) ?_ ?_
                  · -- region 13
                    refine ⟨?_, ?_, ?_, ?_, ?_, (by simp), (row_append rfl), trivial⟩
                    all_goals (first | omega | with_reducible exact fun h => h | (intro hg hq; rw [hg, hq]; rfl) | (intro hq; rw [hq]; done) | (intro hq; rw [hq]; rfl) | ((try intro hg); (try simp [-List.getD_eq_getElem?_getD] at hg); (try simp only [List.length_map]); first | done | omega | rfl | (simp; done) | (simp; omega) | (simp [hg]; done) | (intro hq; simp [hg, hq]; done) | (intro hq; simp [hg, hq]; omega)))
                  refine inBlk_normal ?_
                  refine andThen_normal ?_
                  refine Sim.reg (orcs := [(0, ⟨some (.t (.sc (.int .i64 3))), none, none, none⟩)]) (keys := [0, 3, 5, 6, 40]) (τ := [(24, 24), (57, 57)]) (nx := 585)
                    (sl := [(0, .t (.lst 1 (List.map intT u))), (3, .row 24 (((out ++ [({ kind := 1, n := o57c1 } : AxStep)]) ++ [({ kind := 2, n := o57c2 } : AxStep)]).length)), (5, .ptr 57 0), (6, .t (.sc (.int .i64 (k : Int)))), (40, .t (.sc (.int .i64 3)))]) (l := [(24, .row 2 false (List.map stepT ((out ++ [({ kind := 1, n := o57c1 } : AxStep)]) ++ [({ kind := 2, n := o57c2 } : AxStep)]))), (57, .box [.t (.sc (.int .i64 o57c0)), .t (.sc (.int .i64 o57c1)), .t (.sc (.int .i64 o57c2))])])
                    (C := [AVal.t (.sc (.int .i64 3)) = .t (.sc (.int .i64 (IntKind.i64.wrap (2 + 1))))]) (by kernel_rfl) ?_ ?_
                  · -- region 14
                    exact ⟨(by kernel_rfl), trivial⟩
                  refine andThen_normal ?_
                  refine LoopSim.step ?_
                  refine Sim.seq ?_
                  refine Sim.reg (orcs := []) (keys := [0, 3, 5, 6, 40, 41]) (τ := [(24, 24), (57, 57)]) (nx := 593)
                    (sl := [(0, .t (.lst 1 (List.map intT u))), (3, .row 24 (((out ++ [({ kind := 1, n := o57c1 } : AxStep)]) ++ [({ kind := 2, n := o57c2 } : AxStep)]).length)), (5, .ptr 57 0), (6, .t (.sc (.int .i64 (k : Int)))), (40, .t (.sc (.int .i64 3))), (41, .t (.sc (.bool false)))]) (l := [(24, .row 2 false (List.map stepT ((out ++ [({ kind := 1, n := o57c1 } : AxStep)]) ++ [({ kind := 2, n := o57c2 } : AxStep)]))), (57, .box [.t (.sc (.int .i64 o57c0)), .t (.sc (.int .i64 o57c1)), .t (.sc (.int .i64 o57c2))])])
                    (C := []) (by kernel_rfl) ?_ ?_
                  · -- region 10
                    trivial
                  refine andThen_normal ?_
                  refine Sim.seq ?_
                  refine Sim.cond (b := false) (by kernel_rfl) (fun h10 => ?_) (fun h10 => ?_)
                  · cases h10
                  · skip
                    refine Sim.exit ?_
                    refine andThen_exit ?_
                    refine andThen_exit ?_
                    refine inBlk_same ?_
                    refine andThen_normal ?_
                    refine Sim.reg (orcs := []) (keys := [0, 3, 4]) (τ := [(24, 24)]) (nx := 609)
                      (sl := [(0, .t (.lst 1 (List.map intT u))), (3, .row 24 (((out ++ [({ kind := 1, n := o57c1 } : AxStep)]) ++ [({ kind := 2, n := o57c2 } : AxStep)]).length)), (4, .t (.sc (.int .i64 (k : Int))))]) (l := [(24, .row 2 false (List.map stepT ((out ++ [({ kind := 1, n := o57c1 } : AxStep)]) ++ [({ kind := 2, n := o57c2 } : AxStep)])))])
                      (C := []) (by kernel_rfl) ?_ ?_
                    · -- region 15
                      trivial
                    refine inBlk_normal ?_
                    refine andThen_normal ?_
                    refine LoopSim.weaken (Le.ren (τ := [(24, 24)]) (keys := [0, 3, 4]) (nx := 25) (sl := [(0, .t (.lst 1 (List.map intT u))), (3, .row 24 (((out ++ [({ kind := 1, n := o57c1 } : AxStep)]) ++ [({ kind := 2, n := o57c2 } : AxStep)]).length)), (4, .t (.sc (.int .i64 (k : Int))))]) (l := [(24, .row 2 false (List.map stepT ((out ++ [({ kind := 1, n := o57c1 } : AxStep)]) ++ [({ kind := 2, n := o57c2 } : AxStep)])))]) (by kernel_rfl)) ?_
                    have hE : segE u i k = k := by rw [segE, if_neg (by rcases h6 with h | h; omega; exact fun hh => beq_cls' h hh.2)]
                    have hG := segE_gt u i (by omega)
                    rw [I6.2.2.1, hE] at hG
                    refine ih3 (k, ((out ++ [({ kind := 1, n := o57c1 } : AxStep)]) ++ [({ kind := 2, n := o57c2 } : AxStep)])) ?_ ?_
                    · -- back 3.5, invariant
                      refine ⟨by omega, by ((try simp only [List.length_append, List.length_cons, List.length_nil]); omega), ?_⟩
                      rw [I3.2.2, stepsL, dif_pos (by omega), I6.2.2.1, hE]
                      try simp only [I6.2.2.2.1, I6.2.2.2.2.1, I6.2.2.2.2.2]
                      congr 1
                      simp only [o3, o1]
                      (repeat (first | rw [if_pos (by omega)] | rw [if_neg (by omega)]))
                      simp
                    · -- back 3.5, measure
                      show u.length - k < u.length - i; omega
                · (try simp only [decide_eq_true_eq, decide_eq_false_iff_not, Int.not_lt, Int.not_le, gt_iff_lt] at h12)
                  refine Sim.skip ?_
                  refine inBlk_normal ?_
                  refine andThen_normal ?_
                  refine Sim.reg (orcs := [(0, ⟨some (.t (.sc (.int .i64 3))), none, none, none⟩)]) (keys := [0, 3, 5, 6, 40]) (τ := [(24, 24), (57, 57)]) (nx := 513)
                    (sl := [(0, .t (.lst 1 (List.map intT u))), (3, .row 24 ((out ++ [({ kind := 1, n := o57c1 } : AxStep)]).length)), (5, .ptr 57 0), (6, .t (.sc (.int .i64 (k : Int)))), (40, .t (.sc (.int .i64 3)))]) (l := [(24, .row 2 false (List.map stepT (out ++ [({ kind := 1, n := o57c1 } : AxStep)]))), (57, .box [.t (.sc (.int .i64 o57c0)), .t (.sc (.int .i64 o57c1)), .t (.sc (.int .i64 o57c2))])])
                    (C := [AVal.t (.sc (.int .i64 3)) = .t (.sc (.int .i64 (IntKind.i64.wrap (2 + 1))))]) (by kernel_rfl) ?_ ?_
                  · -- region 14
                    exact ⟨(by kernel_rfl), trivial⟩
                  refine andThen_normal ?_
                  refine LoopSim.step ?_
                  refine Sim.seq ?_
                  refine Sim.reg (orcs := []) (keys := [0, 3, 5, 6, 40, 41]) (τ := [(24, 24), (57, 57)]) (nx := 521)
                    (sl := [(0, .t (.lst 1 (List.map intT u))), (3, .row 24 ((out ++ [({ kind := 1, n := o57c1 } : AxStep)]).length)), (5, .ptr 57 0), (6, .t (.sc (.int .i64 (k : Int)))), (40, .t (.sc (.int .i64 3))), (41, .t (.sc (.bool false)))]) (l := [(24, .row 2 false (List.map stepT (out ++ [({ kind := 1, n := o57c1 } : AxStep)]))), (57, .box [.t (.sc (.int .i64 o57c0)), .t (.sc (.int .i64 o57c1)), .t (.sc (.int .i64 o57c2))])])
                    (C := []) (by kernel_rfl) ?_ ?_
                  · -- region 10
                    trivial
                  refine andThen_normal ?_
                  refine Sim.seq ?_
                  refine Sim.cond (b := false) (by kernel_rfl) (fun h10 => ?_) (fun h10 => ?_)
                  · cases h10
                  · skip
                    refine Sim.exit ?_
                    refine andThen_exit ?_
                    refine andThen_exit ?_
                    refine inBlk_same ?_
                    refine andThen_normal ?_
                    refine Sim.reg (orcs := []) (keys := [0, 3, 4]) (τ := [(24, 24)]) (nx := 537)
                      (sl := [(0, .t (.lst 1 (List.map intT u))), (3, .row 24 ((out ++ [({ kind := 1, n := o57c1 } : AxStep)]).length)), (4, .t (.sc (.int .i64 (k : Int))))]) (l := [(24, .row 2 false (List.map stepT (out ++ [({ kind := 1, n := o57c1 } : AxStep)])))])
                      (C := []) (by kernel_rfl) ?_ ?_
                    · -- region 15
                      trivial
                    refine inBlk_normal ?_
                    refine andThen_normal ?_
                    refine LoopSim.weaken (Le.ren (τ := [(24, 24)]) (keys := [0, 3, 4]) (nx := 25) (sl := [(0, .t (.lst 1 (List.map intT u))), (3, .row 24 ((out ++ [({ kind := 1, n := o57c1 } : AxStep)]).length)), (4, .t (.sc (.int .i64 (k : Int))))]) (l := [(24, .row 2 false (List.map stepT (out ++ [({ kind := 1, n := o57c1 } : AxStep)])))]) (by kernel_rfl)) ?_
                    have hE : segE u i k = k := by rw [segE, if_neg (by rcases h6 with h | h; omega; exact fun hh => beq_cls' h hh.2)]
                    have hG := segE_gt u i (by omega)
                    rw [I6.2.2.1, hE] at hG
                    refine ih3 (k, (out ++ [({ kind := 1, n := o57c1 } : AxStep)])) ?_ ?_
                    · -- back 3.6, invariant
                      refine ⟨by omega, by ((try simp only [List.length_append, List.length_cons, List.length_nil]); omega), ?_⟩
                      rw [I3.2.2, stepsL, dif_pos (by omega), I6.2.2.1, hE]
                      try simp only [I6.2.2.2.1, I6.2.2.2.2.1, I6.2.2.2.2.2]
                      congr 1
                      simp only [o3, o1]
                      (repeat (first | rw [if_pos (by omega)] | rw [if_neg (by omega)]))
                      simp
                    · -- back 3.6, measure
                      show u.length - k < u.length - i; omega
              · cases h10
            · (try simp only [decide_eq_true_eq, decide_eq_false_iff_not, Int.not_lt, Int.not_le, gt_iff_lt] at h12)
              refine Sim.skip ?_
              refine inBlk_normal ?_
              refine andThen_normal ?_
              refine Sim.reg (orcs := [(0, ⟨some (.t (.sc (.int .i64 2))), none, none, none⟩)]) (keys := [0, 3, 5, 6, 40]) (τ := [(24, 24), (57, 57)]) (nx := 369)
                (sl := [(0, .t (.lst 1 (List.map intT u))), (3, .row 24 out.length), (5, .ptr 57 0), (6, .t (.sc (.int .i64 (k : Int)))), (40, .t (.sc (.int .i64 2)))]) (l := [(24, .row 2 false (List.map stepT out)), (57, .box [.t (.sc (.int .i64 o57c0)), .t (.sc (.int .i64 o57c1)), .t (.sc (.int .i64 o57c2))])])
                (C := [AVal.t (.sc (.int .i64 2)) = .t (.sc (.int .i64 (IntKind.i64.wrap (1 + 1))))]) (by kernel_rfl) ?_ ?_
              · -- region 14
                exact ⟨(by kernel_rfl), trivial⟩
              refine andThen_normal ?_
              refine LoopSim.step ?_
              refine Sim.seq ?_
              refine Sim.reg (orcs := []) (keys := [0, 3, 5, 6, 40, 41]) (τ := [(24, 24), (57, 57)]) (nx := 377)
                (sl := [(0, .t (.lst 1 (List.map intT u))), (3, .row 24 out.length), (5, .ptr 57 0), (6, .t (.sc (.int .i64 (k : Int)))), (40, .t (.sc (.int .i64 2))), (41, .t (.sc (.bool true)))]) (l := [(24, .row 2 false (List.map stepT out)), (57, .box [.t (.sc (.int .i64 o57c0)), .t (.sc (.int .i64 o57c1)), .t (.sc (.int .i64 o57c2))])])
                (C := []) (by kernel_rfl) ?_ ?_
              · -- region 10
                trivial
              refine andThen_normal ?_
              refine Sim.seq ?_
              refine Sim.cond (b := true) (by kernel_rfl) (fun h10 => ?_) (fun h10 => ?_)
              · skip
                refine Sim.skip ?_
                refine andThen_normal ?_
                refine Sim.seq ?_
                refine Sim.block ?_
                refine Sim.seq ?_
                refine Sim.reg (orcs := []) (keys := [0, 3, 5, 6, 7, 40]) (τ := [(24, 24), (57, 57)]) (nx := 393)
                  (sl := [(0, .t (.lst 1 (List.map intT u))), (3, .row 24 out.length), (5, .ptr 57 0), (6, .t (.sc (.int .i64 (k : Int)))), (7, .t (.sc (.int .i64 2))), (40, .t (.sc (.int .i64 2)))]) (l := [(24, .row 2 false (List.map stepT out)), (57, .box [.t (.sc (.int .i64 o57c0)), .t (.sc (.int .i64 o57c1)), .t (.sc (.int .i64 o57c2))])])
                  (C := []) (by kernel_rfl) ?_ ?_
                · -- region 11
                  trivial
                refine andThen_normal ?_
                refine Sim.seq ?_
                refine Sim.reg (orcs := []) (keys := [0, 3, 5, 6, 7, 40, 46]) (τ := [(24, 24), (57, 57)]) (nx := 425)
                  (sl := [(0, .t (.lst 1 (List.map intT u))), (3, .row 24 out.length), (5, .ptr 57 0), (6, .t (.sc (.int .i64 (k : Int)))), (7, .t (.sc (.int .i64 2))), (40, .t (.sc (.int .i64 2))), (46, .t (.sc (.bool (decide (o57c2 > 0)))))]) (l := [(24, .row 2 false (List.map stepT out)), (57, .box [.t (.sc (.int .i64 o57c0)), .t (.sc (.int .i64 o57c1)), .t (.sc (.int .i64 o57c2))])])
                  (C := [(0:Int) ≤ 2, 2 < ((3 : Nat) : Int)]) (by kernel_rfl) ?_ ?_
                · -- region 12
                  refine ⟨?_, ?_, trivial⟩
                  all_goals (first | omega | with_reducible exact fun h => h | (intro hg hq; rw [hg, hq]; rfl) | (intro hq; rw [hq]; done) | (intro hq; rw [hq]; rfl) | ((try intro hg); (try simp [-List.getD_eq_getElem?_getD] at hg); (try simp only [List.length_map]); first | done | omega | rfl | (simp; done) | (simp; omega) | (simp [hg]; done) | (intro hq; simp [hg, hq]; done) | (intro hq; simp [hg, hq]; omega)))
                refine andThen_normal ?_
                refine Sim.cond (b := decide (o57c2 > 0)) (by kernel_rfl) (fun h12 => ?_) (fun h12 => ?_)
                · (try simp only [decide_eq_true_eq, decide_eq_false_iff_not, Int.not_lt, Int.not_le, gt_iff_lt] at h12)
                  refine Sim.reg (orcs := [(7, ⟨some (.row 24 ((out ++ [({ kind := 2, n := o57c2 } : AxStep)]).length)), some ([(24, .row 2 false (List.map stepT (out ++ [({ kind := 2, n := o57c2 } : AxStep)])))]), none, none⟩)]) (keys := [0, 3, 5, 6, 40]) (τ := [(24, 24), (57, 57)]) (nx := 497)
                    (sl := [(0, .t (.lst 1 (List.map intT u))), (3, .row 24 ((out ++ [({ kind := 2, n := o57c2 } : AxStep)]).length)), (5, .ptr 57 0), (6, .t (.sc (.int .i64 (k : Int)))), (40, .t (.sc (.int .i64 2)))]) (l := [(24, .row 2 false (List.map stepT (out ++ [({ kind := 2, n := o57c2 } : AxStep)]))), (57, .box [.t (.sc (.int .i64 o57c0)), .t (.sc (.int .i64 o57c1)), .t (.sc (.int .i64 o57c2))])])
                    (C := [(0:Int) ≤ 2, 2 < ((3 : Nat) : Int), 1 = (List.map stepT [({ kind := 2, n := o57c2 } : AxStep)]).length, (out.length : Nat) = (List.map stepT out).length, (out.length : Nat) + (List.map stepT [({ kind := 2, n := o57c2 } : AxStep)]).length ≤ 1099511627776, AVal.row 24 ((out ++ [({ kind := 2, n := o57c2 } : AxStep)]).length) = .row 24 (out.length + (List.map stepT [({ kind := 2, n := o57c2 } : AxStep)]).length), ([(24, .row 2 false (List.map stepT (out ++ [({ kind := 2, n := o57c2 } : AxStep)])))] : List (Nat × Ob)) = [(24, .row 2 false (List.map stepT out ++ List.map stepT [({ kind := 2, n := o57c2 } : AxStep)]))]]) (by kernel_rfl) ?_ ?_
                  · -- region 13
                    refine ⟨?_, ?_, ?_, ?_, ?_, (by simp), (row_append rfl), trivial⟩
                    all_goals (first | omega | with_reducible exact fun h => h | (intro hg hq; rw [hg, hq]; rfl) | (intro hq; rw [hq]; done) | (intro hq; rw [hq]; rfl) | ((try intro hg); (try simp [-List.getD_eq_getElem?_getD] at hg); (try simp only [List.length_map]); first | done | omega | rfl | (simp; done) | (simp; omega) | (simp [hg]; done) | (intro hq; simp [hg, hq]; done) | (intro hq; simp [hg, hq]; omega)))
                  refine inBlk_normal ?_
                  refine andThen_normal ?_
                  refine Sim.reg (orcs := [(0, ⟨some (.t (.sc (.int .i64 3))), none, none, none⟩)]) (keys := [0, 3, 5, 6, 40]) (τ := [(24, 24), (57, 57)]) (nx := 513)
                    (sl := [(0, .t (.lst 1 (List.map intT u))), (3, .row 24 ((out ++ [({ kind := 2, n := o57c2 } : AxStep)]).length)), (5, .ptr 57 0), (6, .t (.sc (.int .i64 (k : Int)))), (40, .t (.sc (.int .i64 3)))]) (l := [(24, .row 2 false (List.map stepT (out ++ [({ kind := 2, n := o57c2 } : AxStep)]))), (57, .box [.t (.sc (.int .i64 o57c0)), .t (.sc (.int .i64 o57c1)), .t (.sc (.int .i64 o57c2))])])
                    (C := [AVal.t (.sc (.int .i64 3)) = .t (.sc (.int .i64 (IntKind.i64.wrap (2 + 1))))]) (by kernel_rfl) ?_ ?_
                  · -- region 14
                    exact ⟨(by kernel_rfl), trivial⟩
                  refine andThen_normal ?_
                  refine LoopSim.step ?_
                  refine Sim.seq ?_
                  refine Sim.reg (orcs := []) (keys := [0, 3, 5, 6, 40, 41]) (τ := [(24, 24), (57, 57)]) (nx := 521)
                    (sl := [(0, .t (.lst 1 (List.map intT u))), (3, .row 24 ((out ++ [({ kind := 2, n := o57c2 } : AxStep)]).length)), (5, .ptr 57 0), (6, .t (.sc (.int .i64 (k : Int)))), (40, .t (.sc (.int .i64 3))), (41, .t (.sc (.bool false)))]) (l := [(24, .row 2 false (List.map stepT (out ++ [({ kind := 2, n := o57c2 } : AxStep)]))), (57, .box [.t (.sc (.int .i64 o57c0)), .t (.sc (.int .i64 o57c1)), .t (.sc (.int .i64 o57c2))])])
                    (C := []) (by kernel_rfl) ?_ ?_
                  · -- region 10
                    trivial
                  refine andThen_normal ?_
                  refine Sim.seq ?_
                  refine Sim.cond (b := false) (by kernel_rfl) (fun h10 => ?_) (fun h10 => ?_)
                  · cases h10
                  · skip
                    refine Sim.exit ?_
                    refine andThen_exit ?_
                    refine andThen_exit ?_
                    refine inBlk_same ?_
                    refine andThen_normal ?_
                    refine Sim.reg (orcs := []) (keys := [0, 3, 4]) (τ := [(24, 24)]) (nx := 537)
                      (sl := [(0, .t (.lst 1 (List.map intT u))), (3, .row 24 ((out ++ [({ kind := 2, n := o57c2 } : AxStep)]).length)), (4, .t (.sc (.int .i64 (k : Int))))]) (l := [(24, .row 2 false (List.map stepT (out ++ [({ kind := 2, n := o57c2 } : AxStep)])))])
                      (C := []) (by kernel_rfl) ?_ ?_
                    · -- region 15
                      trivial
                    refine inBlk_normal ?_
                    refine andThen_normal ?_
                    refine LoopSim.weaken (Le.ren (τ := [(24, 24)]) (keys := [0, 3, 4]) (nx := 25) (sl := [(0, .t (.lst 1 (List.map intT u))), (3, .row 24 ((out ++ [({ kind := 2, n := o57c2 } : AxStep)]).length)), (4, .t (.sc (.int .i64 (k : Int))))]) (l := [(24, .row 2 false (List.map stepT (out ++ [({ kind := 2, n := o57c2 } : AxStep)])))]) (by kernel_rfl)) ?_
                    have hE : segE u i k = k := by rw [segE, if_neg (by rcases h6 with h | h; omega; exact fun hh => beq_cls' h hh.2)]
                    have hG := segE_gt u i (by omega)
                    rw [I6.2.2.1, hE] at hG
                    refine ih3 (k, (out ++ [({ kind := 2, n := o57c2 } : AxStep)])) ?_ ?_
                    · -- back 3.7, invariant
                      refine ⟨by omega, by ((try simp only [List.length_append, List.length_cons, List.length_nil]); omega), ?_⟩
                      rw [I3.2.2, stepsL, dif_pos (by omega), I6.2.2.1, hE]
                      try simp only [I6.2.2.2.1, I6.2.2.2.2.1, I6.2.2.2.2.2]
                      congr 1
                      simp only [o3, o1]
                      (repeat (first | rw [if_pos (by omega)] | rw [if_neg (by omega)]))
                      simp
                    · -- back 3.7, measure
                      show u.length - k < u.length - i; omega
                · (try simp only [decide_eq_true_eq, decide_eq_false_iff_not, Int.not_lt, Int.not_le, gt_iff_lt] at h12)
                  refine Sim.skip ?_
                  refine inBlk_normal ?_
                  refine andThen_normal ?_
                  refine Sim.reg (orcs := [(0, ⟨some (.t (.sc (.int .i64 3))), none, none, none⟩)]) (keys := [0, 3, 5, 6, 40]) (τ := [(24, 24), (57, 57)]) (nx := 441)
                    (sl := [(0, .t (.lst 1 (List.map intT u))), (3, .row 24 out.length), (5, .ptr 57 0), (6, .t (.sc (.int .i64 (k : Int)))), (40, .t (.sc (.int .i64 3)))]) (l := [(24, .row 2 false (List.map stepT out)), (57, .box [.t (.sc (.int .i64 o57c0)), .t (.sc (.int .i64 o57c1)), .t (.sc (.int .i64 o57c2))])])
                    (C := [AVal.t (.sc (.int .i64 3)) = .t (.sc (.int .i64 (IntKind.i64.wrap (2 + 1))))]) (by kernel_rfl) ?_ ?_
                  · -- region 14
                    exact ⟨(by kernel_rfl), trivial⟩
                  refine andThen_normal ?_
                  refine LoopSim.step ?_
                  refine Sim.seq ?_
                  refine Sim.reg (orcs := []) (keys := [0, 3, 5, 6, 40, 41]) (τ := [(24, 24), (57, 57)]) (nx := 449)
                    (sl := [(0, .t (.lst 1 (List.map intT u))), (3, .row 24 out.length), (5, .ptr 57 0), (6, .t (.sc (.int .i64 (k : Int)))), (40, .t (.sc (.int .i64 3))), (41, .t (.sc (.bool false)))]) (l := [(24, .row 2 false (List.map stepT out)), (57, .box [.t (.sc (.int .i64 o57c0)), .t (.sc (.int .i64 o57c1)), .t (.sc (.int .i64 o57c2))])])
                    (C := []) (by kernel_rfl) ?_ ?_
                  · -- region 10
                    trivial
                  refine andThen_normal ?_
                  refine Sim.seq ?_
                  refine Sim.cond (b := false) (by kernel_rfl) (fun h10 => ?_) (fun h10 => ?_)
                  · cases h10
                  · skip
                    refine Sim.exit ?_
                    refine andThen_exit ?_
                    refine andThen_exit ?_
                    refine inBlk_same ?_
                    refine andThen_normal ?_
                    refine Sim.reg (orcs := []) (keys := [0, 3, 4]) (τ := [(24, 24)]) (nx := 465)
                      (sl := [(0, .t (.lst 1 (List.map intT u))), (3, .row 24 out.length), (4, .t (.sc (.int .i64 (k : Int))))]) (l := [(24, .row 2 false (List.map stepT out))])
                      (C := []) (by kernel_rfl) ?_ ?_
                    · -- region 15
                      trivial
                    refine inBlk_normal ?_
                    refine andThen_normal ?_
                    refine LoopSim.weaken (Le.ren (τ := [(24, 24)]) (keys := [0, 3, 4]) (nx := 25) (sl := [(0, .t (.lst 1 (List.map intT u))), (3, .row 24 out.length), (4, .t (.sc (.int .i64 (k : Int))))]) (l := [(24, .row 2 false (List.map stepT out))]) (by kernel_rfl)) ?_
                    have hE : segE u i k = k := by rw [segE, if_neg (by rcases h6 with h | h; omega; exact fun hh => beq_cls' h hh.2)]
                    have hG := segE_gt u i (by omega)
                    rw [I6.2.2.1, hE] at hG
                    refine ih3 (k, out) ?_ ?_
                    · -- back 3.8, invariant
                      refine ⟨by omega, by ((try simp only [List.length_append, List.length_cons, List.length_nil]); omega), ?_⟩
                      rw [I3.2.2, stepsL, dif_pos (by omega), I6.2.2.1, hE]
                      try simp only [I6.2.2.2.1, I6.2.2.2.2.1, I6.2.2.2.2.2]
                      congr 1
                      simp only [o3, o1]
                      (repeat (first | rw [if_pos (by omega)] | rw [if_neg (by omega)]))
                      simp
                    · -- back 3.8, measure
                      show u.length - k < u.length - i; omega
              · cases h10
          · cases h10
      · cases h10
  · (try simp only [decide_eq_true_eq, decide_eq_false_iff_not, Int.not_lt, Int.not_le] at h3)
    refine Sim.exit ?_
    refine andThen_exit ?_
    refine andThen_exit ?_
    refine inBlk_same ?_
    refine andThen_normal ?_
    refine Sim.seq ?_
    refine Sim.reg (orcs := []) (keys := [2]) (τ := [(24, 24)]) (nx := 73)
      (sl := [(2, .row 24 out.length)]) (l := [(24, .row 2 false (List.map stepT out))])
      (C := []) (by kernel_rfl) ?_ ?_
    · -- region 16
      trivial
    refine andThen_normal ?_
    refine Sim.ret ?_
    refine Fin.le (Le.freeze (t := 2) (v' := .t (.lst 2 (List.map stepT out))) (g := [(24, .row 2 true (List.map stepT out))]) (p := [(out.length : Nat) = (List.map stepT out).length]) rfl (by kernel_rfl) ⟨(by (first | omega | with_reducible exact fun h => h | (intro hq; rw [hq]; done) | (intro hq; rw [hq]; rfl) | (simp only [List.length_map]; done) | (simp only [List.length_map]; omega) | (simp; omega) | (simp; done))), trivial⟩ (by kernel_rfl)) ?_
    refine Fin.mk2 (.inl rfl) (τ := []) (keys := [2]) (nx := 73) (sl := [(2, .t (.lst 2 (List.map stepT out)))]) (l := []) (res' := .t (.lst 2 (List.map stepT out))) (by kernel_rfl) ?_ (by kernel_rfl) ?_
    · -- end 1, objects
      first | done | rfl
    · -- end 1, result
      have e1 : ((stepsL u 0 [])) = out := by
        rw [I3.2.2, stepsL, dif_neg (by omega)]
      show AVal.t (.lst 2 (List.map stepT out)) = .t (.lst 2 (List.map stepT (stepsL u 0 [])))
      rw [e1]
      try rfl

theorem rollU_bd (raw : List Int) (used : Int) : used ≤ rollU raw used ∧ rollU raw used ≤ used + 1 := by unfold rollU; split <;> omega
def fitA (u : List Int) (v : Int) : List Int := u ++ List.replicate (max 0 (v - 3)).toNat 1
def fitL (raw : List Int) : Nat → Int → List Int → List Int × Int
  | 0, used, u => (u, used)
  | r + 1, used, u => fitL raw r (rollU raw (rollU raw used)) (fitA u (rollV raw used 6) ++ [if rollV raw (rollU raw used) 6 = 0 then 2 else 0])
def fitU (raw : List Int) (n : Nat) : List Int := fitA (fitL raw n 0 []).1 (rollV raw (fitL raw n 0 []).2 6)
def U3 (u : List Int) : Prop := ∀ x ∈ u, 0 ≤ x ∧ x ≤ 2
theorem U3.app {u v : List Int} (h : U3 u) (k : U3 v) : U3 (u ++ v) := fun x hx => by
  rcases List.mem_append.1 hx with hx | hx
  · exact h x hx
  · exact k x hx
theorem U3.one {x : Int} (h : 0 ≤ x ∧ x ≤ 2) : U3 [x] := fun y hy => by rw [List.mem_singleton] at hy; subst hy; exact h
theorem U3.reps (j : Nat) : U3 (List.replicate j 1) := fun y hy => by rw [List.eq_of_mem_replicate hy]; decide
theorem fitA_at {u w : List Int} {v : Int} {j : Nat} (hw : w = u ++ List.replicate j 1) (h1 : (j : Int) ≤ max 0 (v - 3)) (h2 : max 0 (v - 3) ≤ (j : Int)) : fitA u v = w := by
  unfold fitA; rw [hw]; congr 2; omega

theorem fc_fitting (n : Int) (raw : List Int) (hn : 0 ≤ n ∧ n ≤ 100000000) : FC Try.prog 36 [.t (.sc (.int .i64 n)), .t (.lst 1 (List.map intT raw))] (app emp []) (.t (.lst 2 (List.map stepT (stepsL (fitU raw n.toNat) 0 [])))) (app emp []) := by
  refine FC.of_sim (fn := Try.f36) (nx := 0) (by kernel_rfl) rfl (by kernel_rfl) rfl ?_
  show Sim _ _ _ _ ⟨[(0, .t (.sc (.int .i64 n))), (1, .t (.lst 1 (List.map intT raw)))], app emp [], 0⟩ _
  refine Sim.len (t := 1) (k := 1) rfl (fun hl1 => ?_)
  rw [List.length_map] at hl1
  refine Sim.seq ?_
  refine Sim.reg (orcs := []) (keys := [0, 1]) (τ := []) (nx := 8)
    (sl := [(0, .t (.sc (.int .i64 n))), (1, .t (.lst 1 (List.map intT raw)))]) (l := [])
    (C := []) (by kernel_rfl) ?_ ?_
  · -- region 0
    trivial
  refine andThen_normal ?_
  refine Sim.seq ?_
  refine Sim.reg (orcs := []) (keys := [0, 1, 5]) (τ := []) (nx := 16)
    (sl := [(0, .t (.sc (.int .i64 n))), (1, .t (.lst 1 (List.map intT raw))), (5, .t (.sc (.slice none 0 0)))]) (l := [])
    (C := []) (by kernel_rfl) ?_ ?_
  · -- region 1
    trivial
  refine andThen_normal ?_
  refine Sim.seq ?_
  refine Sim.reg (orcs := []) (keys := [0, 5, 6]) (τ := [(32, 32)]) (nx := 48)
    (sl := [(0, .t (.sc (.int .i64 n))), (5, .t (.sc (.slice none 0 0))), (6, .ptr 32 0)]) (l := [(32, .box [.t (.lst 1 (List.map intT raw)), .t (.sc (.int .i64 0))])])
    (C := []) (by kernel_rfl) ?_ ?_
  · -- region 2
    trivial
  refine andThen_normal ?_
  refine Sim.seq ?_
  refine Sim.seq ?_
  refine Sim.reg (orcs := []) (keys := [5, 6, 10, 11]) (τ := [(32, 32)]) (nx := 64)
    (sl := [(5, .t (.sc (.slice none 0 0))), (6, .ptr 32 0), (10, .t (.sc (.int .i64 n))), (11, .t (.sc (.int .i64 0)))]) (l := [(32, .box [.t (.lst 1 (List.map intT raw)), .t (.sc (.int .i64 0))])])
    (C := []) (by kernel_rfl) ?_ ?_
  · -- region 3
    trivial
  refine andThen_normal ?_
  refine Sim.block ?_
  refine Sim.weaken (Le.nilRow (t := 5) (k := 1) (id := 64) rfl rfl rfl) ?_
  refine Sim.weaken (Le.ren (τ := [(32, 32), (64, 64)]) (keys := [5, 6, 10, 11]) (nx := 65) (sl := [(5, .row 64 0), (6, .ptr 32 0), (10, .t (.sc (.int .i64 n))), (11, .t (.sc (.int .i64 ((0 : Nat) : Int))))]) (l := [(32, .box [.t (.lst 1 (List.map intT raw)), .t (.sc (.int .i64 0))]), (64, .row 1 false (List.map intT []))]) (by kernel_rfl)) ?_
  refine Sim.loop ?_
  refine loop_ind (α := Nat × Int × (List Int)) (fun (i, o32c1, u) => ⟨[(5, .row 64 u.length), (6, .ptr 32 0), (10, .t (.sc (.int .i64 n))), (11, .t (.sc (.int .i64 (i : Int))))], app emp [(32, .box [.t (.lst 1 (List.map intT raw)), .t (.sc (.int .i64 o32c1))]), (64, .row 1 false (List.map intT u))], 65⟩) (fun (i, o32c1, u) => (i : Int) ≤ n ∧ 0 ≤ o32c1 ∧ o32c1 ≤ 2 * i ∧ u.length ≤ 3 * i ∧ U3 u ∧ fitL raw n.toNat 0 [] = fitL raw (n.toNat - i) o32c1 u) (fun (i, o32c1, u) => n.toNat - i) ?_ (0, 0, []) ?_
  rotate_left
  · -- loop 4, start
    exact ⟨by omega, by decide, by omega, by simp, fun x hx => (by cases hx), rfl⟩
  rintro ⟨i, o32c1, u⟩ I4 ih4
  show LoopSim _ _ _ _ ⟨[(5, .row 64 u.length), (6, .ptr 32 0), (10, .t (.sc (.int .i64 n))), (11, .t (.sc (.int .i64 (i : Int))))], app emp [(32, .box [.t (.lst 1 (List.map intT raw)), .t (.sc (.int .i64 o32c1))]), (64, .row 1 false (List.map intT u))], 65⟩ _
  replace I4 : (i : Int) ≤ n ∧ 0 ≤ o32c1 ∧ o32c1 ≤ 2 * i ∧ u.length ≤ 3 * i ∧ U3 u ∧ fitL raw n.toNat 0 [] = fitL raw (n.toNat - i) o32c1 u := I4
  have r1 := rollU_bd raw o32c1
  have r2 := rollU_bd raw (rollU raw o32c1)
  have v1 := rollV_bd raw o32c1 (n := 6) (by decide)
  have v2 := rollV_bd raw (rollU raw o32c1) (n := 6) (by decide)
  refine LoopSim.step ?_
  refine Sim.seq ?_
  refine Sim.reg (orcs := []) (keys := [5, 6, 10, 11, 12]) (τ := [(32, 32), (64, 64)]) (nx := 73)
    (sl := [(5, .row 64 u.length), (6, .ptr 32 0), (10, .t (.sc (.int .i64 n))), (11, .t (.sc (.int .i64 (i : Int)))), (12, .t (.sc (.bool (decide ((i : Int) < n)))))]) (l := [(32, .box [.t (.lst 1 (List.map intT raw)), .t (.sc (.int .i64 o32c1))]), (64, .row 1 false (List.map intT u))])
    (C := []) (by kernel_rfl) ?_ ?_
  · -- region 4
    trivial
  refine andThen_normal ?_
  refine Sim.seq ?_
  refine Sim.cond (b := decide ((i : Int) < n)) (by kernel_rfl) (fun h4 => ?_) (fun h4 => ?_)
  · (try simp only [decide_eq_true_eq, decide_eq_false_iff_not, Int.not_lt, Int.not_le] at h4)
    refine Sim.skip ?_
    refine andThen_normal ?_
    refine Sim.seq ?_
    refine Sim.block ?_
    refine Sim.seq ?_
    refine Sim.seq ?_
    refine Sim.reg (orcs := [(1, ⟨none, none, none, some (⟨2, [32], .t (.sc (.int .i64 (rollV raw o32c1 6))), [(32, .box [.t (.lst 1 (List.map intT raw)), .t (.sc (.int .i64 (rollU raw o32c1)))])]⟩)⟩), (2, ⟨some (.t (.sc (.int .i64 ((rollV raw o32c1 6) - 3)))), none, none, none⟩), (3, ⟨some (.t (.sc (.int .i64 (max 0 ((rollV raw o32c1 6) - 3))))), none, none, none⟩)]) (keys := [5, 6, 10, 11, 16, 17]) (τ := [(32, 32), (64, 64)]) (nx := 113)
      (sl := [(5, .row 64 u.length), (6, .ptr 32 0), (10, .t (.sc (.int .i64 n))), (11, .t (.sc (.int .i64 (i : Int)))), (16, .t (.sc (.int .i64 (max 0 ((rollV raw o32c1 6) - 3))))), (17, .t (.sc (.int .i64 0)))]) (l := [(32, .box [.t (.lst 1 (List.map intT raw)), .t (.sc (.int .i64 (rollU raw o32c1)))]), (64, .row 1 false (List.map intT u))])
      (C := [callable Try.prog 87 = true, FC Try.prog 87 [.ptr 32 0, .t (.sc (.int .i64 6))] (only (only (app emp [(32, .box [.t (.lst 1 (List.map intT raw)), .t (.sc (.int .i64 o32c1))]), (64, .row 1 false (List.map intT u))]) [32, 32]) [32]) (.t (.sc (.int .i64 (rollV raw o32c1 6)))) (app (only (only (app emp [(32, .box [.t (.lst 1 (List.map intT raw)), .t (.sc (.int .i64 o32c1))]), (64, .row 1 false (List.map intT u))]) [32, 32]) [32]) [(32, .box [.t (.lst 1 (List.map intT raw)), .t (.sc (.int .i64 (rollU raw o32c1)))])]), AVal.t (.sc (.int .i64 ((rollV raw o32c1 6) - 3))) = .t (.sc (.int .i64 (IntKind.i64.wrap ((rollV raw o32c1 6) - 3)))), AVal.t (.sc (.int .i64 (max 0 ((rollV raw o32c1 6) - 3)))) = .t (.sc (.int .i64 (if ((rollV raw o32c1 6) - 3) > 0 then ((rollV raw o32c1 6) - 3) else 0)))]) (by kernel_rfl) ?_ ?_
    · -- region 5
      refine ⟨(by kernel_rfl), (FC.at (FC.ren (fc_roll raw o32c1 6 (by omega) (by omega) (by omega)) [(0, 32)] [(0, 32)] (l0' := [(32, .box [.t (.lst 1 (List.map intT raw)), .t (.sc (.int .i64 o32c1))])]) (args' := [.ptr 32 0, .t (.sc (.int .i64 6))]) (res' := .t (.sc (.int .i64 (rollV raw o32c1 6)))) (l1' := [(32, .box [.t (.lst 1 (List.map intT raw)), .t (.sc (.int .i64 (rollU raw o32c1)))])]) (by kernel_rfl) (by kernel_rfl) (by kernel_rfl) (by kernel_rfl) (by kernel_rfl) (by kernel_rfl)) (fun i => by by_cases e0 : i = 32; (subst e0; rfl); by_cases e1 : i = 64; (subst e1; rfl); simp only [only, app, upd, emp, hasId, cond_false, beq_ne e0, beq_ne (Ne.symm e0), beq_ne e1, beq_ne (Ne.symm e1)]) (fun i => by by_cases e0 : i = 32; (subst e0; rfl); by_cases e1 : i = 64; (subst e1; rfl); simp only [only, app, upd, emp, hasId, cond_false, beq_ne e0, beq_ne (Ne.symm e0), beq_ne e1, beq_ne (Ne.symm e1)])), (nw ?_), max_if, trivial⟩
      all_goals (first | omega | with_reducible exact fun h => h | (intro hg hq; rw [hg, hq]; rfl) | (intro hq; rw [hq]; done) | (intro hq; rw [hq]; rfl) | ((try intro hg); (try simp [-List.getD_eq_getElem?_getD] at hg); (try simp only [List.length_map]); first | done | omega | rfl | (simp; done) | (simp; omega) | (simp [hg]; done) | (intro hq; simp [hg, hq]; done) | (intro hq; simp [hg, hq]; omega)))
    refine andThen_normal ?_
    refine Sim.block ?_
    refine Sim.weaken (Le.ren (τ := [(32, 32), (64, 64)]) (keys := [5, 6, 10, 11, 16, 17]) (nx := 113) (sl := [(5, .row 64 u.length), (6, .ptr 32 0), (10, .t (.sc (.int .i64 n))), (11, .t (.sc (.int .i64 (i : Int)))), (16, .t (.sc (.int .i64 (max 0 ((rollV raw o32c1 6) - 3))))), (17, .t (.sc (.int .i64 ((0 : Nat) : Int))))]) (l := [(32, .box [.t (.lst 1 (List.map intT raw)), .t (.sc (.int .i64 (rollU raw o32c1)))]), (64, .row 1 false (List.map intT u))]) (by kernel_rfl)) ?_
    refine Sim.loop ?_
    refine loop_ind (α := Nat × (List Int)) (fun (j, w) => ⟨[(5, .row 64 w.length), (6, .ptr 32 0), (10, .t (.sc (.int .i64 n))), (11, .t (.sc (.int .i64 (i : Int)))), (16, .t (.sc (.int .i64 (max 0 ((rollV raw o32c1 6) - 3))))), (17, .t (.sc (.int .i64 (j : Int))))], app emp [(32, .box [.t (.lst 1 (List.map intT raw)), .t (.sc (.int .i64 (rollU raw o32c1)))]), (64, .row 1 false (List.map intT w))], 113⟩) (fun (j, w) => (j : Int) ≤ (max 0 ((rollV raw o32c1 6) - 3)) ∧ w = u ++ List.replicate j 1) (fun (j, w) => ((max 0 ((rollV raw o32c1 6) - 3))).toNat - j) ?_ (0, u) ?_
    rotate_left
    · -- loop 6, start
      exact ⟨by omega, by simp⟩
    rintro ⟨j, w⟩ I6 ih6
    show LoopSim _ _ _ _ ⟨[(5, .row 64 w.length), (6, .ptr 32 0), (10, .t (.sc (.int .i64 n))), (11, .t (.sc (.int .i64 (i : Int)))), (16, .t (.sc (.int .i64 (max 0 ((rollV raw o32c1 6) - 3))))), (17, .t (.sc (.int .i64 (j : Int))))], app emp [(32, .box [.t (.lst 1 (List.map intT raw)), .t (.sc (.int .i64 (rollU raw o32c1)))]), (64, .row 1 false (List.map intT w))], 113⟩ _
    replace I6 : (j : Int) ≤ (max 0 ((rollV raw o32c1 6) - 3)) ∧ w = u ++ List.replicate j 1 := I6
    have wl : w.length = u.length + j := by rw [I6.2]; simp
    refine LoopSim.step ?_
    refine Sim.seq ?_
    refine Sim.reg (orcs := []) (keys := [5, 6, 10, 11, 16, 17, 18]) (τ := [(32, 32), (64, 64)]) (nx := 121)
      (sl := [(5, .row 64 w.length), (6, .ptr 32 0), (10, .t (.sc (.int .i64 n))), (11, .t (.sc (.int .i64 (i : Int)))), (16, .t (.sc (.int .i64 (max 0 ((rollV raw o32c1 6) - 3))))), (17, .t (.sc (.int .i64 (j : Int)))), (18, .t (.sc (.bool (decide ((j : Int) < (max 0 ((rollV raw o32c1 6) - 3)))))))]) (l := [(32, .box [.t (.lst 1 (List.map intT raw)), .t (.sc (.int .i64 (rollU raw o32c1)))]), (64, .row 1 false (List.map intT w))])
      (C := []) (by kernel_rfl) ?_ ?_
    · -- region 6
      trivial
    refine andThen_normal ?_
    refine Sim.seq ?_
    refine Sim.cond (b := decide ((j : Int) < (max 0 ((rollV raw o32c1 6) - 3)))) (by kernel_rfl) (fun h6 => ?_) (fun h6 => ?_)
    · (try simp only [decide_eq_true_eq, decide_eq_false_iff_not, Int.not_lt, Int.not_le] at h6)
      refine Sim.skip ?_
      refine andThen_normal ?_
      refine Sim.seq ?_
      refine Sim.block ?_
      refine Sim.reg (orcs := [(2, ⟨some (.row 64 ((w ++ [1]).length)), some ([(64, .row 1 false (List.map intT (w ++ [1])))]), none, none⟩)]) (keys := [5, 6, 10, 11, 16, 17]) (τ := [(32, 32), (64, 64)]) (nx := 153)
        (sl := [(5, .row 64 ((w ++ [1]).length)), (6, .ptr 32 0), (10, .t (.sc (.int .i64 n))), (11, .t (.sc (.int .i64 (i : Int)))), (16, .t (.sc (.int .i64 (max 0 ((rollV raw o32c1 6) - 3))))), (17, .t (.sc (.int .i64 (j : Int))))]) (l := [(32, .box [.t (.lst 1 (List.map intT raw)), .t (.sc (.int .i64 (rollU raw o32c1)))]), (64, .row 1 false (List.map intT (w ++ [1])))])
        (C := [1 = (List.map intT [1]).length, (w.length : Nat) = (List.map intT w).length, (w.length : Nat) + (List.map intT [1]).length ≤ 1099511627776, AVal.row 64 ((w ++ [1]).length) = .row 64 (w.length + (List.map intT [1]).length), ([(64, .row 1 false (List.map intT (w ++ [1])))] : List (Nat × Ob)) = [(64, .row 1 false (List.map intT w ++ List.map intT [1]))]]) (by kernel_rfl) ?_ ?_
      · -- region 7
        refine ⟨?_, ?_, ?_, (by simp), (row_append rfl), trivial⟩
        all_goals (first | omega | with_reducible exact fun h => h | (intro hg hq; rw [hg, hq]; rfl) | (intro hq; rw [hq]; done) | (intro hq; rw [hq]; rfl) | ((try intro hg); (try simp [-List.getD_eq_getElem?_getD] at hg); (try simp only [List.length_map]); first | done | omega | rfl | (simp; done) | (simp; omega) | (simp [hg]; done) | (intro hq; simp [hg, hq]; done) | (intro hq; simp [hg, hq]; omega)))
      refine inBlk_normal ?_
      refine andThen_normal ?_
      refine Sim.reg (orcs := [(0, ⟨some (.t (.sc (.int .i64 ((j : Int) + 1)))), none, none, none⟩)]) (keys := [5, 6, 10, 11, 16, 17]) (τ := [(32, 32), (64, 64)]) (nx := 169)
        (sl := [(5, .row 64 ((w ++ [1]).length)), (6, .ptr 32 0), (10, .t (.sc (.int .i64 n))), (11, .t (.sc (.int .i64 (i : Int)))), (16, .t (.sc (.int .i64 (max 0 ((rollV raw o32c1 6) - 3))))), (17, .t (.sc (.int .i64 ((j : Int) + 1))))]) (l := [(32, .box [.t (.lst 1 (List.map intT raw)), .t (.sc (.int .i64 (rollU raw o32c1)))]), (64, .row 1 false (List.map intT (w ++ [1])))])
        (C := [AVal.t (.sc (.int .i64 ((j : Int) + 1))) = .t (.sc (.int .i64 (IntKind.i64.wrap ((j : Int) + 1))))]) (by kernel_rfl) ?_ ?_
      · -- region 8
        refine ⟨(nw ?_), trivial⟩
        all_goals (first | omega | with_reducible exact fun h => h | (intro hg hq; rw [hg, hq]; rfl) | (intro hq; rw [hq]; done) | (intro hq; rw [hq]; rfl) | ((try intro hg); (try simp [-List.getD_eq_getElem?_getD] at hg); (try simp only [List.length_map]); first | done | omega | rfl | (simp; done) | (simp; omega) | (simp [hg]; done) | (intro hq; simp [hg, hq]; done) | (intro hq; simp [hg, hq]; omega)))
      refine andThen_normal ?_
      refine LoopSim.weaken (Le.ren (τ := [(32, 32), (64, 64)]) (keys := [5, 6, 10, 11, 16, 17]) (nx := 113) (sl := [(5, .row 64 ((w ++ [1]).length)), (6, .ptr 32 0), (10, .t (.sc (.int .i64 n))), (11, .t (.sc (.int .i64 (i : Int)))), (16, .t (.sc (.int .i64 (max 0 ((rollV raw o32c1 6) - 3))))), (17, .t (.sc (.int .i64 (((j + 1) : Nat) : Int))))]) (l := [(32, .box [.t (.lst 1 (List.map intT raw)), .t (.sc (.int .i64 (rollU raw o32c1)))]), (64, .row 1 false (List.map intT (w ++ [1])))]) (by kernel_rfl)) ?_
      refine ih6 ((j + 1), (w ++ [1])) ?_ ?_
      · -- back 6.1, invariant
        exact ⟨by omega, by rw [I6.2, List.append_assoc, ← List.replicate_succ']⟩
      · -- back 6.1, measure
        show (_:Nat) < _; (first | omega | with_reducible exact fun h => h | (intro hq; rw [hq]; done) | (intro hq; rw [hq]; rfl) | (simp only [List.length_map]; done) | (simp only [List.length_map]; omega) | (simp; omega) | (simp; done))
    · (try simp only [decide_eq_true_eq, decide_eq_false_iff_not, Int.not_lt, Int.not_le] at h6)
      refine Sim.exit ?_
      refine andThen_exit ?_
      refine andThen_exit ?_
      refine inBlk_same ?_
      refine andThen_normal ?_
      refine Sim.seq ?_
      refine Sim.reg (orcs := [(1, ⟨none, none, none, some (⟨2, [32], .t (.sc (.int .i64 (rollV raw (rollU raw o32c1) 6))), [(32, .box [.t (.lst 1 (List.map intT raw)), .t (.sc (.int .i64 (rollU raw (rollU raw o32c1))))])]⟩)⟩)]) (keys := [5, 6, 10, 11, 25]) (τ := [(32, 32), (64, 64)]) (nx := 145)
        (sl := [(5, .row 64 w.length), (6, .ptr 32 0), (10, .t (.sc (.int .i64 n))), (11, .t (.sc (.int .i64 (i : Int)))), (25, .t (.sc (.bool ((rollV raw (rollU raw o32c1) 6) == 0))))]) (l := [(32, .box [.t (.lst 1 (List.map intT raw)), .t (.sc (.int .i64 (rollU raw (rollU raw o32c1))))]), (64, .row 1 false (List.map intT w))])
        (C := [callable Try.prog 87 = true, FC Try.prog 87 [.ptr 32 0, .t (.sc (.int .i64 6))] (only (only (app emp [(32, .box [.t (.lst 1 (List.map intT raw)), .t (.sc (.int .i64 (rollU raw o32c1)))]), (64, .row 1 false (List.map intT w))]) [32, 32]) [32]) (.t (.sc (.int .i64 (rollV raw (rollU raw o32c1) 6)))) (app (only (only (app emp [(32, .box [.t (.lst 1 (List.map intT raw)), .t (.sc (.int .i64 (rollU raw o32c1)))]), (64, .row 1 false (List.map intT w))]) [32, 32]) [32]) [(32, .box [.t (.lst 1 (List.map intT raw)), .t (.sc (.int .i64 (rollU raw (rollU raw o32c1))))])])]) (by kernel_rfl) ?_ ?_
      · -- region 9
        exact ⟨(by kernel_rfl), (FC.at (FC.ren (fc_roll raw (rollU raw o32c1) 6 (by omega) (by omega) (by omega)) [(0, 32)] [(0, 32)] (l0' := [(32, .box [.t (.lst 1 (List.map intT raw)), .t (.sc (.int .i64 (rollU raw o32c1)))])]) (args' := [.ptr 32 0, .t (.sc (.int .i64 6))]) (res' := .t (.sc (.int .i64 (rollV raw (rollU raw o32c1) 6)))) (l1' := [(32, .box [.t (.lst 1 (List.map intT raw)), .t (.sc (.int .i64 (rollU raw (rollU raw o32c1))))])]) (by kernel_rfl) (by kernel_rfl) (by kernel_rfl) (by kernel_rfl) (by kernel_rfl) (by kernel_rfl)) (fun i => by by_cases e0 : i = 32; (subst e0; rfl); by_cases e1 : i = 64; (subst e1; rfl); simp only [only, app, upd, emp, hasId, cond_false, beq_ne e0, beq_ne (Ne.symm e0), beq_ne e1, beq_ne (Ne.symm e1)]) (fun i => by by_cases e0 : i = 32; (subst e0; rfl); by_cases e1 : i = 64; (subst e1; rfl); simp only [only, app, upd, emp, hasId, cond_false, beq_ne e0, beq_ne (Ne.symm e0), beq_ne e1, beq_ne (Ne.symm e1)])), trivial⟩
      refine andThen_normal ?_
      refine Sim.cond (b := ((rollV raw (rollU raw o32c1) 6) == 0)) (by kernel_rfl) (fun h9 => ?_) (fun h9 => ?_)
      · (try simp only [beq_iff_eq, beq_eq_false_iff_ne, ne_eq] at h9)
        refine Sim.reg (orcs := [(2, ⟨some (.row 64 ((w ++ [2]).length)), some ([(64, .row 1 false (List.map intT (w ++ [2])))]), none, none⟩)]) (keys := [5, 6, 10, 11]) (τ := [(32, 32), (64, 64)]) (nx := 177)
          (sl := [(5, .row 64 ((w ++ [2]).length)), (6, .ptr 32 0), (10, .t (.sc (.int .i64 n))), (11, .t (.sc (.int .i64 (i : Int))))]) (l := [(32, .box [.t (.lst 1 (List.map intT raw)), .t (.sc (.int .i64 (rollU raw (rollU raw o32c1))))]), (64, .row 1 false (List.map intT (w ++ [2])))])
          (C := [1 = (List.map intT [2]).length, (w.length : Nat) = (List.map intT w).length, (w.length : Nat) + (List.map intT [2]).length ≤ 1099511627776, AVal.row 64 ((w ++ [2]).length) = .row 64 (w.length + (List.map intT [2]).length), ([(64, .row 1 false (List.map intT (w ++ [2])))] : List (Nat × Ob)) = [(64, .row 1 false (List.map intT w ++ List.map intT [2]))]]) (by kernel_rfl) ?_ ?_
        · -- region 10
          refine ⟨?_, ?_, ?_, (by simp), (row_append rfl), trivial⟩
          all_goals (first | omega | with_reducible exact fun h => h | (intro hg hq; rw [hg, hq]; rfl) | (intro hq; rw [hq]; done) | (intro hq; rw [hq]; rfl) | ((try intro hg); (try simp [-List.getD_eq_getElem?_getD] at hg); (try simp only [List.length_map]); first | done | omega | rfl | (simp; done) | (simp; omega) | (simp [hg]; done) | (intro hq; simp [hg, hq]; done) | (intro hq; simp [hg, hq]; omega)))
        refine inBlk_normal ?_
        refine andThen_normal ?_
        refine Sim.reg (orcs := [(0, ⟨some (.t (.sc (.int .i64 ((i : Int) + 1)))), none, none, none⟩)]) (keys := [5, 6, 10, 11]) (τ := [(32, 32), (64, 64)]) (nx := 193)
          (sl := [(5, .row 64 ((w ++ [2]).length)), (6, .ptr 32 0), (10, .t (.sc (.int .i64 n))), (11, .t (.sc (.int .i64 ((i : Int) + 1))))]) (l := [(32, .box [.t (.lst 1 (List.map intT raw)), .t (.sc (.int .i64 (rollU raw (rollU raw o32c1))))]), (64, .row 1 false (List.map intT (w ++ [2])))])
          (C := [AVal.t (.sc (.int .i64 ((i : Int) + 1))) = .t (.sc (.int .i64 (IntKind.i64.wrap ((i : Int) + 1))))]) (by kernel_rfl) ?_ ?_
        · -- region 12
          refine ⟨(nw ?_), trivial⟩
          all_goals (first | omega | with_reducible exact fun h => h | (intro hg hq; rw [hg, hq]; rfl) | (intro hq; rw [hq]; done) | (intro hq; rw [hq]; rfl) | ((try intro hg); (try simp [-List.getD_eq_getElem?_getD] at hg); (try simp only [List.length_map]); first | done | omega | rfl | (simp; done) | (simp; omega) | (simp [hg]; done) | (intro hq; simp [hg, hq]; done) | (intro hq; simp [hg, hq]; omega)))
        refine andThen_normal ?_
        refine LoopSim.weaken (Le.ren (τ := [(32, 32), (64, 64)]) (keys := [5, 6, 10, 11]) (nx := 65) (sl := [(5, .row 64 ((w ++ [2]).length)), (6, .ptr 32 0), (10, .t (.sc (.int .i64 n))), (11, .t (.sc (.int .i64 (((i + 1) : Nat) : Int))))]) (l := [(32, .box [.t (.lst 1 (List.map intT raw)), .t (.sc (.int .i64 (rollU raw (rollU raw o32c1))))]), (64, .row 1 false (List.map intT (w ++ [2])))]) (by kernel_rfl)) ?_
        refine ih4 ((i + 1), (rollU raw (rollU raw o32c1)), (w ++ [2])) ?_ ?_
        · -- back 4.1, invariant
          have fa := fitA_at (v := rollV raw o32c1 6) I6.2 I6.1 (by omega)
          refine ⟨by omega, by omega, by omega, by (simp only [List.length_append, List.length_cons, List.length_nil]; omega), ?_, ?_⟩
          · exact U3.app (by rw [I6.2]; exact U3.app I4.2.2.2.2.1 (U3.reps _)) (U3.one (by decide))
          · rw [I4.2.2.2.2.2, show n.toNat - i = (n.toNat - (i + 1)) + 1 by omega, fitL, fa]
            first | rw [if_pos h9] | rw [if_neg h9]
        · -- back 4.1, measure
          show (_:Nat) < _; (first | omega | with_reducible exact fun h => h | (intro hq; rw [hq]; done) | (intro hq; rw [hq]; rfl) | (simp only [List.length_map]; done) | (simp only [List.length_map]; omega) | (simp; omega) | (simp; done))
      · (try simp only [beq_iff_eq, beq_eq_false_iff_ne, ne_eq] at h9)
        refine Sim.reg (orcs := [(2, ⟨some (.row 64 ((w ++ [0]).length)), some ([(64, .row 1 false (List.map intT (w ++ [0])))]), none, none⟩)]) (keys := [5, 6, 10, 11]) (τ := [(32, 32), (64, 64)]) (nx := 177)
          (sl := [(5, .row 64 ((w ++ [0]).length)), (6, .ptr 32 0), (10, .t (.sc (.int .i64 n))), (11, .t (.sc (.int .i64 (i : Int))))]) (l := [(32, .box [.t (.lst 1 (List.map intT raw)), .t (.sc (.int .i64 (rollU raw (rollU raw o32c1))))]), (64, .row 1 false (List.map intT (w ++ [0])))])
          (C := [1 = (List.map intT [0]).length, (w.length : Nat) = (List.map intT w).length, (w.length : Nat) + (List.map intT [0]).length ≤ 1099511627776, AVal.row 64 ((w ++ [0]).length) = .row 64 (w.length + (List.map intT [0]).length), ([(64, .row 1 false (List.map intT (w ++ [0])))] : List (Nat × Ob)) = [(64, .row 1 false (List.map intT w ++ List.map intT [0]))]]) (by kernel_rfl) ?_ ?_
        · -- region 11
          refine ⟨?_, ?_, ?_, (by simp), (row_append rfl), trivial⟩
          all_goals (first | omega | with_reducible exact fun h => h | (intro hg hq; rw [hg, hq]; rfl) | (intro hq; rw [hq]; done) | (intro hq; rw [hq]; rfl) | ((try intro hg); (try simp [-List.getD_eq_getElem?_getD] at hg); (try simp only [List.length_map]); first | done | omega | rfl | (simp; done) | (simp; omega) | (simp [hg]; done) | (intro hq; simp [hg, hq]; done) | (intro hq; simp [hg, hq]; omega)))
        refine inBlk_normal ?_
        refine andThen_normal ?_
        refine Sim.reg (orcs := [(0, ⟨some (.t (.sc (.int .i64 ((i : Int) + 1)))), none, none, none⟩)]) (keys := [5, 6, 10, 11]) (τ := [(32, 32), (64, 64)]) (nx := 193)
          (sl := [(5, .row 64 ((w ++ [0]).length)), (6, .ptr 32 0), (10, .t (.sc (.int .i64 n))), (11, .t (.sc (.int .i64 ((i : Int) + 1))))]) (l := [(32, .box [.t (.lst 1 (List.map intT raw)), .t (.sc (.int .i64 (rollU raw (rollU raw o32c1))))]), (64, .row 1 false (List.map intT (w ++ [0])))])
          (C := [AVal.t (.sc (.int .i64 ((i : Int) + 1))) = .t (.sc (.int .i64 (IntKind.i64.wrap ((i : Int) + 1))))]) (by kernel_rfl) ?_ ?_
        · -- region 12
          refine ⟨(nw ?_), trivial⟩
          all_goals (first | omega | with_reducible exact fun h => h | (intro hg hq; rw [hg, hq]; rfl) | (intro hq; rw [hq]; done) | (intro hq; rw [hq]; rfl) | ((try intro hg); (try simp [-List.getD_eq_getElem?_getD] at hg); (try simp only [List.length_map]); first | done | omega | rfl | (simp; done) | (simp; omega) | (simp [hg]; done) | (intro hq; simp [hg, hq]; done) | (intro hq; simp [hg, hq]; omega)))
        refine andThen_normal ?_
        refine LoopSim.weaken (Le.ren (τ := [(32, 32), (64, 64)]) (keys := [5, 6, 10, 11]) (nx := 65) (sl := [(5, .row 64 ((w ++ [0]).length)), (6, .ptr 32 0), (10, .t (.sc (.int .i64 n))), (11, .t (.sc (.int .i64 (((i + 1) : Nat) : Int))))]) (l := [(32, .box [.t (.lst 1 (List.map intT raw)), .t (.sc (.int .i64 (rollU raw (rollU raw o32c1))))]), (64, .row 1 false (List.map intT (w ++ [0])))]) (by kernel_rfl)) ?_
        refine ih4 ((i + 1), (rollU raw (rollU raw o32c1)), (w ++ [0])) ?_ ?_
        · -- back 4.2, invariant
          have fa := fitA_at (v := rollV raw o32c1 6) I6.2 I6.1 (by omega)
          refine ⟨by omega, by omega, by omega, by (simp only [List.length_append, List.length_cons, List.length_nil]; omega), ?_, ?_⟩
          · exact U3.app (by rw [I6.2]; exact U3.app I4.2.2.2.2.1 (U3.reps _)) (U3.one (by decide))
          · rw [I4.2.2.2.2.2, show n.toNat - i = (n.toNat - (i + 1)) + 1 by omega, fitL, fa]
            first | rw [if_pos h9] | rw [if_neg h9]
        · -- back 4.2, measure
          show (_:Nat) < _; (first | omega | with_reducible exact fun h => h | (intro hq; rw [hq]; done) | (intro hq; rw [hq]; rfl) | (simp only [List.length_map]; done) | (simp only [List.length_map]; omega) | (simp; omega) | (simp; done))
  · (try simp only [decide_eq_true_eq, decide_eq_false_iff_not, Int.not_lt, Int.not_le] at h4)
    refine Sim.exit ?_
    refine andThen_exit ?_
    refine andThen_exit ?_
    refine inBlk_same ?_
    refine andThen_normal ?_
    refine Sim.seq ?_
    refine Sim.seq ?_
    refine Sim.reg (orcs := [(1, ⟨none, none, none, some (⟨2, [32], .t (.sc (.int .i64 (rollV raw o32c1 6))), [(32, .box [.t (.lst 1 (List.map intT raw)), .t (.sc (.int .i64 (rollU raw o32c1)))])]⟩)⟩), (2, ⟨some (.t (.sc (.int .i64 ((rollV raw o32c1 6) - 3)))), none, none, none⟩), (3, ⟨some (.t (.sc (.int .i64 (max 0 ((rollV raw o32c1 6) - 3))))), none, none, none⟩)]) (keys := [5, 36, 37]) (τ := [(64, 64)]) (nx := 113)
      (sl := [(5, .row 64 u.length), (36, .t (.sc (.int .i64 (max 0 ((rollV raw o32c1 6) - 3))))), (37, .t (.sc (.int .i64 0)))]) (l := [(64, .row 1 false (List.map intT u))])
      (C := [callable Try.prog 87 = true, FC Try.prog 87 [.ptr 32 0, .t (.sc (.int .i64 6))] (only (only (app emp [(32, .box [.t (.lst 1 (List.map intT raw)), .t (.sc (.int .i64 o32c1))]), (64, .row 1 false (List.map intT u))]) [32, 32]) [32]) (.t (.sc (.int .i64 (rollV raw o32c1 6)))) (app (only (only (app emp [(32, .box [.t (.lst 1 (List.map intT raw)), .t (.sc (.int .i64 o32c1))]), (64, .row 1 false (List.map intT u))]) [32, 32]) [32]) [(32, .box [.t (.lst 1 (List.map intT raw)), .t (.sc (.int .i64 (rollU raw o32c1)))])]), AVal.t (.sc (.int .i64 ((rollV raw o32c1 6) - 3))) = .t (.sc (.int .i64 (IntKind.i64.wrap ((rollV raw o32c1 6) - 3)))), AVal.t (.sc (.int .i64 (max 0 ((rollV raw o32c1 6) - 3)))) = .t (.sc (.int .i64 (if ((rollV raw o32c1 6) - 3) > 0 then ((rollV raw o32c1 6) - 3) else 0)))]) (by kernel_rfl) ?_ ?_
    · -- region 13
      refine ⟨(by kernel_rfl), (FC.at (FC.ren (fc_roll raw o32c1 6 (by omega) (by omega) (by omega)) [(0, 32)] [(0, 32)] (l0' := [(32, .box [.t (.lst 1 (List.map intT raw)), .t (.sc (.int .i64 o32c1))])]) (args' := [.ptr 32 0, .t (.sc (.int .i64 6))]) (res' := .t (.sc (.int .i64 (rollV raw o32c1 6)))) (l1' := [(32, .box [.t (.lst 1 (List.map intT raw)), .t (.sc (.int .i64 (rollU raw o32c1)))])]) (by kernel_rfl) (by kernel_rfl) (by kernel_rfl) (by kernel_rfl) (by kernel_rfl) (by kernel_rfl)) (fun i => by by_cases e0 : i = 32; (subst e0; rfl); by_cases e1 : i = 64; (subst e1; rfl); simp only [only, app, upd, emp, hasId, cond_false, beq_ne e0, beq_ne (Ne.symm e0), beq_ne e1, beq_ne (Ne.symm e1)]) (fun i => by by_cases e0 : i = 32; (subst e0; rfl); by_cases e1 : i = 64; (subst e1; rfl); simp only [only, app, upd, emp, hasId, cond_false, beq_ne e0, beq_ne (Ne.symm e0), beq_ne e1, beq_ne (Ne.symm e1)])), (nw ?_), max_if, trivial⟩
      all_goals (first | omega | with_reducible exact fun h => h | (intro hg hq; rw [hg, hq]; rfl) | (intro hq; rw [hq]; done) | (intro hq; rw [hq]; rfl) | ((try intro hg); (try simp [-List.getD_eq_getElem?_getD] at hg); (try simp only [List.length_map]); first | done | omega | rfl | (simp; done) | (simp; omega) | (simp [hg]; done) | (intro hq; simp [hg, hq]; done) | (intro hq; simp [hg, hq]; omega)))
    refine andThen_normal ?_
    refine Sim.block ?_
    refine Sim.weaken (Le.ren (τ := [(64, 64)]) (keys := [5, 36, 37]) (nx := 113) (sl := [(5, .row 64 u.length), (36, .t (.sc (.int .i64 (max 0 ((rollV raw o32c1 6) - 3))))), (37, .t (.sc (.int .i64 ((0 : Nat) : Int))))]) (l := [(64, .row 1 false (List.map intT u))]) (by kernel_rfl)) ?_
    refine Sim.loop ?_
    refine loop_ind (α := Nat × (List Int)) (fun (j, w) => ⟨[(5, .row 64 w.length), (36, .t (.sc (.int .i64 (max 0 ((rollV raw o32c1 6) - 3))))), (37, .t (.sc (.int .i64 (j : Int))))], app emp [(64, .row 1 false (List.map intT w))], 113⟩) (fun (j, w) => (j : Int) ≤ (max 0 ((rollV raw o32c1 6) - 3)) ∧ w = u ++ List.replicate j 1) (fun (j, w) => ((max 0 ((rollV raw o32c1 6) - 3))).toNat - j) ?_ (0, u) ?_
    rotate_left
    · -- loop 14, start
      exact ⟨by omega, by simp⟩
    rintro ⟨j, w⟩ I14 ih14
    show LoopSim _ _ _ _ ⟨[(5, .row 64 w.length), (36, .t (.sc (.int .i64 (max 0 ((rollV raw o32c1 6) - 3))))), (37, .t (.sc (.int .i64 (j : Int))))], app emp [(64, .row 1 false (List.map intT w))], 113⟩ _
    replace I14 : (j : Int) ≤ (max 0 ((rollV raw o32c1 6) - 3)) ∧ w = u ++ List.replicate j 1 := I14
    have wl : w.length = u.length + j := by rw [I14.2]; simp
    refine LoopSim.step ?_
    refine Sim.seq ?_
    refine Sim.reg (orcs := []) (keys := [5, 36, 37, 38]) (τ := [(64, 64)]) (nx := 121)
      (sl := [(5, .row 64 w.length), (36, .t (.sc (.int .i64 (max 0 ((rollV raw o32c1 6) - 3))))), (37, .t (.sc (.int .i64 (j : Int)))), (38, .t (.sc (.bool (decide ((j : Int) < (max 0 ((rollV raw o32c1 6) - 3)))))))]) (l := [(64, .row 1 false (List.map intT w))])
      (C := []) (by kernel_rfl) ?_ ?_
    · -- region 14
      trivial
    refine andThen_normal ?_
    refine Sim.seq ?_
    refine Sim.cond (b := decide ((j : Int) < (max 0 ((rollV raw o32c1 6) - 3)))) (by kernel_rfl) (fun h14 => ?_) (fun h14 => ?_)
    · (try simp only [decide_eq_true_eq, decide_eq_false_iff_not, Int.not_lt, Int.not_le] at h14)
      refine Sim.skip ?_
      refine andThen_normal ?_
      refine Sim.seq ?_
      refine Sim.block ?_
      refine Sim.reg (orcs := [(2, ⟨some (.row 64 ((w ++ [1]).length)), some ([(64, .row 1 false (List.map intT (w ++ [1])))]), none, none⟩)]) (keys := [5, 36, 37]) (τ := [(64, 64)]) (nx := 153)
        (sl := [(5, .row 64 ((w ++ [1]).length)), (36, .t (.sc (.int .i64 (max 0 ((rollV raw o32c1 6) - 3))))), (37, .t (.sc (.int .i64 (j : Int))))]) (l := [(64, .row 1 false (List.map intT (w ++ [1])))])
        (C := [1 = (List.map intT [1]).length, (w.length : Nat) = (List.map intT w).length, (w.length : Nat) + (List.map intT [1]).length ≤ 1099511627776, AVal.row 64 ((w ++ [1]).length) = .row 64 (w.length + (List.map intT [1]).length), ([(64, .row 1 false (List.map intT (w ++ [1])))] : List (Nat × Ob)) = [(64, .row 1 false (List.map intT w ++ List.map intT [1]))]]) (by kernel_rfl) ?_ ?_
      · -- region 15
        refine ⟨?_, ?_, ?_, (by simp), (row_append rfl), trivial⟩
        all_goals (first | omega | with_reducible exact fun h => h | (intro hg hq; rw [hg, hq]; rfl) | (intro hq; rw [hq]; done) | (intro hq; rw [hq]; rfl) | ((try intro hg); (try simp [-List.getD_eq_getElem?_getD] at hg); (try simp only [List.length_map]); first | done | omega | rfl | (simp; done) | (simp; omega) | (simp [hg]; done) | (intro hq; simp [hg, hq]; done) | (intro hq; simp [hg, hq]; omega)))
      refine inBlk_normal ?_
      refine andThen_normal ?_
      refine Sim.reg (orcs := [(0, ⟨some (.t (.sc (.int .i64 ((j : Int) + 1)))), none, none, none⟩)]) (keys := [5, 36, 37]) (τ := [(64, 64)]) (nx := 169)
        (sl := [(5, .row 64 ((w ++ [1]).length)), (36, .t (.sc (.int .i64 (max 0 ((rollV raw o32c1 6) - 3))))), (37, .t (.sc (.int .i64 ((j : Int) + 1))))]) (l := [(64, .row 1 false (List.map intT (w ++ [1])))])
        (C := [AVal.t (.sc (.int .i64 ((j : Int) + 1))) = .t (.sc (.int .i64 (IntKind.i64.wrap ((j : Int) + 1))))]) (by kernel_rfl) ?_ ?_
      · -- region 16
        refine ⟨(nw ?_), trivial⟩
        all_goals (first | omega | with_reducible exact fun h => h | (intro hg hq; rw [hg, hq]; rfl) | (intro hq; rw [hq]; done) | (intro hq; rw [hq]; rfl) | ((try intro hg); (try simp [-List.getD_eq_getElem?_getD] at hg); (try simp only [List.length_map]); first | done | omega | rfl | (simp; done) | (simp; omega) | (simp [hg]; done) | (intro hq; simp [hg, hq]; done) | (intro hq; simp [hg, hq]; omega)))
      refine andThen_normal ?_
      refine LoopSim.weaken (Le.ren (τ := [(64, 64)]) (keys := [5, 36, 37]) (nx := 113) (sl := [(5, .row 64 ((w ++ [1]).length)), (36, .t (.sc (.int .i64 (max 0 ((rollV raw o32c1 6) - 3))))), (37, .t (.sc (.int .i64 (((j + 1) : Nat) : Int))))]) (l := [(64, .row 1 false (List.map intT (w ++ [1])))]) (by kernel_rfl)) ?_
      refine ih14 ((j + 1), (w ++ [1])) ?_ ?_
      · -- back 14.1, invariant
        exact ⟨by omega, by rw [I14.2, List.append_assoc, ← List.replicate_succ']⟩
      · -- back 14.1, measure
        show (_:Nat) < _; (first | omega | with_reducible exact fun h => h | (intro hq; rw [hq]; done) | (intro hq; rw [hq]; rfl) | (simp only [List.length_map]; done) | (simp only [List.length_map]; omega) | (simp; omega) | (simp; done))
    · (try simp only [decide_eq_true_eq, decide_eq_false_iff_not, Int.not_lt, Int.not_le] at h14)
      refine Sim.exit ?_
      refine andThen_exit ?_
      refine andThen_exit ?_
      refine inBlk_same ?_
      refine andThen_normal ?_
      refine Sim.seq ?_
      have hw : ∀ x ∈ w, 0 ≤ x ∧ x ≤ 2 := by rw [I14.2]; exact U3.app I4.2.2.2.2.1 (U3.reps _)
      have fe := I4.2.2.2.2.2
      rw [show n.toNat - i = 0 by omega, fitL] at fe
      have fa := fitA_at (v := rollV raw o32c1 6) I14.2 I14.1 (by omega)
      have fu : fitU raw n.toNat = w := by unfold fitU; rw [fe]; exact fa
      refine Sim.reg (orcs := [(1, ⟨none, none, none, some (⟨1, [], .t (.lst 2 (List.map stepT (stepsL w 0 []))), []⟩)⟩)]) (keys := [4]) (τ := []) (nx := 145)
        (sl := [(4, .t (.lst 2 (List.map stepT (stepsL w 0 []))))]) (l := [])
        (C := [callable Try.prog 88 = true, (w.length : Nat) = (List.map intT w).length, FC Try.prog 88 [.t (.lst 1 (List.map intT w))] emp (.t (.lst 2 (List.map stepT (stepsL w 0 [])))) (app emp [])]) (by kernel_rfl) ?_ ?_
      · -- region 17
        refine ⟨(by kernel_rfl), ?_, (fc_steps w (by assumption) (by omega)), trivial⟩
        all_goals (first | omega | with_reducible exact fun h => h | (intro hg hq; rw [hg, hq]; rfl) | (intro hq; rw [hq]; done) | (intro hq; rw [hq]; rfl) | ((try intro hg); (try simp [-List.getD_eq_getElem?_getD] at hg); (try simp only [List.length_map]); first | done | omega | rfl | (simp; done) | (simp; omega) | (simp [hg]; done) | (intro hq; simp [hg, hq]; done) | (intro hq; simp [hg, hq]; omega)))
      refine andThen_normal ?_
      refine Sim.ret ?_
      refine Fin.mk2 (.inl rfl) (τ := []) (keys := [4]) (nx := 145) (sl := [(4, .t (.lst 2 (List.map stepT (stepsL w 0 []))))]) (l := []) (res' := .t (.lst 2 (List.map stepT (stepsL w 0 [])))) (by kernel_rfl) ?_ (by kernel_rfl) ?_
      · -- end 1, objects
        first | done | rfl
      · -- end 1, result
        have e1 : ((stepsL (fitU raw n.toNat) 0 [])) = (stepsL w 0 []) := by
          rw [fu]
        show AVal.t (.lst 2 (List.map stepT (stepsL w 0 []))) = .t (.lst 2 (List.map stepT (stepsL (fitU raw n.toNat) 0 [])))
        rw [e1]
        try rfl
end Go.Ch
