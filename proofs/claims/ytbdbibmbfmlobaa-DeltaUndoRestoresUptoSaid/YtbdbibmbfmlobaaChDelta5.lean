import Derived.Test.YtbdbibmbfmlobaaChDelta4
import Derived.Test.YtbdbibmbfmlobaaDeltaUndo
set_option linter.unusedVariables false
set_option linter.unusedSimpArgs false
set_option maxRecDepth 100000
set_option maxHeartbeats 4000000
open Go Go.Proofs Go.Ab
namespace Go.Ch
theorem fc_dUndo (f : List Elem) (l : List DStep) (hp : partE f 0 = 0) (hv : DValid l) (hd : DN 100000000000 l) (hf : EOk f) (hlen : oldD l = f.length) : FC Try.prog 54 [.t (.lst 3 (List.map elemT f)), .t (.lst 4 (List.map dstepT l))] (app emp []) (.tup [.t (.lst 4 (List.map dstepT (undoD f l))), .t (.sc (.int .i64 0))]) (app emp []) := by
  refine FC.of_sim (fn := Try.f54) (nx := 0) (by kernel_rfl) rfl (by kernel_rfl) rfl ?_
  show Sim _ _ _ _ ⟨[(0, .t (.lst 3 (List.map elemT f))), (1, .t (.lst 4 (List.map dstepT l)))], app emp [], 0⟩ _
  refine Sim.len (t := 0) (k := 3) rfl (fun hl0 => ?_)
  rw [List.length_map] at hl0
  refine Sim.len (t := 1) (k := 4) rfl (fun hl1 => ?_)
  rw [List.length_map] at hl1
  have hd4 := hd.mono (n := 400000000000) (by decide)
  obtain ⟨hk, o1, n2, hu, hul, dv, _⟩ := undo_final hv hd hf hlen
  have hst0 := DI.start hu hul
  have hcd := checkD_iff.2 dv
  refine Sim.seq ?_
  refine Sim.reg (orcs := []) (keys := [0, 1]) (τ := []) (nx := 16)
    (sl := [(0, .t (.lst 3 (List.map elemT f))), (1, .t (.lst 4 (List.map dstepT l)))]) (l := [])
    (C := []) (by kernel_rfl) ?_ ?_
  · -- region 0
    trivial
  refine andThen_normal ?_
  refine Sim.seq ?_
  refine Sim.seq ?_
  refine Sim.reg (orcs := [(2, ⟨none, none, none, some (⟨0, [], .t (.sc (.int .i64 0)), []⟩)⟩)]) (keys := [0, 1, 6]) (τ := []) (nx := 48)
    (sl := [(0, .t (.lst 3 (List.map elemT f))), (1, .t (.lst 4 (List.map dstepT l))), (6, .t (.sc (.int .i64 0)))]) (l := [])
    (C := [callable Try.prog 107 = true, FC Try.prog 107 [.t (.lst 3 (List.map elemT f)), .t (.lst 4 (List.map dstepT l))] emp (.t (.sc (.int .i64 0))) emp]) (by kernel_rfl) ?_ ?_
  · -- region 1
    exact ⟨(by kernel_rfl), (fc_dFits f l (by assumption) (by assumption) (by assumption) (by omega)), trivial⟩
  refine andThen_normal ?_
  refine Sim.seq ?_
  refine Sim.reg (orcs := []) (keys := [0, 1, 6, 16]) (τ := []) (nx := 64)
    (sl := [(0, .t (.lst 3 (List.map elemT f))), (1, .t (.lst 4 (List.map dstepT l))), (6, .t (.sc (.int .i64 0))), (16, .t (.sc (.bool false)))]) (l := [])
    (C := []) (by kernel_rfl) ?_ ?_
  · -- region 2
    trivial
  refine andThen_normal ?_
  refine Sim.cond (b := false) (by kernel_rfl) (fun h2 => ?_) (fun h2 => ?_)
  · cases h2
  · skip
    refine Sim.skip ?_
    refine andThen_normal ?_
    refine Sim.seq ?_
    refine Sim.reg (orcs := []) (keys := [0, 1, 7]) (τ := [(64, 64)]) (nx := 72)
      (sl := [(0, .t (.lst 3 (List.map elemT f))), (1, .t (.lst 4 (List.map dstepT l))), (7, .ptr 64 0)]) (l := [(64, .box [.t (.sc (.slice none 0 0)), .t (.sc (.slice none 0 0)), .t (.sc (.int .i64 0))])])
      (C := []) (by kernel_rfl) ?_ ?_
    · -- region 4
      trivial
    refine andThen_normal ?_
    refine Sim.seq ?_
    refine Sim.seq ?_
    refine Sim.weaken (Le.nilBox (b := 64) (i := 0) (k := 4) (id := 72) rfl rfl rfl rfl) ?_
    refine Sim.weaken (Le.nilBox (b := 64) (i := 1) (k := 3) (id := 73) rfl rfl rfl rfl) ?_
    refine Sim.weaken (Le.ren (τ := [(64, 64), (72, 72), (73, 73)]) (keys := [0, 1, 7]) (nx := 74) (sl := [(0, .t (.lst 3 (List.map elemT f))), (1, .t (.lst 4 (List.map dstepT l))), (7, .ptr 64 0)]) (l := [(64, .box [.row 72 0, .row 73 0, .t (.sc (.int .i64 0))]), (72, .row 4 false (List.map dstepT [])), (73, .row 3 false (List.map elemT []))]) (by kernel_rfl)) ?_
    refine Sim.reg (orcs := [(1, ⟨some (.t (.sc (.int .i64 (l.length : Int)))), none, none, none⟩)]) (keys := [0, 7, 18, 19, 20]) (τ := [(64, 64), (72, 72), (73, 73)]) (nx := 98)
      (sl := [(0, .t (.lst 3 (List.map elemT f))), (7, .ptr 64 0), (18, .t (.lst 4 (List.map dstepT l))), (19, .t (.sc (.int .i64 (l.length : Int)))), (20, .t (.sc (.int .i64 0)))]) (l := [(64, .box [.row 72 0, .row 73 0, .t (.sc (.int .i64 0))]), (72, .row 4 false (List.map dstepT [])), (73, .row 3 false (List.map elemT []))])
      (C := [Weak (.t (.sc (.int .i64 ((List.map dstepT l).length : Int)))) (.t (.sc (.int .i64 (l.length : Int))))]) (by kernel_rfl) ?_ ?_
    · -- region 5
      exact ⟨(Weak.of_eq len_map), trivial⟩
    refine andThen_normal ?_
    refine Sim.block ?_
    refine Sim.weaken (Le.ren (τ := [(64, 64), (72, 72), (73, 73)]) (keys := [0, 7, 18, 19, 20]) (nx := 98) (sl := [(0, .t (.lst 3 (List.map elemT f))), (7, .ptr 64 0), (18, .t (.lst 4 (List.map dstepT l))), (19, .t (.sc (.int .i64 (l.length : Int)))), (20, .t (.sc (.int .i64 ((0 : Nat) : Int))))]) (l := [(64, .box [.row 72 0, .row 73 0, .t (.sc (.int .i64 0))]), (72, .row 4 false (List.map dstepT [])), (73, .row 3 false (List.map elemT []))]) (by kernel_rfl)) ?_
    refine Sim.loop ?_
    refine loop_ind (α := (List Elem) × Nat × Int × (List DStep) × (List Elem)) (fun (r, i, c, o, a) => ⟨[(0, .t (.lst 3 (List.map elemT r))), (7, .ptr 64 0), (18, .t (.lst 4 (List.map dstepT l))), (19, .t (.sc (.int .i64 (l.length : Int)))), (20, .t (.sc (.int .i64 (i : Int))))], app emp [(64, .box [.row 72 o.length, .row 73 a.length, .t (.sc (.int .i64 c))]), (72, .row 4 false (List.map dstepT o)), (73, .row 3 false (List.map elemT a))], 98⟩) (fun (r, i, c, o, a) => i ≤ l.length ∧ EOk r ∧ oldD (l.drop i) = r.length ∧ DI ⟨o, a, c⟩ (undoU (exD (l.drop i)) r) (undoU (exD l) f).length (foldD ⟨[], [], 0⟩ (undoU (exD l) f))) (fun (r, i, c, o, a) => l.length - i) ?_ (f, 0, 0, [], []) ?_
    rotate_left
    · -- loop 6, start
      exact ⟨by omega, hf, by simpa using hlen, by simpa using hst0⟩
    rintro ⟨r, i, c, o, a⟩ I6 ih6
    show LoopSim _ _ _ _ ⟨[(0, .t (.lst 3 (List.map elemT r))), (7, .ptr 64 0), (18, .t (.lst 4 (List.map dstepT l))), (19, .t (.sc (.int .i64 (l.length : Int)))), (20, .t (.sc (.int .i64 (i : Int))))], app emp [(64, .box [.row 72 o.length, .row 73 a.length, .t (.sc (.int .i64 c))]), (72, .row 4 false (List.map dstepT o)), (73, .row 3 false (List.map elemT a))], 98⟩ _
    replace I6 : i ≤ l.length ∧ EOk r ∧ oldD (l.drop i) = r.length ∧ DI ⟨o, a, c⟩ (undoU (exD (l.drop i)) r) (undoU (exD l) f).length (foldD ⟨[], [], 0⟩ (undoU (exD l) f)) := I6
    have hb := I6.2.2.2.bd
    simp only at hb
    have hra := I6.2.1.an
    refine LoopSim.step ?_
    refine Sim.seq ?_
    refine Sim.reg (orcs := []) (keys := [0, 7, 18, 19, 20, 21]) (τ := [(64, 64), (72, 72), (73, 73)]) (nx := 106)
      (sl := [(0, .t (.lst 3 (List.map elemT r))), (7, .ptr 64 0), (18, .t (.lst 4 (List.map dstepT l))), (19, .t (.sc (.int .i64 (l.length : Int)))), (20, .t (.sc (.int .i64 (i : Int)))), (21, .t (.sc (.bool (decide ((i : Int) < (l.length : Int))))))]) (l := [(64, .box [.row 72 o.length, .row 73 a.length, .t (.sc (.int .i64 c))]), (72, .row 4 false (List.map dstepT o)), (73, .row 3 false (List.map elemT a))])
      (C := []) (by kernel_rfl) ?_ ?_
    · -- region 6
      trivial
    refine andThen_normal ?_
    refine Sim.seq ?_
    refine Sim.cond (b := decide ((i : Int) < (l.length : Int))) (by kernel_rfl) (fun h6 => ?_) (fun h6 => ?_)
    · (try simp only [decide_eq_true_eq, decide_eq_false_iff_not, Int.not_lt, Int.not_le] at h6)
      refine Sim.skip ?_
      refine andThen_normal ?_
      refine Sim.seq ?_
      refine Sim.block ?_
      refine Sim.seq ?_
      refine Sim.reg (orcs := [(0, ⟨none, none, some (dstepT (l.getD i default)), none⟩)]) (keys := [0, 7, 9, 18, 19, 20]) (τ := [(64, 64), (72, 72), (73, 73), (122, 122)]) (nx := 138)
        (sl := [(0, .t (.lst 3 (List.map elemT r))), (7, .ptr 64 0), (9, .ptr 122 0), (18, .t (.lst 4 (List.map dstepT l))), (19, .t (.sc (.int .i64 (l.length : Int)))), (20, .t (.sc (.int .i64 (i : Int))))]) (l := [(64, .box [.row 72 o.length, .row 73 a.length, .t (.sc (.int .i64 c))]), (72, .row 4 false (List.map dstepT o)), (73, .row 3 false (List.map elemT a)), (122, .box [.t (.sc (.int .i64 (((l.getD i default)).kind))), .t (.sc (.int .i64 (((l.getD i default)).n))), .t (.lst 2 (List.map attrT (((l.getD i default)).attrs))), .t (.lst 3 (List.map elemT (((l.getD i default)).elems)))])])
        (C := [(0:Int) ≤ (i : Int), (List.map dstepT l)[i]? = some (dstepT (l.getD i default))]) (by kernel_rfl) ?_ ?_
      · -- region 7
        refine ⟨?_, (elt_nat ?_), trivial⟩
        all_goals omega
      refine andThen_normal ?_
      refine Sim.seq ?_
      have hst := dlens_step (l := l) (i := i) (by omega) hv.1
      obtain ⟨hx, hx2, hx3⟩ := hd.at_ (k := i) (by omega)
      have hr := undo_at (d := l) (i := i) (by omega) r
      obtain ⟨s1, s2, s3, s4, s5, s6, s7, s8⟩ := hst
      have hsz := stepD_sz (step_iff.2 s3)
      refine Sim.reg (orcs := []) (keys := [0, 7, 9, 18, 19, 20, 25]) (τ := [(64, 64), (72, 72), (73, 73), (122, 122)]) (nx := 154)
        (sl := [(0, .t (.lst 3 (List.map elemT r))), (7, .ptr 64 0), (9, .ptr 122 0), (18, .t (.lst 4 (List.map dstepT l))), (19, .t (.sc (.int .i64 (l.length : Int)))), (20, .t (.sc (.int .i64 (i : Int)))), (25, .t (.sc (.int .i64 (((l.getD i default)).kind))))]) (l := [(64, .box [.row 72 o.length, .row 73 a.length, .t (.sc (.int .i64 c))]), (72, .row 4 false (List.map dstepT o)), (73, .row 3 false (List.map elemT a)), (122, .box [.t (.sc (.int .i64 (((l.getD i default)).kind))), .t (.sc (.int .i64 (((l.getD i default)).n))), .t (.lst 2 (List.map attrT (((l.getD i default)).attrs))), .t (.lst 3 (List.map elemT (((l.getD i default)).elems)))])])
        (C := []) (by kernel_rfl) ?_ ?_
      · -- region 8
        trivial
      refine andThen_normal ?_
      refine Sim.block ?_
      refine Sim.seq ?_
      refine Sim.reg (orcs := []) (keys := [0, 7, 9, 18, 19, 20, 25, 35]) (τ := [(64, 64), (72, 72), (73, 73), (122, 122)]) (nx := 170)
        (sl := [(0, .t (.lst 3 (List.map elemT r))), (7, .ptr 64 0), (9, .ptr 122 0), (18, .t (.lst 4 (List.map dstepT l))), (19, .t (.sc (.int .i64 (l.length : Int)))), (20, .t (.sc (.int .i64 (i : Int)))), (25, .t (.sc (.int .i64 (((l.getD i default)).kind)))), (35, .t (.sc (.bool ((((l.getD i default)).kind) == 0))))]) (l := [(64, .box [.row 72 o.length, .row 73 a.length, .t (.sc (.int .i64 c))]), (72, .row 4 false (List.map dstepT o)), (73, .row 3 false (List.map elemT a)), (122, .box [.t (.sc (.int .i64 (((l.getD i default)).kind))), .t (.sc (.int .i64 (((l.getD i default)).n))), .t (.lst 2 (List.map attrT (((l.getD i default)).attrs))), .t (.lst 3 (List.map elemT (((l.getD i default)).elems)))])])
        (C := []) (by kernel_rfl) ?_ ?_
      · -- region 11
        trivial
      refine andThen_normal ?_
      refine Sim.cond (b := ((((l.getD i default)).kind) == 0)) (by kernel_rfl) (fun h11 => ?_) (fun h11 => ?_)
      · (try simp only [beq_iff_eq, beq_eq_false_iff_ne, ne_eq] at h11)
        refine Sim.seq ?_
        refine Sim.seq ?_
        rw [if_neg (by omega)] at s1 s2
        rw [if_neg (by omega), if_neg (by omega)] at hr
        have hr0 := I6.2.2.2
        rw [hr] at hr0
        have hl8 : (r.take (l.getD i default).n.toNat).length = (l.getD i default).n.toNat := by rw [List.length_take]; omega
        refine Sim.reg (orcs := [(3, ⟨some (.t (.lst 3 (List.map elemT (r.take (Int.toNat (((l.getD i default)).n)))))), none, none, none⟩), (4, ⟨some (.t (.sc (.int .i64 ((r.take (Int.toNat (((l.getD i default)).n))).length : Int)))), none, none, none⟩)]) (keys := [0, 7, 9, 18, 19, 20, 40, 41, 42]) (τ := [(64, 64), (72, 72), (73, 73), (122, 122)]) (nx := 218)
          (sl := [(0, .t (.lst 3 (List.map elemT r))), (7, .ptr 64 0), (9, .ptr 122 0), (18, .t (.lst 4 (List.map dstepT l))), (19, .t (.sc (.int .i64 (l.length : Int)))), (20, .t (.sc (.int .i64 (i : Int)))), (40, .t (.lst 3 (List.map elemT (r.take (Int.toNat (((l.getD i default)).n)))))), (41, .t (.sc (.int .i64 ((r.take (Int.toNat (((l.getD i default)).n))).length : Int)))), (42, .t (.sc (.int .i64 0)))]) (l := [(64, .box [.row 72 o.length, .row 73 a.length, .t (.sc (.int .i64 c))]), (72, .row 4 false (List.map dstepT o)), (73, .row 3 false (List.map elemT a)), (122, .box [.t (.sc (.int .i64 (((l.getD i default)).kind))), .t (.sc (.int .i64 (((l.getD i default)).n))), .t (.lst 2 (List.map attrT (((l.getD i default)).attrs))), .t (.lst 3 (List.map elemT (((l.getD i default)).elems)))])])
          (C := [(0:Int) ≤ (((l.getD i default)).n), (((l.getD i default)).n) ≤ (((List.map elemT r).length : Nat) : Int), Weak (.t (.lst 3 ((List.map elemT r).take (Int.toNat (((l.getD i default)).n))))) (.t (.lst 3 (List.map elemT (r.take (Int.toNat (((l.getD i default)).n)))))), Weak (.t (.sc (.int .i64 ((List.map elemT (r.take (Int.toNat (((l.getD i default)).n)))).length : Int)))) (.t (.sc (.int .i64 ((r.take (Int.toNat (((l.getD i default)).n))).length : Int))))]) (by kernel_rfl) ?_ ?_
        · -- region 12
          refine ⟨?_, ?_, (Weak.of_eq sl_take), (Weak.of_eq len_map), trivial⟩
          all_goals (first | omega | with_reducible exact fun h => h | (intro hg hq; rw [hg, hq]; rfl) | (intro hq; rw [hq]; done) | (intro hq; rw [hq]; rfl) | ((try intro hg); (try simp [-List.getD_eq_getElem?_getD] at hg); (try simp only [List.length_map]); first | done | omega | rfl | (simp; done) | (simp; omega) | (simp [hg]; done) | (intro hq; simp [hg, hq]; done) | (intro hq; simp [hg, hq]; omega)))
        refine andThen_normal ?_
        refine Sim.block ?_
        refine Sim.weaken (Le.ren (τ := [(64, 64), (72, 72), (73, 73), (122, 122)]) (keys := [0, 7, 9, 18, 19, 20, 40, 41, 42]) (nx := 218) (sl := [(0, .t (.lst 3 (List.map elemT r))), (7, .ptr 64 0), (9, .ptr 122 0), (18, .t (.lst 4 (List.map dstepT l))), (19, .t (.sc (.int .i64 (l.length : Int)))), (20, .t (.sc (.int .i64 (i : Int)))), (40, .t (.lst 3 (List.map elemT (r.take (Int.toNat (((l.getD i default)).n)))))), (41, .t (.sc (.int .i64 ((r.take (Int.toNat (((l.getD i default)).n))).length : Int)))), (42, .t (.sc (.int .i64 ((0 : Nat) : Int))))]) (l := [(64, .box [.row 72 o.length, .row 73 a.length, .t (.sc (.int .i64 c))]), (72, .row 4 false (List.map dstepT o)), (73, .row 3 false (List.map elemT a)), (122, .box [.t (.sc (.int .i64 (((l.getD i default)).kind))), .t (.sc (.int .i64 (((l.getD i default)).n))), .t (.lst 2 (List.map attrT (((l.getD i default)).attrs))), .t (.lst 3 (List.map elemT (((l.getD i default)).elems)))])]) (by kernel_rfl)) ?_
        refine Sim.loop ?_
        refine loop_ind (α := Nat × Int × (List DStep) × (List Elem)) (fun (j, c, o, a) => ⟨[(0, .t (.lst 3 (List.map elemT r))), (7, .ptr 64 0), (9, .ptr 122 0), (18, .t (.lst 4 (List.map dstepT l))), (19, .t (.sc (.int .i64 (l.length : Int)))), (20, .t (.sc (.int .i64 (i : Int)))), (40, .t (.lst 3 (List.map elemT (r.take (Int.toNat (((l.getD i default)).n)))))), (41, .t (.sc (.int .i64 ((r.take (Int.toNat (((l.getD i default)).n))).length : Int)))), (42, .t (.sc (.int .i64 (j : Int))))], app emp [(64, .box [.row 72 o.length, .row 73 a.length, .t (.sc (.int .i64 c))]), (72, .row 4 false (List.map dstepT o)), (73, .row 3 false (List.map elemT a)), (122, .box [.t (.sc (.int .i64 (((l.getD i default)).kind))), .t (.sc (.int .i64 (((l.getD i default)).n))), .t (.lst 2 (List.map attrT (((l.getD i default)).attrs))), .t (.lst 3 (List.map elemT (((l.getD i default)).elems)))])], 218⟩) (fun (j, c, o, a) => j ≤ (r.take (l.getD i default).n.toNat).length ∧ DI ⟨o, a, c⟩ (((r.take (l.getD i default).n.toNat).drop j).map (fun x => DU.K (bk (l.getD i default).attrs x)) ++ undoU (exD (l.drop (i + 1))) (r.drop (l.getD i default).n.toNat)) (undoU (exD l) f).length (foldD ⟨[], [], 0⟩ (undoU (exD l) f))) (fun (j, c, o, a) => (r.take (l.getD i default).n.toNat).length - j) ?_ (0, c, o, a) ?_
        rotate_left
        · -- loop 13, start
          exact ⟨by omega, by simpa using hr0⟩
        rintro ⟨j, c, o, a⟩ I13 ih13
        show LoopSim _ _ _ _ ⟨[(0, .t (.lst 3 (List.map elemT r))), (7, .ptr 64 0), (9, .ptr 122 0), (18, .t (.lst 4 (List.map dstepT l))), (19, .t (.sc (.int .i64 (l.length : Int)))), (20, .t (.sc (.int .i64 (i : Int)))), (40, .t (.lst 3 (List.map elemT (r.take (Int.toNat (((l.getD i default)).n)))))), (41, .t (.sc (.int .i64 ((r.take (Int.toNat (((l.getD i default)).n))).length : Int)))), (42, .t (.sc (.int .i64 (j : Int))))], app emp [(64, .box [.row 72 o.length, .row 73 a.length, .t (.sc (.int .i64 c))]), (72, .row 4 false (List.map dstepT o)), (73, .row 3 false (List.map elemT a)), (122, .box [.t (.sc (.int .i64 (((l.getD i default)).kind))), .t (.sc (.int .i64 (((l.getD i default)).n))), .t (.lst 2 (List.map attrT (((l.getD i default)).attrs))), .t (.lst 3 (List.map elemT (((l.getD i default)).elems)))])], 218⟩ _
        replace I13 : j ≤ (r.take (l.getD i default).n.toNat).length ∧ DI ⟨o, a, c⟩ (((r.take (l.getD i default).n.toNat).drop j).map (fun x => DU.K (bk (l.getD i default).attrs x)) ++ undoU (exD (l.drop (i + 1))) (r.drop (l.getD i default).n.toNat)) (undoU (exD l) f).length (foldD ⟨[], [], 0⟩ (undoU (exD l) f)) := I13
        have hb2 := I13.2.bd
        have hf2 := I13.2.fl
        simp only at hb2
        refine LoopSim.step ?_
        refine Sim.seq ?_
        refine Sim.reg (orcs := []) (keys := [0, 7, 9, 18, 19, 20, 40, 41, 42, 43]) (τ := [(64, 64), (72, 72), (73, 73), (122, 122)]) (nx := 226)
          (sl := [(0, .t (.lst 3 (List.map elemT r))), (7, .ptr 64 0), (9, .ptr 122 0), (18, .t (.lst 4 (List.map dstepT l))), (19, .t (.sc (.int .i64 (l.length : Int)))), (20, .t (.sc (.int .i64 (i : Int)))), (40, .t (.lst 3 (List.map elemT (r.take (Int.toNat (((l.getD i default)).n)))))), (41, .t (.sc (.int .i64 ((r.take (Int.toNat (((l.getD i default)).n))).length : Int)))), (42, .t (.sc (.int .i64 (j : Int)))), (43, .t (.sc (.bool (decide ((j : Int) < ((r.take (Int.toNat (((l.getD i default)).n))).length : Int))))))]) (l := [(64, .box [.row 72 o.length, .row 73 a.length, .t (.sc (.int .i64 c))]), (72, .row 4 false (List.map dstepT o)), (73, .row 3 false (List.map elemT a)), (122, .box [.t (.sc (.int .i64 (((l.getD i default)).kind))), .t (.sc (.int .i64 (((l.getD i default)).n))), .t (.lst 2 (List.map attrT (((l.getD i default)).attrs))), .t (.lst 3 (List.map elemT (((l.getD i default)).elems)))])])
          (C := []) (by kernel_rfl) ?_ ?_
        · -- region 13
          trivial
        refine andThen_normal ?_
        refine Sim.seq ?_
        refine Sim.cond (b := decide ((j : Int) < ((r.take (Int.toNat (((l.getD i default)).n))).length : Int))) (by kernel_rfl) (fun h13 => ?_) (fun h13 => ?_)
        · (try simp only [decide_eq_true_eq, decide_eq_false_iff_not, Int.not_lt, Int.not_le] at h13)
          refine Sim.skip ?_
          refine andThen_normal ?_
          refine Sim.seq ?_
          refine Sim.block ?_
          refine Sim.seq ?_
          refine Sim.reg (orcs := [(0, ⟨none, none, some (elemT ((r.take (Int.toNat (((l.getD i default)).n))).getD j default)), none⟩)]) (keys := [0, 7, 9, 11, 18, 19, 20, 40, 41, 42]) (τ := [(64, 64), (72, 72), (73, 73), (122, 122), (242, 242)]) (nx := 258)
            (sl := [(0, .t (.lst 3 (List.map elemT r))), (7, .ptr 64 0), (9, .ptr 122 0), (11, .ptr 242 0), (18, .t (.lst 4 (List.map dstepT l))), (19, .t (.sc (.int .i64 (l.length : Int)))), (20, .t (.sc (.int .i64 (i : Int)))), (40, .t (.lst 3 (List.map elemT (r.take (Int.toNat (((l.getD i default)).n)))))), (41, .t (.sc (.int .i64 ((r.take (Int.toNat (((l.getD i default)).n))).length : Int)))), (42, .t (.sc (.int .i64 (j : Int))))]) (l := [(64, .box [.row 72 o.length, .row 73 a.length, .t (.sc (.int .i64 c))]), (72, .row 4 false (List.map dstepT o)), (73, .row 3 false (List.map elemT a)), (122, .box [.t (.sc (.int .i64 (((l.getD i default)).kind))), .t (.sc (.int .i64 (((l.getD i default)).n))), .t (.lst 2 (List.map attrT (((l.getD i default)).attrs))), .t (.lst 3 (List.map elemT (((l.getD i default)).elems)))]), (242, .box [.t (.sc (.int .i64 ((((r.take (Int.toNat (((l.getD i default)).n))).getD j default)).char))), .t (.sc (.int .i64 ((((r.take (Int.toNat (((l.getD i default)).n))).getD j default)).ref))), .t (.lst 2 (List.map attrT ((((r.take (Int.toNat (((l.getD i default)).n))).getD j default)).attrs)))])])
            (C := [(0:Int) ≤ (j : Int), (List.map elemT (r.take (Int.toNat (((l.getD i default)).n))))[j]? = some (elemT ((r.take (Int.toNat (((l.getD i default)).n))).getD j default))]) (by kernel_rfl) ?_ ?_
          · -- region 14
            refine ⟨?_, (elt_nat ?_), trivial⟩
            all_goals omega
          refine andThen_normal ?_
          obtain ⟨hu1, hD⟩ := I13.2.run (by omega)
          have hul2 := hu1.2
          unfold bk at hul2 hD
          have hx9 := (I6.2.1.take (l.getD i default).n.toNat) _ (getDE_mem (k := j) (by omega))
          have hf3 := hf2.1
          have hfm := fm_len' rawG ((r.take (l.getD i default).n.toNat).getD j default).attrs (l.getD i default).attrs
          refine Sim.regD (by kernel_rfl) (orcs := [(4, ⟨none, none, none, some (⟨1, [], .t (.lst 2 (List.map attrT (fm rawG ((((r.take (Int.toNat (((l.getD i default)).n))).getD j default)).attrs) (((l.getD i default)).attrs)))), []⟩)⟩), (7, ⟨none, none, none, some (⟨1, [], .t (.lst 2 (List.map attrT (fm chgG (fm rawG ((((r.take (Int.toNat (((l.getD i default)).n))).getD j default)).attrs) (((l.getD i default)).attrs)) ((((r.take (Int.toNat (((l.getD i default)).n))).getD j default)).attrs)))), []⟩)⟩), (8, ⟨none, none, none, some (⟨2, [64, 72, 73], .tup [], [(64, .box [.row 72 ((keepD (flushD ⟨o, a, c⟩) 1 (fm chgG (fm rawG ((((r.take (Int.toNat (((l.getD i default)).n))).getD j default)).attrs) (((l.getD i default)).attrs)) ((((r.take (Int.toNat (((l.getD i default)).n))).getD j default)).attrs))).length), .row 322 0, .t (.sc (.int .i64 0))]), (72, .row 4 false (List.map dstepT (keepD (flushD ⟨o, a, c⟩) 1 (fm chgG (fm rawG ((((r.take (Int.toNat (((l.getD i default)).n))).getD j default)).attrs) (((l.getD i default)).attrs)) ((((r.take (Int.toNat (((l.getD i default)).n))).getD j default)).attrs))))), (73, .row 3 true (List.map elemT a)), (322, .row 3 false (List.map elemT []))]⟩)⟩)]) (keys := [0, 7, 9, 18, 19, 20, 40, 41, 42]) (τ := [(64, 64), (72, 72), (122, 122), (322, 322)]) (nx := 330)
            (sl := [(0, .t (.lst 3 (List.map elemT r))), (7, .ptr 64 0), (9, .ptr 122 0), (18, .t (.lst 4 (List.map dstepT l))), (19, .t (.sc (.int .i64 (l.length : Int)))), (20, .t (.sc (.int .i64 (i : Int)))), (40, .t (.lst 3 (List.map elemT (r.take (Int.toNat (((l.getD i default)).n)))))), (41, .t (.sc (.int .i64 ((r.take (Int.toNat (((l.getD i default)).n))).length : Int)))), (42, .t (.sc (.int .i64 (j : Int))))]) (l := [(64, .box [.row 72 ((keepD (flushD ⟨o, a, c⟩) 1 (fm chgG (fm rawG ((((r.take (Int.toNat (((l.getD i default)).n))).getD j default)).attrs) (((l.getD i default)).attrs)) ((((r.take (Int.toNat (((l.getD i default)).n))).getD j default)).attrs))).length), .row 322 0, .t (.sc (.int .i64 0))]), (72, .row 4 false (List.map dstepT (keepD (flushD ⟨o, a, c⟩) 1 (fm chgG (fm rawG ((((r.take (Int.toNat (((l.getD i default)).n))).getD j default)).attrs) (((l.getD i default)).attrs)) ((((r.take (Int.toNat (((l.getD i default)).n))).getD j default)).attrs))))), (122, .box [.t (.sc (.int .i64 (((l.getD i default)).kind))), .t (.sc (.int .i64 (((l.getD i default)).n))), .t (.lst 2 (List.map attrT (((l.getD i default)).attrs))), .t (.lst 3 (List.map elemT (((l.getD i default)).elems)))]), (322, .row 3 false (List.map elemT []))])
            (C := [callable Try.prog 83 = true, FC Try.prog 83 [.t (.lst 2 (List.map attrT ((((r.take (Int.toNat (((l.getD i default)).n))).getD j default)).attrs))), .t (.lst 2 (List.map attrT (((l.getD i default)).attrs)))] emp (.t (.lst 2 (List.map attrT (fm rawG ((((r.take (Int.toNat (((l.getD i default)).n))).getD j default)).attrs) (((l.getD i default)).attrs))))) (app emp []), callable Try.prog 84 = true, FC Try.prog 84 [.t (.lst 2 (List.map attrT (fm rawG ((((r.take (Int.toNat (((l.getD i default)).n))).getD j default)).attrs) (((l.getD i default)).attrs)))), .t (.lst 2 (List.map attrT ((((r.take (Int.toNat (((l.getD i default)).n))).getD j default)).attrs)))] emp (.t (.lst 2 (List.map attrT (fm chgG (fm rawG ((((r.take (Int.toNat (((l.getD i default)).n))).getD j default)).attrs) (((l.getD i default)).attrs)) ((((r.take (Int.toNat (((l.getD i default)).n))).getD j default)).attrs))))) (app emp []), callable Try.prog 103 = true, FC Try.prog 103 [.ptr 64 0, .t (.sc (.int .i64 1)), .t (.lst 2 (List.map attrT (fm chgG (fm rawG ((((r.take (Int.toNat (((l.getD i default)).n))).getD j default)).attrs) (((l.getD i default)).attrs)) ((((r.take (Int.toNat (((l.getD i default)).n))).getD j default)).attrs))))] (only (only (app emp [(64, .box [.row 72 o.length, .row 73 a.length, .t (.sc (.int .i64 c))]), (72, .row 4 false (List.map dstepT o)), (73, .row 3 false (List.map elemT a)), (122, .box [.t (.sc (.int .i64 (((l.getD i default)).kind))), .t (.sc (.int .i64 (((l.getD i default)).n))), .t (.lst 2 (List.map attrT (((l.getD i default)).attrs))), .t (.lst 3 (List.map elemT (((l.getD i default)).elems)))]), (242, .box [.t (.sc (.int .i64 ((((r.take (Int.toNat (((l.getD i default)).n))).getD j default)).char))), .t (.sc (.int .i64 ((((r.take (Int.toNat (((l.getD i default)).n))).getD j default)).ref))), .t (.lst 2 (List.map attrT ((((r.take (Int.toNat (((l.getD i default)).n))).getD j default)).attrs)))])]) [64, 64, 72, 73]) [64, 72, 73]) (.tup []) (app (only (only (app emp [(64, .box [.row 72 o.length, .row 73 a.length, .t (.sc (.int .i64 c))]), (72, .row 4 false (List.map dstepT o)), (73, .row 3 false (List.map elemT a)), (122, .box [.t (.sc (.int .i64 (((l.getD i default)).kind))), .t (.sc (.int .i64 (((l.getD i default)).n))), .t (.lst 2 (List.map attrT (((l.getD i default)).attrs))), .t (.lst 3 (List.map elemT (((l.getD i default)).elems)))]), (242, .box [.t (.sc (.int .i64 ((((r.take (Int.toNat (((l.getD i default)).n))).getD j default)).char))), .t (.sc (.int .i64 ((((r.take (Int.toNat (((l.getD i default)).n))).getD j default)).ref))), .t (.lst 2 (List.map attrT ((((r.take (Int.toNat (((l.getD i default)).n))).getD j default)).attrs)))])]) [64, 64, 72, 73]) [64, 72, 73]) [(64, .box [.row 72 ((keepD (flushD ⟨o, a, c⟩) 1 (fm chgG (fm rawG ((((r.take (Int.toNat (((l.getD i default)).n))).getD j default)).attrs) (((l.getD i default)).attrs)) ((((r.take (Int.toNat (((l.getD i default)).n))).getD j default)).attrs))).length), .row 322 0, .t (.sc (.int .i64 0))]), (72, .row 4 false (List.map dstepT (keepD (flushD ⟨o, a, c⟩) 1 (fm chgG (fm rawG ((((r.take (Int.toNat (((l.getD i default)).n))).getD j default)).attrs) (((l.getD i default)).attrs)) ((((r.take (Int.toNat (((l.getD i default)).n))).getD j default)).attrs))))), (73, .row 3 true (List.map elemT a)), (322, .row 3 false (List.map elemT []))])]) (by kernel_rfl) ?_ ?_
          · -- region 15
            exact ⟨(by kernel_rfl), (fc_raw ((((r.take (Int.toNat (((l.getD i default)).n))).getD j default)).attrs) (((l.getD i default)).attrs) (by omega)), (by kernel_rfl), (fc_change (fm rawG ((((r.take (Int.toNat (((l.getD i default)).n))).getD j default)).attrs) (((l.getD i default)).attrs)) ((((r.take (Int.toNat (((l.getD i default)).n))).getD j default)).attrs) (by omega)), (by kernel_rfl), (FC.at (FC.ren (fc_dKeep o a c 1 (fm chgG (fm rawG ((((r.take (Int.toNat (((l.getD i default)).n))).getD j default)).attrs) (((l.getD i default)).attrs)) ((((r.take (Int.toNat (((l.getD i default)).n))).getD j default)).attrs)) (by omega) (by omega) (by omega) (by assumption)) [(0, 64), (1, 72), (2, 73)] [(0, 64), (1, 72), (2, 73), (3, 322)] (l0' := [(64, .box [.row 72 o.length, .row 73 a.length, .t (.sc (.int .i64 c))]), (72, .row 4 false (List.map dstepT o)), (73, .row 3 false (List.map elemT a))]) (args' := [.ptr 64 0, .t (.sc (.int .i64 1)), .t (.lst 2 (List.map attrT (fm chgG (fm rawG ((((r.take (Int.toNat (((l.getD i default)).n))).getD j default)).attrs) (((l.getD i default)).attrs)) ((((r.take (Int.toNat (((l.getD i default)).n))).getD j default)).attrs))))]) (res' := .tup []) (l1' := [(64, .box [.row 72 ((keepD (flushD ⟨o, a, c⟩) 1 (fm chgG (fm rawG ((((r.take (Int.toNat (((l.getD i default)).n))).getD j default)).attrs) (((l.getD i default)).attrs)) ((((r.take (Int.toNat (((l.getD i default)).n))).getD j default)).attrs))).length), .row 322 0, .t (.sc (.int .i64 0))]), (72, .row 4 false (List.map dstepT (keepD (flushD ⟨o, a, c⟩) 1 (fm chgG (fm rawG ((((r.take (Int.toNat (((l.getD i default)).n))).getD j default)).attrs) (((l.getD i default)).attrs)) ((((r.take (Int.toNat (((l.getD i default)).n))).getD j default)).attrs))))), (73, .row 3 true (List.map elemT a)), (322, .row 3 false (List.map elemT []))]) (by kernel_rfl) (by kernel_rfl) (by kernel_rfl) (by kernel_rfl) (by kernel_rfl) (by kernel_rfl)) (fun i => by by_cases e0 : i = 64; (subst e0; rfl); by_cases e1 : i = 72; (subst e1; rfl); by_cases e2 : i = 73; (subst e2; rfl); by_cases e3 : i = 122; (subst e3; rfl); by_cases e4 : i = 242; (subst e4; rfl); by_cases e5 : i = 322; (subst e5; rfl); simp only [only, app, upd, emp, hasId, cond_false, beq_ne e0, beq_ne (Ne.symm e0), beq_ne e1, beq_ne (Ne.symm e1), beq_ne e2, beq_ne (Ne.symm e2), beq_ne e3, beq_ne (Ne.symm e3), beq_ne e4, beq_ne (Ne.symm e4), beq_ne e5, beq_ne (Ne.symm e5)]) (fun i => by by_cases e0 : i = 64; (subst e0; rfl); by_cases e1 : i = 72; (subst e1; rfl); by_cases e2 : i = 73; (subst e2; rfl); by_cases e3 : i = 122; (subst e3; rfl); by_cases e4 : i = 242; (subst e4; rfl); by_cases e5 : i = 322; (subst e5; rfl); simp only [only, app, upd, emp, hasId, cond_false, beq_ne e0, beq_ne (Ne.symm e0), beq_ne e1, beq_ne (Ne.symm e1), beq_ne e2, beq_ne (Ne.symm e2), beq_ne e3, beq_ne (Ne.symm e3), beq_ne e4, beq_ne (Ne.symm e4), beq_ne e5, beq_ne (Ne.symm e5)])), trivial⟩
          refine inBlk_normal ?_
          refine andThen_normal ?_
          refine Sim.reg (orcs := [(0, ⟨some (.t (.sc (.int .i64 ((j : Int) + 1)))), none, none, none⟩)]) (keys := [0, 7, 9, 18, 19, 20, 40, 41, 42]) (τ := [(64, 64), (72, 72), (122, 122), (322, 322)]) (nx := 346)
            (sl := [(0, .t (.lst 3 (List.map elemT r))), (7, .ptr 64 0), (9, .ptr 122 0), (18, .t (.lst 4 (List.map dstepT l))), (19, .t (.sc (.int .i64 (l.length : Int)))), (20, .t (.sc (.int .i64 (i : Int)))), (40, .t (.lst 3 (List.map elemT (r.take (Int.toNat (((l.getD i default)).n)))))), (41, .t (.sc (.int .i64 ((r.take (Int.toNat (((l.getD i default)).n))).length : Int)))), (42, .t (.sc (.int .i64 ((j : Int) + 1))))]) (l := [(64, .box [.row 72 ((keepD (flushD ⟨o, a, c⟩) 1 (fm chgG (fm rawG ((((r.take (Int.toNat (((l.getD i default)).n))).getD j default)).attrs) (((l.getD i default)).attrs)) ((((r.take (Int.toNat (((l.getD i default)).n))).getD j default)).attrs))).length), .row 322 0, .t (.sc (.int .i64 0))]), (72, .row 4 false (List.map dstepT (keepD (flushD ⟨o, a, c⟩) 1 (fm chgG (fm rawG ((((r.take (Int.toNat (((l.getD i default)).n))).getD j default)).attrs) (((l.getD i default)).attrs)) ((((r.take (Int.toNat (((l.getD i default)).n))).getD j default)).attrs))))), (122, .box [.t (.sc (.int .i64 (((l.getD i default)).kind))), .t (.sc (.int .i64 (((l.getD i default)).n))), .t (.lst 2 (List.map attrT (((l.getD i default)).attrs))), .t (.lst 3 (List.map elemT (((l.getD i default)).elems)))]), (322, .row 3 false (List.map elemT []))])
            (C := [Weak (.t (.sc (.int .i64 (IntKind.i64.wrap ((j : Int) + 1))))) (.t (.sc (.int .i64 ((j : Int) + 1))))]) (by kernel_rfl) ?_ ?_
          · -- region 16
            refine ⟨(Weak.of_eq (nw ?_)), trivial⟩
            all_goals omega
          refine andThen_normal ?_
          refine LoopSim.weaken (Le.ren (τ := [(64, 64), (72, 72), (322, 73), (122, 122)]) (keys := [0, 7, 9, 18, 19, 20, 40, 41, 42]) (nx := 218) (sl := [(0, .t (.lst 3 (List.map elemT r))), (7, .ptr 64 0), (9, .ptr 122 0), (18, .t (.lst 4 (List.map dstepT l))), (19, .t (.sc (.int .i64 (l.length : Int)))), (20, .t (.sc (.int .i64 (i : Int)))), (40, .t (.lst 3 (List.map elemT (r.take (Int.toNat (((l.getD i default)).n)))))), (41, .t (.sc (.int .i64 ((r.take (Int.toNat (((l.getD i default)).n))).length : Int)))), (42, .t (.sc (.int .i64 (((j + 1) : Nat) : Int))))]) (l := [(64, .box [.row 72 ((keepD (flushD ⟨o, a, c⟩) 1 (fm chgG (fm rawG ((((r.take (Int.toNat (((l.getD i default)).n))).getD j default)).attrs) (((l.getD i default)).attrs)) ((((r.take (Int.toNat (((l.getD i default)).n))).getD j default)).attrs))).length), .row 73 0, .t (.sc (.int .i64 0))]), (72, .row 4 false (List.map dstepT (keepD (flushD ⟨o, a, c⟩) 1 (fm chgG (fm rawG ((((r.take (Int.toNat (((l.getD i default)).n))).getD j default)).attrs) (((l.getD i default)).attrs)) ((((r.take (Int.toNat (((l.getD i default)).n))).getD j default)).attrs))))), (73, .row 3 false (List.map elemT [])), (122, .box [.t (.sc (.int .i64 (((l.getD i default)).kind))), .t (.sc (.int .i64 (((l.getD i default)).n))), .t (.lst 2 (List.map attrT (((l.getD i default)).attrs))), .t (.lst 3 (List.map elemT (((l.getD i default)).elems)))])]) (by kernel_rfl)) ?_
          refine ih13 ((j + 1), 0, (keepD (flushD ⟨o, a, c⟩) 1 (fm chgG (fm rawG ((((r.take (Int.toNat (((l.getD i default)).n))).getD j default)).attrs) (((l.getD i default)).attrs)) ((((r.take (Int.toNat (((l.getD i default)).n))).getD j default)).attrs))), []) ?_ ?_
          · -- back 13.1, invariant
            exact ⟨by omega, hD⟩
          · -- back 13.1, measure
            show (_:Nat) < _; (first | omega | with_reducible exact fun h => h | (intro hq; rw [hq]; done) | (intro hq; rw [hq]; rfl) | (simp only [List.length_map]; done) | (simp only [List.length_map]; omega) | (simp; omega) | (simp; done))
        · (try simp only [decide_eq_true_eq, decide_eq_false_iff_not, Int.not_lt, Int.not_le] at h13)
          refine Sim.exit ?_
          refine andThen_exit ?_
          refine andThen_exit ?_
          refine inBlk_same ?_
          refine andThen_normal ?_
          refine Sim.reg (orcs := [(3, ⟨some (.t (.lst 3 (List.map elemT (r.drop (Int.toNat (((l.getD i default)).n)))))), none, none, none⟩)]) (keys := [0, 7, 18, 19, 20]) (τ := [(64, 64), (72, 72), (73, 73)]) (nx := 266)
            (sl := [(0, .t (.lst 3 (List.map elemT (r.drop (Int.toNat (((l.getD i default)).n)))))), (7, .ptr 64 0), (18, .t (.lst 4 (List.map dstepT l))), (19, .t (.sc (.int .i64 (l.length : Int)))), (20, .t (.sc (.int .i64 (i : Int))))]) (l := [(64, .box [.row 72 o.length, .row 73 a.length, .t (.sc (.int .i64 c))]), (72, .row 4 false (List.map dstepT o)), (73, .row 3 false (List.map elemT a))])
            (C := [(0:Int) ≤ (((l.getD i default)).n), (((l.getD i default)).n) ≤ (((List.map elemT r).length : Nat) : Int), Weak (.t (.lst 3 ((List.map elemT r).drop (Int.toNat (((l.getD i default)).n))))) (.t (.lst 3 (List.map elemT (r.drop (Int.toNat (((l.getD i default)).n))))))]) (by kernel_rfl) ?_ ?_
          · -- region 17
            refine ⟨?_, ?_, (Weak.of_eq sl_drop), trivial⟩
            all_goals (first | omega | with_reducible exact fun h => h | (intro hg hq; rw [hg, hq]; rfl) | (intro hq; rw [hq]; done) | (intro hq; rw [hq]; rfl) | ((try intro hg); (try simp [-List.getD_eq_getElem?_getD] at hg); (try simp only [List.length_map]); first | done | omega | rfl | (simp; done) | (simp; omega) | (simp [hg]; done) | (intro hq; simp [hg, hq]; done) | (intro hq; simp [hg, hq]; omega)))
          refine inBlk_normal ?_
          refine inBlk_normal ?_
          refine andThen_normal ?_
          refine Sim.reg (orcs := [(0, ⟨some (.t (.sc (.int .i64 ((i : Int) + 1)))), none, none, none⟩)]) (keys := [0, 7, 18, 19, 20]) (τ := [(64, 64), (72, 72), (73, 73)]) (nx := 282)
            (sl := [(0, .t (.lst 3 (List.map elemT (r.drop (Int.toNat (((l.getD i default)).n)))))), (7, .ptr 64 0), (18, .t (.lst 4 (List.map dstepT l))), (19, .t (.sc (.int .i64 (l.length : Int)))), (20, .t (.sc (.int .i64 ((i : Int) + 1))))]) (l := [(64, .box [.row 72 o.length, .row 73 a.length, .t (.sc (.int .i64 c))]), (72, .row 4 false (List.map dstepT o)), (73, .row 3 false (List.map elemT a))])
            (C := [Weak (.t (.sc (.int .i64 (IntKind.i64.wrap ((i : Int) + 1))))) (.t (.sc (.int .i64 ((i : Int) + 1))))]) (by kernel_rfl) ?_ ?_
          · -- region 20
            refine ⟨(Weak.of_eq (nw ?_)), trivial⟩
            all_goals omega
          refine andThen_normal ?_
          refine LoopSim.weaken (Le.ren (τ := [(64, 64), (72, 72), (73, 73)]) (keys := [0, 7, 18, 19, 20]) (nx := 98) (sl := [(0, .t (.lst 3 (List.map elemT (r.drop (Int.toNat (((l.getD i default)).n)))))), (7, .ptr 64 0), (18, .t (.lst 4 (List.map dstepT l))), (19, .t (.sc (.int .i64 (l.length : Int)))), (20, .t (.sc (.int .i64 (((i + 1) : Nat) : Int))))]) (l := [(64, .box [.row 72 o.length, .row 73 a.length, .t (.sc (.int .i64 c))]), (72, .row 4 false (List.map dstepT o)), (73, .row 3 false (List.map elemT a))]) (by kernel_rfl)) ?_
          skip
          refine ih6 ((r.drop (Int.toNat (((l.getD i default)).n))), (i + 1), c, o, a) ?_ ?_
          · -- back 6.1, invariant
            refine ⟨by omega, I6.2.1.drop _, by (rw [List.length_drop]; omega), ?_⟩
            have hq := I13.2
            rw [List.drop_eq_nil_of_le (by omega)] at hq
            exact hq
          · -- back 6.1, measure
            show l.length - (i + 1) < l.length - i; omega
      · (try simp only [beq_iff_eq, beq_eq_false_iff_ne, ne_eq] at h11)
        refine Sim.seq ?_
        refine Sim.reg (orcs := []) (keys := [0, 7, 9, 18, 19, 20, 60]) (τ := [(64, 64), (72, 72), (73, 73), (122, 122)]) (nx := 186)
          (sl := [(0, .t (.lst 3 (List.map elemT r))), (7, .ptr 64 0), (9, .ptr 122 0), (18, .t (.lst 4 (List.map dstepT l))), (19, .t (.sc (.int .i64 (l.length : Int)))), (20, .t (.sc (.int .i64 (i : Int)))), (60, .t (.sc (.bool ((((l.getD i default)).kind) == 1))))]) (l := [(64, .box [.row 72 o.length, .row 73 a.length, .t (.sc (.int .i64 c))]), (72, .row 4 false (List.map dstepT o)), (73, .row 3 false (List.map elemT a)), (122, .box [.t (.sc (.int .i64 (((l.getD i default)).kind))), .t (.sc (.int .i64 (((l.getD i default)).n))), .t (.lst 2 (List.map attrT (((l.getD i default)).attrs))), .t (.lst 3 (List.map elemT (((l.getD i default)).elems)))])])
          (C := []) (by kernel_rfl) ?_ ?_
        · -- region 18
          trivial
        refine andThen_normal ?_
        refine Sim.cond (b := ((((l.getD i default)).kind) == 1)) (by kernel_rfl) (fun h18 => ?_) (fun h18 => ?_)
        · (try simp only [beq_iff_eq, beq_eq_false_iff_ne, ne_eq] at h18)
          rw [if_pos (by omega)] at s1 hr
          have hr0 := I6.2.2.2
          rw [hr] at hr0
          refine Sim.reg (orcs := [(4, ⟨some (.t (.sc (.int .i64 ((((l.getD i default)).elems).length : Int)))), none, none, none⟩), (5, ⟨some (.t (.sc (.int .i64 (c + ((((l.getD i default)).elems).length : Int))))), none, none, none⟩)]) (keys := [0, 7, 18, 19, 20]) (τ := [(64, 64), (72, 72), (73, 73)]) (nx := 250)
            (sl := [(0, .t (.lst 3 (List.map elemT r))), (7, .ptr 64 0), (18, .t (.lst 4 (List.map dstepT l))), (19, .t (.sc (.int .i64 (l.length : Int)))), (20, .t (.sc (.int .i64 (i : Int))))]) (l := [(64, .box [.row 72 o.length, .row 73 a.length, .t (.sc (.int .i64 (c + ((((l.getD i default)).elems).length : Int))))]), (72, .row 4 false (List.map dstepT o)), (73, .row 3 false (List.map elemT a))])
            (C := [Weak (.t (.sc (.int .i64 ((List.map elemT (((l.getD i default)).elems)).length : Int)))) (.t (.sc (.int .i64 ((((l.getD i default)).elems).length : Int)))), Weak (.t (.sc (.int .i64 (IntKind.i64.wrap (c + ((((l.getD i default)).elems).length : Int)))))) (.t (.sc (.int .i64 (c + ((((l.getD i default)).elems).length : Int)))))]) (by kernel_rfl) ?_ ?_
          · -- region 19
            refine ⟨(Weak.of_eq len_map), (Weak.of_eq (nw ?_)), trivial⟩
            all_goals omega
          refine inBlk_normal ?_
          refine inBlk_normal ?_
          refine andThen_normal ?_
          refine Sim.reg (orcs := [(0, ⟨some (.t (.sc (.int .i64 ((i : Int) + 1)))), none, none, none⟩)]) (keys := [0, 7, 18, 19, 20]) (τ := [(64, 64), (72, 72), (73, 73)]) (nx := 266)
            (sl := [(0, .t (.lst 3 (List.map elemT r))), (7, .ptr 64 0), (18, .t (.lst 4 (List.map dstepT l))), (19, .t (.sc (.int .i64 (l.length : Int)))), (20, .t (.sc (.int .i64 ((i : Int) + 1))))]) (l := [(64, .box [.row 72 o.length, .row 73 a.length, .t (.sc (.int .i64 (c + ((((l.getD i default)).elems).length : Int))))]), (72, .row 4 false (List.map dstepT o)), (73, .row 3 false (List.map elemT a))])
            (C := [Weak (.t (.sc (.int .i64 (IntKind.i64.wrap ((i : Int) + 1))))) (.t (.sc (.int .i64 ((i : Int) + 1))))]) (by kernel_rfl) ?_ ?_
          · -- region 20
            refine ⟨(Weak.of_eq (nw ?_)), trivial⟩
            all_goals omega
          refine andThen_normal ?_
          refine LoopSim.weaken (Le.ren (τ := [(64, 64), (72, 72), (73, 73)]) (keys := [0, 7, 18, 19, 20]) (nx := 98) (sl := [(0, .t (.lst 3 (List.map elemT r))), (7, .ptr 64 0), (18, .t (.lst 4 (List.map dstepT l))), (19, .t (.sc (.int .i64 (l.length : Int)))), (20, .t (.sc (.int .i64 (((i + 1) : Nat) : Int))))]) (l := [(64, .box [.row 72 o.length, .row 73 a.length, .t (.sc (.int .i64 (c + ((((l.getD i default)).elems).length : Int))))]), (72, .row 4 false (List.map dstepT o)), (73, .row 3 false (List.map elemT a))]) (by kernel_rfl)) ?_
          skip
          refine ih6 (r, (i + 1), (c + ((((l.getD i default)).elems).length : Int)), o, a) ?_ ?_
          · -- back 6.2, invariant
            exact ⟨by omega, I6.2.1, by omega, hr0.cuts⟩
          · -- back 6.2, measure
            show l.length - (i + 1) < l.length - i; omega
        · (try simp only [beq_iff_eq, beq_eq_false_iff_ne, ne_eq] at h18)
          refine Sim.seq ?_
          rw [if_neg (by omega)] at s1
          rw [if_neg (by omega), if_pos (by omega)] at hr
          have hr0 := I6.2.2.2
          rw [hr] at hr0
          have hl8 : (r.take (l.getD i default).n.toNat).length = (l.getD i default).n.toNat := by rw [List.length_take]; omega
          have hta := (I6.2.1.take (l.getD i default).n.toNat).an
          refine Sim.reg (orcs := [(3, ⟨some (.t (.lst 3 (List.map elemT (r.take (Int.toNat (((l.getD i default)).n)))))), none, none, none⟩), (4, ⟨none, none, none, some (⟨2, [64, 72, 73], .tup [], [(64, .box [.row 72 ((o).length), .row 73 ((a ++ (r.take (Int.toNat (((l.getD i default)).n)))).length), .t (.sc (.int .i64 c))]), (72, .row 4 false (List.map dstepT o)), (73, .row 3 false (List.map elemT (a ++ (r.take (Int.toNat (((l.getD i default)).n))))))]⟩)⟩)]) (keys := [0, 7, 9, 18, 19, 20]) (τ := [(64, 64), (72, 72), (73, 73), (122, 122)]) (nx := 226)
            (sl := [(0, .t (.lst 3 (List.map elemT r))), (7, .ptr 64 0), (9, .ptr 122 0), (18, .t (.lst 4 (List.map dstepT l))), (19, .t (.sc (.int .i64 (l.length : Int)))), (20, .t (.sc (.int .i64 (i : Int))))]) (l := [(64, .box [.row 72 ((o).length), .row 73 ((a ++ (r.take (Int.toNat (((l.getD i default)).n)))).length), .t (.sc (.int .i64 c))]), (72, .row 4 false (List.map dstepT o)), (73, .row 3 false (List.map elemT (a ++ (r.take (Int.toNat (((l.getD i default)).n)))))), (122, .box [.t (.sc (.int .i64 (((l.getD i default)).kind))), .t (.sc (.int .i64 (((l.getD i default)).n))), .t (.lst 2 (List.map attrT (((l.getD i default)).attrs))), .t (.lst 3 (List.map elemT (((l.getD i default)).elems)))])])
            (C := [(0:Int) ≤ (((l.getD i default)).n), (((l.getD i default)).n) ≤ (((List.map elemT r).length : Nat) : Int), Weak (.t (.lst 3 ((List.map elemT r).take (Int.toNat (((l.getD i default)).n))))) (.t (.lst 3 (List.map elemT (r.take (Int.toNat (((l.getD i default)).n)))))), callable Try.prog 104 = true, FC Try.prog 104 [.ptr 64 0, .t (.lst 3 (List.map elemT (r.take (Int.toNat (((l.getD i default)).n)))))] (only (only (app emp [(64, .box [.row 72 o.length, .row 73 a.length, .t (.sc (.int .i64 c))]), (72, .row 4 false (List.map dstepT o)), (73, .row 3 false (List.map elemT a)), (122, .box [.t (.sc (.int .i64 (((l.getD i default)).kind))), .t (.sc (.int .i64 (((l.getD i default)).n))), .t (.lst 2 (List.map attrT (((l.getD i default)).attrs))), .t (.lst 3 (List.map elemT (((l.getD i default)).elems)))])]) [64, 64, 72, 73]) [64, 72, 73]) (.tup []) (app (only (only (app emp [(64, .box [.row 72 o.length, .row 73 a.length, .t (.sc (.int .i64 c))]), (72, .row 4 false (List.map dstepT o)), (73, .row 3 false (List.map elemT a)), (122, .box [.t (.sc (.int .i64 (((l.getD i default)).kind))), .t (.sc (.int .i64 (((l.getD i default)).n))), .t (.lst 2 (List.map attrT (((l.getD i default)).attrs))), .t (.lst 3 (List.map elemT (((l.getD i default)).elems)))])]) [64, 64, 72, 73]) [64, 72, 73]) [(64, .box [.row 72 ((o).length), .row 73 ((a ++ (r.take (Int.toNat (((l.getD i default)).n)))).length), .t (.sc (.int .i64 c))]), (72, .row 4 false (List.map dstepT o)), (73, .row 3 false (List.map elemT (a ++ (r.take (Int.toNat (((l.getD i default)).n))))))])]) (by kernel_rfl) ?_ ?_
          · -- region 9
            refine ⟨?_, ?_, (Weak.of_eq sl_take), (by kernel_rfl), (FC.at (FC.ren (fc_dElems o a c (r.take (Int.toNat (((l.getD i default)).n))) (by assumption) (by omega)) [(0, 64), (1, 72), (2, 73)] [(0, 64), (1, 72), (2, 73)] (l0' := [(64, .box [.row 72 o.length, .row 73 a.length, .t (.sc (.int .i64 c))]), (72, .row 4 false (List.map dstepT o)), (73, .row 3 false (List.map elemT a))]) (args' := [.ptr 64 0, .t (.lst 3 (List.map elemT (r.take (Int.toNat (((l.getD i default)).n)))))]) (res' := .tup []) (l1' := [(64, .box [.row 72 ((o).length), .row 73 ((a ++ (r.take (Int.toNat (((l.getD i default)).n)))).length), .t (.sc (.int .i64 c))]), (72, .row 4 false (List.map dstepT o)), (73, .row 3 false (List.map elemT (a ++ (r.take (Int.toNat (((l.getD i default)).n))))))]) (by kernel_rfl) (by kernel_rfl) (by kernel_rfl) (by kernel_rfl) (by kernel_rfl) (by kernel_rfl)) (fun i => by by_cases e0 : i = 64; (subst e0; rfl); by_cases e1 : i = 72; (subst e1; rfl); by_cases e2 : i = 73; (subst e2; rfl); by_cases e3 : i = 122; (subst e3; rfl); simp only [only, app, upd, emp, hasId, cond_false, beq_ne e0, beq_ne (Ne.symm e0), beq_ne e1, beq_ne (Ne.symm e1), beq_ne e2, beq_ne (Ne.symm e2), beq_ne e3, beq_ne (Ne.symm e3)]) (fun i => by by_cases e0 : i = 64; (subst e0; rfl); by_cases e1 : i = 72; (subst e1; rfl); by_cases e2 : i = 73; (subst e2; rfl); by_cases e3 : i = 122; (subst e3; rfl); simp only [only, app, upd, emp, hasId, cond_false, beq_ne e0, beq_ne (Ne.symm e0), beq_ne e1, beq_ne (Ne.symm e1), beq_ne e2, beq_ne (Ne.symm e2), beq_ne e3, beq_ne (Ne.symm e3)])), trivial⟩
            all_goals (first | omega | with_reducible exact fun h => h | (intro hg hq; rw [hg, hq]; rfl) | (intro hq; rw [hq]; done) | (intro hq; rw [hq]; rfl) | ((try intro hg); (try simp [-List.getD_eq_getElem?_getD] at hg); (try simp only [List.length_map]); first | done | omega | rfl | (simp; done) | (simp; omega) | (simp [hg]; done) | (intro hq; simp [hg, hq]; done) | (intro hq; simp [hg, hq]; omega)))
          refine andThen_normal ?_
          refine Sim.reg (orcs := [(3, ⟨some (.t (.lst 3 (List.map elemT (r.drop (Int.toNat (((l.getD i default)).n)))))), none, none, none⟩)]) (keys := [0, 7, 18, 19, 20]) (τ := [(64, 64), (72, 72), (73, 73)]) (nx := 266)
            (sl := [(0, .t (.lst 3 (List.map elemT (r.drop (Int.toNat (((l.getD i default)).n)))))), (7, .ptr 64 0), (18, .t (.lst 4 (List.map dstepT l))), (19, .t (.sc (.int .i64 (l.length : Int)))), (20, .t (.sc (.int .i64 (i : Int))))]) (l := [(64, .box [.row 72 ((o).length), .row 73 ((a ++ (r.take (Int.toNat (((l.getD i default)).n)))).length), .t (.sc (.int .i64 c))]), (72, .row 4 false (List.map dstepT o)), (73, .row 3 false (List.map elemT (a ++ (r.take (Int.toNat (((l.getD i default)).n))))))])
            (C := [(0:Int) ≤ (((l.getD i default)).n), (((l.getD i default)).n) ≤ (((List.map elemT r).length : Nat) : Int), Weak (.t (.lst 3 ((List.map elemT r).drop (Int.toNat (((l.getD i default)).n))))) (.t (.lst 3 (List.map elemT (r.drop (Int.toNat (((l.getD i default)).n))))))]) (by kernel_rfl) ?_ ?_
          · -- region 10
            refine ⟨?_, ?_, (Weak.of_eq sl_drop), trivial⟩
            all_goals (first | omega | with_reducible exact fun h => h | (intro hg hq; rw [hg, hq]; rfl) | (intro hq; rw [hq]; done) | (intro hq; rw [hq]; rfl) | ((try intro hg); (try simp [-List.getD_eq_getElem?_getD] at hg); (try simp only [List.length_map]); first | done | omega | rfl | (simp; done) | (simp; omega) | (simp [hg]; done) | (intro hq; simp [hg, hq]; done) | (intro hq; simp [hg, hq]; omega)))
          refine inBlk_normal ?_
          refine inBlk_normal ?_
          refine andThen_normal ?_
          refine Sim.reg (orcs := [(0, ⟨some (.t (.sc (.int .i64 ((i : Int) + 1)))), none, none, none⟩)]) (keys := [0, 7, 18, 19, 20]) (τ := [(64, 64), (72, 72), (73, 73)]) (nx := 282)
            (sl := [(0, .t (.lst 3 (List.map elemT (r.drop (Int.toNat (((l.getD i default)).n)))))), (7, .ptr 64 0), (18, .t (.lst 4 (List.map dstepT l))), (19, .t (.sc (.int .i64 (l.length : Int)))), (20, .t (.sc (.int .i64 ((i : Int) + 1))))]) (l := [(64, .box [.row 72 ((o).length), .row 73 ((a ++ (r.take (Int.toNat (((l.getD i default)).n)))).length), .t (.sc (.int .i64 c))]), (72, .row 4 false (List.map dstepT o)), (73, .row 3 false (List.map elemT (a ++ (r.take (Int.toNat (((l.getD i default)).n))))))])
            (C := [Weak (.t (.sc (.int .i64 (IntKind.i64.wrap ((i : Int) + 1))))) (.t (.sc (.int .i64 ((i : Int) + 1))))]) (by kernel_rfl) ?_ ?_
          · -- region 20
            refine ⟨(Weak.of_eq (nw ?_)), trivial⟩
            all_goals omega
          refine andThen_normal ?_
          refine LoopSim.weaken (Le.ren (τ := [(64, 64), (72, 72), (73, 73)]) (keys := [0, 7, 18, 19, 20]) (nx := 98) (sl := [(0, .t (.lst 3 (List.map elemT (r.drop (Int.toNat (((l.getD i default)).n)))))), (7, .ptr 64 0), (18, .t (.lst 4 (List.map dstepT l))), (19, .t (.sc (.int .i64 (l.length : Int)))), (20, .t (.sc (.int .i64 (((i + 1) : Nat) : Int))))]) (l := [(64, .box [.row 72 ((o).length), .row 73 ((a ++ (r.take (Int.toNat (((l.getD i default)).n)))).length), .t (.sc (.int .i64 c))]), (72, .row 4 false (List.map dstepT o)), (73, .row 3 false (List.map elemT (a ++ (r.take (Int.toNat (((l.getD i default)).n))))))]) (by kernel_rfl)) ?_
          skip
          refine ih6 ((r.drop (Int.toNat (((l.getD i default)).n))), (i + 1), c, o, (a ++ (r.take (Int.toNat (((l.getD i default)).n))))) ?_ ?_
          · -- back 6.3, invariant
            exact ⟨by omega, I6.2.1.drop _, by (rw [List.length_drop]; omega), hr0.elems⟩
          · -- back 6.3, measure
            show l.length - (i + 1) < l.length - i; omega
    · (try simp only [decide_eq_true_eq, decide_eq_false_iff_not, Int.not_lt, Int.not_le] at h6)
      refine Sim.exit ?_
      refine andThen_exit ?_
      refine andThen_exit ?_
      refine inBlk_same ?_
      refine andThen_normal ?_
      refine Sim.seq ?_
      have hq := I6.2.2.2
      rw [List.drop_eq_nil_of_le (by omega)] at hq
      have hfl2 := hq.fl.2
      have hG := DI.done (by simpa [exD, undoU] using hq)
      have hfx : flushD ⟨o, a, c⟩ = undoD f l := by rw [hG]; rfl
      have hcd2 : checkD (flushD ⟨o, a, c⟩) = 0 := by rw [hfx]; exact hcd
      refine Sim.reg (orcs := [(0, ⟨none, none, none, some (⟨2, [64, 72, 73], .tup [.row 72 ((flushD ⟨o, a, c⟩).length), .t (.sc (.int .i64 0))], [(64, .box [.row 72 ((flushD ⟨o, a, c⟩).length), .row 106 0, .t (.sc (.int .i64 0))]), (72, .row 4 false (List.map dstepT (flushD ⟨o, a, c⟩))), (73, .row 3 true (List.map elemT a)), (106, .row 3 false (List.map elemT []))]⟩)⟩)]) (keys := [4, 5]) (τ := [(72, 72)]) (nx := 146)
        (sl := [(4, .row 72 ((flushD ⟨o, a, c⟩).length)), (5, .t (.sc (.int .i64 0)))]) (l := [(72, .row 4 false (List.map dstepT (flushD ⟨o, a, c⟩)))])
        (C := [callable Try.prog 105 = true, FC Try.prog 105 [.ptr 64 0] (only (only (app emp [(64, .box [.row 72 o.length, .row 73 a.length, .t (.sc (.int .i64 c))]), (72, .row 4 false (List.map dstepT o)), (73, .row 3 false (List.map elemT a))]) [64, 64, 72, 73]) [64, 72, 73]) (.tup [.row 72 ((flushD ⟨o, a, c⟩).length), .t (.sc (.int .i64 0))]) (app (only (only (app emp [(64, .box [.row 72 o.length, .row 73 a.length, .t (.sc (.int .i64 c))]), (72, .row 4 false (List.map dstepT o)), (73, .row 3 false (List.map elemT a))]) [64, 64, 72, 73]) [64, 72, 73]) [(64, .box [.row 72 ((flushD ⟨o, a, c⟩).length), .row 106 0, .t (.sc (.int .i64 0))]), (72, .row 4 false (List.map dstepT (flushD ⟨o, a, c⟩))), (73, .row 3 true (List.map elemT a)), (106, .row 3 false (List.map elemT []))])]) (by kernel_rfl) ?_ ?_
      · -- region 21
        exact ⟨(by kernel_rfl), (FC.at (FC.ren (fc_dDone o a c (by omega) (by assumption) (by assumption)) [(0, 64), (1, 72), (2, 73)] [(0, 64), (1, 72), (2, 73), (3, 106)] (l0' := [(64, .box [.row 72 o.length, .row 73 a.length, .t (.sc (.int .i64 c))]), (72, .row 4 false (List.map dstepT o)), (73, .row 3 false (List.map elemT a))]) (args' := [.ptr 64 0]) (res' := .tup [.row 72 ((flushD ⟨o, a, c⟩).length), .t (.sc (.int .i64 0))]) (l1' := [(64, .box [.row 72 ((flushD ⟨o, a, c⟩).length), .row 106 0, .t (.sc (.int .i64 0))]), (72, .row 4 false (List.map dstepT (flushD ⟨o, a, c⟩))), (73, .row 3 true (List.map elemT a)), (106, .row 3 false (List.map elemT []))]) (by kernel_rfl) (by kernel_rfl) (by kernel_rfl) (by kernel_rfl) (by kernel_rfl) (by kernel_rfl)) (fun i => by by_cases e0 : i = 64; (subst e0; rfl); by_cases e1 : i = 72; (subst e1; rfl); by_cases e2 : i = 73; (subst e2; rfl); by_cases e3 : i = 106; (subst e3; rfl); simp only [only, app, upd, emp, hasId, cond_false, beq_ne e0, beq_ne (Ne.symm e0), beq_ne e1, beq_ne (Ne.symm e1), beq_ne e2, beq_ne (Ne.symm e2), beq_ne e3, beq_ne (Ne.symm e3)]) (fun i => by by_cases e0 : i = 64; (subst e0; rfl); by_cases e1 : i = 72; (subst e1; rfl); by_cases e2 : i = 73; (subst e2; rfl); by_cases e3 : i = 106; (subst e3; rfl); simp only [only, app, upd, emp, hasId, cond_false, beq_ne e0, beq_ne (Ne.symm e0), beq_ne e1, beq_ne (Ne.symm e1), beq_ne e2, beq_ne (Ne.symm e2), beq_ne e3, beq_ne (Ne.symm e3)])), trivial⟩
      refine andThen_normal ?_
      refine Sim.ret ?_
      refine Fin.le (Le.freeze (t := 4) (v' := .t (.lst 4 (List.map dstepT (flushD ⟨o, a, c⟩)))) (g := [(72, .row 4 true (List.map dstepT (flushD ⟨o, a, c⟩)))]) (p := [(((flushD ⟨o, a, c⟩).length) : Nat) = (List.map dstepT (flushD ⟨o, a, c⟩)).length]) rfl (by kernel_rfl) ⟨(by (first | omega | with_reducible exact fun h => h | (intro hq; rw [hq]; done) | (intro hq; rw [hq]; rfl) | (simp only [List.length_map]; done) | (simp only [List.length_map]; omega) | (simp; omega) | (simp; done))), trivial⟩ (by kernel_rfl)) ?_
      refine Fin.mk2 (.inl rfl) (τ := []) (keys := [4, 5]) (nx := 146) (sl := [(4, .t (.lst 4 (List.map dstepT (flushD ⟨o, a, c⟩)))), (5, .t (.sc (.int .i64 0)))]) (l := []) (res' := .tup [.t (.lst 4 (List.map dstepT (flushD ⟨o, a, c⟩))), .t (.sc (.int .i64 0))]) (by kernel_rfl) ?_ (by kernel_rfl) ?_
      · -- end 1, objects
        first | done | rfl
      · -- end 1, result
        have e1 : ((undoD f l)) = (flushD ⟨o, a, c⟩) := by
          rw [hfx]
        show AVal.tup [.t (.lst 4 (List.map dstepT (flushD ⟨o, a, c⟩))), .t (.sc (.int .i64 0))] = .tup [.t (.lst 4 (List.map dstepT (undoD f l))), .t (.sc (.int .i64 0))]
        rw [e1]
        try rfl
end Go.Ch
